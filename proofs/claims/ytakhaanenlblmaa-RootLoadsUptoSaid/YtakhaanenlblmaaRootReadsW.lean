/- The walk of the law RootReads. -/
import Derived.Test.YtakhaanenlblmaaRRead10
import Derived.Test.YtakhaanenlblmaaRRead2
set_option linter.unusedSimpArgs false
set_option linter.unusedVariables false
namespace Go.Proofs.Ytakhaanenlblmaa
open Go.RowKit
theorem rread_any (a:Option Addr) (L c:Nat) (b:List UInt8) (hL:b.length=L) (hLs:L≤1048576) (w:World) (h:Bytes w (.slice a L c) b):Calls Try.prog 139 #[.slice a L c] w (RdPost (rdB b) w):=by
 cases hd:dec b with
 | none =>
  have hr:rdB b=none:=by unfold rdB;rw [hd]
  rw [hr]
  exact read_no a L c b hL hLs hd w h
 | some p =>
  cases hs:shpP p with
  | none =>
   have hr:rdB b=none:=by unfold rdB;rw [hd];dsimp only;rw [hs]
   rw [hr]
   exact read_odd a L c b hL hLs p hd hs w h
  | some s =>
   have hr:rdB b=if okQ s=true then some s else none:=by unfold rdB;rw [hd];dsimp only;rw [hs]
   rw [hr]
   cases ho:okQ s with
   | false=>exact read_bad a L c b hL hLs p s hd hs ho w h
   | true=>exact read_yes a L c b hL hLs p s hd hs ho w h
theorem rd_le {b:List UInt8} {s:Shq} (h:rdB b=some s) (hb:b.length≤1048576):okQ s=true∧s.2.1.length≤4194304∧s.2.2.1.length≤1048576∧s.2.2.2.length≤1048576∧∀ t∈s.2.2.2,t.length≤1048576:=by
 unfold rdB at h
 cases hd:dec b with
 | none=>rw [hd] at h;simp at h
 | some p =>
  rw [hd] at h
  dsimp only at h
  cases hs:shpP p with
  | none=>rw [hs] at h;simp at h
  | some s2 =>
   rw [hs] at h
   dsimp only at h
   split at h
   ·rename_i ho
    simp only [Option.some.injEq] at h
    subst h
    exact ⟨ho,shp_le hs (by rw [← dec_back hd];exact hb)⟩
   ·simp at h
def RdForm (s:Shq) (E:Int) (w:World) (e:Ending) (w':World):Prop :=
 ∃ (pa:Option Addr) (pc:Nat) (va:Option Addr) (vc:Nat) (ka:Option Addr) (kc:Nat) (ps:List (Value × List UInt8)),e=.returned (.tuple #[.agg #[.int .i64 s.1,.slice pa s.2.1.length pc,.slice va s.2.2.1.length vc,.slice ka s.2.2.2.length kc],.int .i64 E]) ∧
   Below w.heap.size w w'∧Bytes w' (.slice pa s.2.1.length pc) s.2.1∧Bytes w' (.slice va s.2.2.1.length vc) s.2.2.1∧Texts w' (.slice ka s.2.2.2.length kc) ps∧ps.map (·.2)=s.2.2.2
theorem rd_form {o:Option Shq} {w:World} {e:Ending} {w':World} (h:RdPost o w e w'):RdForm (o.getD (0,[],[],[])) (if o.isSome then 0 else 1) w e w':=by
 obtain ⟨hb,h⟩:=h
 cases o with
 | none=>exact ⟨none,0,none,0,none,0,[],h,hb,RowOf.nil _ 1 w',RowOf.nil _ 1 w',⟨RowOf.nil tcell 1 w',by simp⟩,rfl⟩
 | some s =>
  obtain ⟨pa,pc,va,vc,ka,kc,ps,h1,h2,h3,h4,h5⟩:=h
  exact ⟨pa,pc,va,vc,ka,kc,ps,h1,hb,h2,h3,h4,h5⟩
end Go.Proofs.Ytakhaanenlblmaa
