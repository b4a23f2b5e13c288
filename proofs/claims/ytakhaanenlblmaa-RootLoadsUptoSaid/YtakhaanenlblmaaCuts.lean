/- Parts of slices of anything, with their block; append onto a full row. -/
import Derived.Test.YtakhaanenlblmaaBase
import Derived.Test.YtakhaanenlblmaaOpenA
set_option linter.unusedSimpArgs false
set_option linter.unusedVariables false
namespace Go.Proofs.Ytakhaanenlblmaa
open Go.RowKit
theorem sliced_own {a a':Option Addr} {lo hi c size m c':Nat} (h:sliced a lo hi c size=.slice a' m c') (k:Nat) (hk:(Value.slice a' m c').ownBlock=some k):∀ n d,(Value.slice a n d).ownBlock=some k:=by
 intro n d
 unfold sliced at h
 simp only [Value.slice.injEq] at h
 rw [← h.1] at hk
 cases a with
 | none=>simp [Value.ownBlock] at hk
 | some p =>
  have hadd:∀ j,(p.add j).block=p.block:=fun j=>by unfold Addr.add;split <;> rfl
  by_cases hc:c=lo
  ·rw [if_pos hc] at hk;exact hk
  ·rw [if_neg hc] at hk
   simp only [Option.map_some,Value.ownBlock,hadd] at hk
   exact hk
theorem from_anyB {α:Type} {f:α→List Value} {P:Program} {t e:TypeId} {z:Value} {size bytes:Nat} (el:El0 P t e z size bytes f) {w:World} {a:Option Addr} {n c:Nat} {l:List α} (h:RowOf f size w (.slice a n c) l) (lo:Nat) (h1:lo≤n) (x:Int) (hx:x=lo) :
  ∃ a' c',(∀ k w',(Instr.slice t (.slice a n c) (some (.int k x)) none none).run P w'=.ok (.slice a' (n - lo) c') w')∧RowOf f size w (.slice a' (n - lo) c') (l.drop lo)∧∀ k,(Value.slice a' (n - lo) c').ownBlock=some k→∀ m d,(Value.slice a m d).ownBlock=some k:=by
 subst hx
 obtain ⟨hn,hnc,hcm⟩:=h.fits
 obtain ⟨a',c',h2,h3⟩:=h.part el.hf el.hsz lo n h1 (Nat.le_refl _)
 obtain ⟨i,hi,_,hsi,_⟩:=el.info
 have hel:P.elem t=e:=by unfold Program.elem;rw [el.ht]
 refine ⟨a',c',fun k w'=>?_,by subst hn;simpa using h3,fun k hk=>sliced_own h2 k hk⟩
 rw [run_slice_l (P:=P) w' (t:=t) (a:=a) (len:=n) (cap:=c) (by rw [hel];exact el.ht) k (lo:Int) (by omega) (by omega)]
 rw [hel]
 simp [sizeOf,typeInfo,hi,hsi,← h2]
theorem to_anyB {α:Type} {f:α→List Value} {P:Program} {t e:TypeId} {z:Value} {size bytes:Nat} (el:El0 P t e z size bytes f) {w:World} {a:Option Addr} {n c:Nat} {l:List α} (h:RowOf f size w (.slice a n c) l) (hi:Nat) (h1:hi≤n) (x:Int) (hx:x=hi) :
  ∃ a' c',(∀ k w',(Instr.slice t (.slice a n c) none (some (.int k x)) none).run P w'=.ok (.slice a' hi c') w')∧RowOf f size w (.slice a' hi c') (l.take hi)∧∀ k,(Value.slice a' hi c').ownBlock=some k→∀ m d,(Value.slice a m d).ownBlock=some k:=by
 subst hx
 obtain ⟨hn,hnc,hcm⟩:=h.fits
 obtain ⟨a',c',h2,h3⟩:=h.part el.hf el.hsz 0 hi (Nat.zero_le _) h1
 obtain ⟨i,hi',_,hsi,_⟩:=el.info
 have hel:P.elem t=e:=by unfold Program.elem;rw [el.ht]
 refine ⟨a',c',fun k w'=>?_,by simpa using h3,fun k hk=>sliced_own h2 k hk⟩
 rw [run_slice_h (P:=P) w' (t:=t) (a:=a) (len:=n) (cap:=c) (by rw [hel];exact el.ht) k (hi:Int) (by omega) (by omega)]
 rw [hel]
 simp [sizeOf,typeInfo,hi',hsi] at h2 ⊢
 exact h2
theorem wpList_appF {α:Type} {f:α→List Value} {P:Program} {w:World} {ops:Array Oper} {rest:List Oper} {o:Oper} {a:Act} {Q:Exit→Act→World→Prop} (hgd:o.guard=none) (s x:Operand) (t:TypeId)
  (ho:o.op=.call { callee:=.builtin .append,args:=#[s,x],argTypes:=#[t,t] })
  {e:TypeId} {z:Value} {size bytes:Nat} (el:El0 P t e z size bytes f)
  {ao:Option Addr} {n cap:Nat} {l m:List α} (h1:∀ u∈m.flatMap f,u.oneCell'=true) (hs:a.eval s=.slice ao n cap) (hrow1:RowOf f size w (.slice ao n cap) l)
  {u:Value} (hx:a.eval x=u) (hrow:RowOf f size w u m) (hm0:m.length≠0) (hfull:cap<n+m.length)
  (hbytes:(l.length+m.length) * bytes≤140737488355328) (h63:l.length+m.length≤maxLen)
  (h:∀ v' w',RowOf f size w' v' (l++m)→Below w.heap.size w w'→wpList P ops Q rest (a.put o.dst v') w'):wpList P ops Q (o::rest) a w:=by
 obtain ⟨i,hi,hz,hsi,hby⟩:=el.info
 have hadd:∀ (b off j:Nat),(⟨b,off,none⟩:Addr).add j=⟨b,off+j,none⟩:=fun b off j=>by unfold Addr.add;split <;> simp_all
 obtain ⟨k0,ao',c',hv',_,_,k3⟩:=hrow1
 simp only [Value.slice.injEq] at hv'
 obtain ⟨rfl,rfl,rfl⟩:=hv'
 obtain ⟨h0,ad,c,rfl,_,_,h3⟩:=hrow
 rcases h3 with ⟨_,hm,_⟩|⟨b,off,sp,rfl,hsp,h3⟩
 ·exact absurd hm hm0
 ·obtain rfl:sp=none:=hsp.resolve_right hm0
  refine wpList_append_grows w hgd s x t ho e i z size bytes el.ht hi hz hsi hby el.hzs el.hsz ao l.length cap (l.flatMap f) hs ?_ k0 ?_ ⟨b,off,none⟩ m.length c (m.flatMap f) hx h0 (fun j y hy=>by rw [hadd];exact h3 j y hy) h1 hfull h63 hbytes
   (fun v' w' q1 q2=>h v' w' (by
    have:OwnOf f size e w' w.heap.size v' (l++m):=by unfold OwnOf;rw [List.length_append,List.flatMap_append];exact q1
    exact this.row) ((Below.refl _ _).grown q2 (Nat.le_refl _) (fun k hk=>by cases hk)))
  ·rintro rfl
   rcases k3 with ⟨_,q1,q2⟩|⟨b2,off2,sp2,q,_⟩
   ·exact ⟨q1,q2⟩
   ·cases q
  ·rintro b1 rfl j u hu
   rcases k3 with ⟨q,_,_⟩|⟨b2,off2,sp2,q,hsp2,q3⟩
   ·cases q
   ·cases q
    have:sp2=none:=by
     rcases hsp2 with rfl|hl0
     ·rfl
     ·have:l=[]:=List.eq_nil_of_length_eq_zero hl0
      subst this;simp at hu
    subst this
    rw [hadd];exact q3 j u hu
end Go.Proofs.Ytakhaanenlblmaa
