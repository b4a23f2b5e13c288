/- A store, what it is written as, what reading answers: plain Lean. | client.list. | client.Write. | client.numbers. | A store is built out of its parts; client.Read: bytes that are no store. | client.Read: three kids. -/
import Derived.Test.YtgjgokcpampljaaHdrC
import Derived.Test.YtgjgokcpampljaaSeat4
import Derived.Test.YtgjgokcpampljaaHdrB
import Derived.Test.YtgjgokcpampljaaSeatA
import Derived.Test.YtgjgokcpampljaaPackA
import Derived.Test.YtgjgokcpampljaaBuild0
/- (Cli1) A store, what it is written as, what reading answers: plain Lean. -/
set_option linter.unusedSimpArgs false
set_option linter.unusedVariables false
namespace Go.Proofs.Ytgjgokcpampljaa
open Go.RowKit
structure Sto where
  hd : Hd
  s : List Nat
  n : List Nat
structure Sto.Ok (t : Sto) : Prop where
  hd : t.hd.Ok
  s : ∀ x ∈ t.s, x < 18446744073709551616
  n : ∀ x ∈ t.n, x < 18446744073709551616
  sl : t.s.length ≤ 1048576
  nl : t.n.length ≤ 1048576
/-- a list of numbers; a store -/
def nP (l : List Nat) : Pit := .lst ((l.map numB).map .txt)
def pitC (t : Sto) : Pit := .lst [.txt (wH t.hd), nP t.s, nP t.n]
def wC (t : Sto) : List UInt8 := encP (pitC t)
theorem seatB_nP (l : List Nat) : seatB l = encP (nP l) := lsB_enc _
theorem textB_num {x : Nat} (h : x < 18446744073709551616) : (textB (numB x)).length ≤ 9 := by
  have h8 := numB_8 x h
  unfold textB
  split
  · omega
  · unfold headB
    rw [if_pos (by omega), List.length_append, List.length_cons, List.length_nil]; omega
theorem flat_num : ∀ (l : List Nat), (∀ x ∈ l, x < 18446744073709551616) → ((l.map numB).flatMap textB).length ≤ 9 * l.length
  | [], _ => by simp
  | x :: l, h => by
    rw [List.map_cons, List.flatMap_cons, List.length_append, List.length_cons]
    have h1 := textB_num (h x List.mem_cons_self)
    have h2 := flat_num l (fun y hy => h y (List.mem_cons_of_mem _ hy))
    omega
theorem headB_le9 {base n : Nat} (h : n < 18446744073709551616) : (headB base n).length ≤ 9 := by
  unfold headB
  split
  · simp
  · have := numB_8 n h
    rw [List.length_cons]; omega
theorem seatB_len {l : List Nat} (h : ∀ x ∈ l, x < 18446744073709551616) (hl : l.length ≤ 1048576) : (seatB l).length ≤ 9437193 := by
  have h1 := flat_num l h
  have h2 := headB_le9 (base := 192) (n := ((l.map numB).flatMap textB).length) (by omega)
  unfold seatB lsB
  rw [List.length_append]; omega
theorem wC_len {t : Sto} (k : t.Ok) : (wC t).length ≤ 20000000 := by
  have h1 := seatB_len k.s k.sl
  have h2 := seatB_len k.n k.nl
  rw [seatB_nP] at h1 h2
  have h3 := wH_len k.hd
  have h4 : (textB (wH t.hd)).length ≤ 1009 := by
    rcases textB_len (wH t.hd) with h | h <;> omega
  have h5 : (encPL [.txt (wH t.hd), nP t.s, nP t.n]).length ≤ 19000000 := by
    simp only [encPL, encP, List.length_append, List.length_nil] at h1 h2 ⊢
    unfold nP at h1 h2 ⊢
    rw [encP, List.length_append] at h1 h2 ⊢
    simp only [nP, encP, List.length_append] at h1 h2 ⊢
    omega
  have h6 := headB_le9 (base := 192) (n := (encPL [.txt (wH t.hd), nP t.s, nP t.n]).length) (by omega)
  unfold wC pitC
  rw [encP, List.length_append]; omega
theorem nP_inj {l m : List Nat} (hl : ∀ x ∈ l, x < 18446744073709551616) (hm : ∀ x ∈ m, x < 18446744073709551616) (h : nP l = nP m) : l = m := by
  unfold nP at h
  injection h with h
  have h2 := txt_inj h
  clear h
  induction l generalizing m with
  | nil => cases m with
    | nil => rfl
    | cons y m => simp at h2
  | cons x l ih => cases m with
    | nil => simp at h2
    | cons y m =>
      simp only [List.map_cons, List.cons.injEq] at h2
      rw [numB_inj (hl x List.mem_cons_self) (hm y List.mem_cons_self) h2.1, ih (fun z hz => hl z (List.mem_cons_of_mem _ hz)) (fun z hz => hm z (List.mem_cons_of_mem _ hz)) h2.2]
theorem wC_inj {t u : Sto} (k : t.Ok) (j : u.Ok) (h : wC t = wC u) : t = u := by
  have hl := wC_len k
  unfold wC at hl h
  have h2 := encP_inj (by omega) h
  unfold pitC at h2
  simp only [Pit.lst.injEq, List.cons.injEq, Pit.txt.injEq, and_true] at h2
  obtain ⟨e1, e2, e3⟩ := h2
  cases t; cases u
  simp only [Sto.mk.injEq]
  exact ⟨wH_inj k.hd j.hd e1, nP_inj k.s j.s e2, nP_inj k.n j.n e3⟩
def zSto : Sto := ⟨zH, [], []⟩
theorem zSto_ok : zSto.Ok := ⟨zH_ok, by simp [zSto], by simp [zSto], by simp [zSto], by simp [zSto]⟩
/-- what reading a store's bytes answers -/
def RdC (b : List UInt8) (t : Sto) (e : Int) : Prop := (e = 0 ∧ wC t = b) ∨ (e = 1 ∧ t = zSto ∧ ∀ g : Sto, g.Ok → wC g ≠ b)
theorem RdC.one {b : List UInt8} {t u : Sto} {e f : Int} (k : t.Ok) (j : u.Ok) (x : RdC b t e) (y : RdC b u f) : t = u ∧ e = f := by
  rcases x with ⟨rfl, x⟩ | ⟨rfl, rfl, x⟩ <;> rcases y with ⟨rfl, y⟩ | ⟨rfl, rfl, y⟩
  · exact ⟨wC_inj k j (x.trans y.symm), rfl⟩
  · exact absurd x (y t k)
  · exact absurd y (x u j)
  · exact ⟨rfl, rfl⟩
/-- a kid -/
def qk (p : Pit) (i : Nat) : Pit := match p with
  | .txt _ => .txt []
  | .lst qs => qs[i]?.getD (.txt [])
def rdC (nf : List UInt8 → Nat) (H : Hd) (p : Pit) : Sto := ⟨H, (kidT (qk p 1)).map nf, (kidT (qk p 2)).map nf⟩
theorem wC_dec {g : Sto} (k : g.Ok) : dec (wC g) = some (pitC g) := by
  have hl := wC_len k
  unfold wC at hl ⊢
  exact dec_read (by omega)
theorem rdC_form {b : List UInt8} (h : decE b ≠ 0 ∨ kidsN (decP b) ≠ 3) : RdC b zSto 1 := by
  refine .inr ⟨rfl, rfl, fun g k e => ?_⟩
  have hd := wC_dec k
  rw [e] at hd
  rcases h with h | h
  · exact h (by unfold decE; rw [hd]; rfl)
  · exact h (by unfold decP; rw [hd]; rfl)
theorem map_back {nf : List UInt8 → Nat} (hf : ∀ x < 18446744073709551616, nf (numB x) = x) : ∀ {l : List Nat}, (∀ x ∈ l, x < 18446744073709551616) → (kidT (nP l)).map nf = l := by
  intro l hl
  unfold nP
  rw [kidT_txts, List.map_map]
  induction l with
  | nil => rfl
  | cons x l ih =>
    rw [List.map_cons, ih (fun y hy => hl y (List.mem_cons_of_mem _ hy)), Function.comp, hf x (hl x List.mem_cons_self)]
theorem rdC_not {nf : List UInt8 → Nat} (hf : ∀ x < 18446744073709551616, nf (numB x) = x) {b : List UInt8} {H : Hd} {e1 : Int} (hH : H.Ok) (h : RdHd (pitT (qk (decP b) 0)) H e1) (hbad : e1 ≠ 0 ∨ wC (rdC nf H (decP b)) ≠ b) : RdC b zSto 1 := by
  refine .inr ⟨rfl, rfl, fun g k e => ?_⟩
  have hd := wC_dec k
  rw [e] at hd
  have hp : decP b = pitC g := by unfold decP; rw [hd]; rfl
  rw [hp] at h hbad
  have h2 : RdHd (wH g.hd) H e1 := h
  obtain ⟨rfl, rfl⟩ := RdHd.one hH k.hd h2 (.inl ⟨rfl, rfl⟩)
  rcases hbad with h3 | h3
  · exact h3 rfl
  · apply h3
    have : rdC nf g.hd (pitC g) = g := by
      cases g
      simp only [rdC, Sto.mk.injEq, true_and]
      exact ⟨map_back hf k.s, map_back hf k.n⟩
    rw [this, e]
end Go.Proofs.Ytgjgokcpampljaa
/- (Cli2) client.list. -/
namespace Go.Proofs.Ytgjgokcpampljaa
open Go.RowKit
theorem LkW.off {w : World} {zs : List (TypeId × Nat × List Value)} {g9 : Nat} {kv : Value} {ks : List Itm} {u u' : World} {z : Nat} (h : LkW w zs g9 kv ks u) (hg : u.grownBy u' (some z)) (hz : z < g9) : IsItm u' (lst kv ks) := by
  refine IsItm.lst (h.hO.grown hg (fun k hk e => ?_)).row (fun k hk => ((h.hF k hk).to (S' := fun _ => True) hg.size (fun x hx hl => ⟨hg.block x hl (fun e => ?_), trivial⟩)).is)
  · cases hk; have := h.hO.lt z e; omega
  · injection e with e; have := hx.1; omega
end Go.Proofs.Ytgjgokcpampljaa
/- (Cli3) client.Write. -/
namespace Go.Proofs.Ytgjgokcpampljaa
open Go.RowKit
/-- an item that means p -/
def PItm (p : Pit) (m : Nat) : Ty := fun v w => ∃ l a n c a' n' c' t ks, v = .agg #[.bool l, .slice a n c, .slice a' n' c'] ∧ IsItm w (.mk l (.slice a n c) t (.slice a' n' c') ks) ∧ erI (.mk l (.slice a n c) t (.slice a' n' c') ks) = p ∧ bulkI (.mk l (.slice a n c) t (.slice a' n' c') ks) ≤ m
theorem PItm.mono (p : Pit) (m : Nat) : Mono (PItm p m) := fun _ _ _ ⟨l, a, n, c, a', n', c', t, ks, h1, h2, h3, h4⟩ hb => ⟨l, a, n, c, a', n', c', t, ks, h1, h2.kept hb, h3, h4⟩
/-- a row of items that mean ps -/
def PRow (ps : List Pit) (m : Nat) : Ty := fun v w => ∃ a n c its, v = .slice a n c ∧ RowOf icells 3 w v its ∧ (∀ i ∈ its, IsItm w i) ∧ its.map erI = ps ∧ bulkL its ≤ m
theorem PRow.mono (ps : List Pit) (m : Nat) : Mono (PRow ps m) := fun _ _ _ ⟨a, n, c, its, h1, h2, h3, h4, h5⟩ hb => ⟨a, n, c, its, h1, RowOf.kept h2 hb, fun i hi => (h3 i hi).kept hb, h4, h5⟩
theorem aggSt : Agg Try.prog 31 206 := ⟨_, Try.underlying31, rfl, by kernel_rfl⟩
theorem stc_len {t : Hd} (k : t.Ok) (vs vn : Value) : (hdcs t ++ [vs, vn]).length = 206 := by rw [List.length_append, hdcs_len k]; rfl
theorem stc_hd {t : Hd} (k : t.Ok) (vs vn : Value) : ((hdcs t ++ [vs, vn]).drop 0).take 204 = hdcs t := by rw [List.drop_zero, List.take_left' (hdcs_len k)]
theorem stc_s {t : Hd} (k : t.Ok) (vs vn : Value) : (hdcs t ++ [vs, vn])[204]? = some vs := by rw [List.getElem?_append_right (by rw [hdcs_len k]; omega), hdcs_len k]; rfl
theorem stc_n {t : Hd} (k : t.Ok) (vs vn : Value) : (hdcs t ++ [vs, vn])[205]? = some vn := by rw [List.getElem?_append_right (by rw [hdcs_len k]; omega), hdcs_len k]; rfl
theorem bulk_nP {kv : Value} {ps : List (Value × List UInt8)} {l : List Nat} (h : ps.map (·.2) = l.map numB) (hl : ∀ x ∈ l, x < 18446744073709551616) (hs : l.length ≤ 1048576) : bulkI (lst kv (txts ps)) ≤ 9437185 := by
  have := bulk_nums ps l h hl
  rw [bulk_lst]; omega
theorem er_nP {kv : Value} {ps : List (Value × List UInt8)} {l : List Nat} (h : ps.map (·.2) = l.map numB) : erI (lst kv (txts ps)) = nP l := by
  unfold lst nP
  rw [erI_mk, if_pos rfl, ← h]
  unfold txts
  rw [List.map_map, List.map_map]
  exact congrArg Pit.lst (List.map_congr_left fun p _ => by show erI (txt p.1 p.2) = _; unfold txt; rw [erI_mk]; rfl)
end Go.Proofs.Ytgjgokcpampljaa
/- (Cli4) client.numbers. -/
namespace Go.Proofs.Ytgjgokcpampljaa
open Go.RowKit
theorem elN : El0 Try.prog 29 24 (.int .u64 0) 1 8 u64c := ⟨by kernel_rfl, by kernel_rfl, rfl, by omega, fun _ => rfl⟩
end Go.Proofs.Ytgjgokcpampljaa
/- (Cli5) A store is built out of its parts; client.Read: bytes that are no store. -/
namespace Go.Proofs.Ytgjgokcpampljaa
open Go.RowKit
theorem zcSt : Try.zeroCells31 = (hdcs zH ++ [Value.slice none 0 0, Value.slice none 0 0]).toArray := by kernel_rfl
theorem built_st {H : Hd} (k : H.Ok) (sa : Option Addr) (sn sc : Nat) (na : Option Addr) (nn nc : Nat) : Try.prog.built 31 [(0, .agg (hdcs H).toArray), (1, .slice sa sn sc), (2, .slice na nn nc)] = some (hdcs H ++ [Value.slice sa sn sc, Value.slice na nn nc]).toArray := by
  have e : ∀ parts, Try.prog.built 31 parts = Instr.fill (#[((0 : Nat), (204 : Nat)), (204, 1), (205, 1)][·]?) Try.zeroCells31 parts := fun _ => by kernel_rfl
  rw [e, zcSt]
  have hl := hdcs_len k
  have f1 := fill_lay (#[((0 : Nat), (204 : Nat)), (204, 1), (205, 1)][·]?) 0 0 (.agg (hdcs H).toArray) (hdcs H) rfl (by rw [hl]; rfl) [] (hdcs zH) [.slice none 0 0, .slice none 0 0] rfl (by rw [hl, hdcs_len zH_ok]) [(1, .slice sa sn sc), (2, .slice na nn nc)]
  rw [List.nil_append, List.nil_append] at f1
  rw [f1]
  have f2 := fill_lay (#[((0 : Nat), (204 : Nat)), (204, 1), (205, 1)][·]?) 1 204 (.slice sa sn sc) [.slice sa sn sc] rfl rfl (hdcs H) [.slice none 0 0] [.slice none 0 0] hl rfl [(2, .slice na nn nc)]
  have f3 := fill_lay (#[((0 : Nat), (204 : Nat)), (204, 1), (205, 1)][·]?) 2 205 (.slice na nn nc) [.slice na nn nc] rfl rfl (hdcs H ++ [Value.slice sa sn sc]) [.slice none 0 0] [] (by rw [List.length_append, hl]; rfl) rfl []
  simp only [List.append_assoc, List.cons_append, List.nil_append, List.append_nil] at f2 f3 ⊢
  rw [f2, f3]
  rfl
/-- what reading answers -/
def ReadS (b : List UInt8) (w : World) (e : Ending) (w' : World) : Prop := ∃ T E vs vn, e = .returned (.tuple #[.agg (hdcs T.hd ++ [vs, vn]).toArray, .int .i64 E]) ∧ T.Ok ∧ RdC b T E ∧ RowOf u64c 1 w' vs T.s ∧ RowOf u64c 1 w' vn T.n ∧ Below w.heap.size w w'
theorem stc_one (h : Hd) (sa : Option Addr) (sn sc : Nat) (na : Option Addr) (nn nc : Nat) : ∀ u ∈ hdcs h ++ [Value.slice sa sn sc, Value.slice na nn nc], u.oneCell' = true := by
  intro u hu
  rcases List.mem_append.1 hu with hu | hu
  · exact hdcs_one h u hu
  · simp only [List.mem_cons, List.not_mem_nil, or_false] at hu
    rcases hu with rfl | rfl <;> rfl
def zst : List Value := hdcs zH ++ [Value.slice none 0 0, Value.slice none 0 0]
theorem zst_len : zst.length = 206 := stc_len zH_ok _ _
theorem zst_one : ∀ u ∈ zst, u.oneCell' = true := stc_one zH none 0 0 none 0 0
theorem ReadS.zero {b : List UInt8} {w u : World} (h : RdC b zSto 1) (hu : Below w.heap.size w u) : ReadS b w (.returned (.tuple #[.agg zst.toArray, .int .i64 1])) u :=
  ⟨zSto, 1, .slice none 0 0, .slice none 0 0, rfl, zSto_ok, h, RowOf.nil u64c 1 u, RowOf.nil u64c 1 u, hu⟩
end Go.Proofs.Ytgjgokcpampljaa
/- (Cli6) client.Read: three kids. -/
namespace Go.Proofs.Ytgjgokcpampljaa
open Go.RowKit
theorem pitT_bare {k : Itm} (h : BareI k) : pitT (erI k) = itt k := by
  cases h with
  | txt tv t kv => rw [erI_mk]; rfl
  | lst tv kv ks h => rw [erI_mk, if_pos rfl]; rfl
theorem kids3 {it : Itm} {p : Pit} (hb : BareI it) (he : erI it = p) (h : kidsN p = 3) : ∃ k0 k1 k2, itks it = [k0, k1, k2] ∧ p = .lst [erI k0, erI k1, erI k2] ∧ BareI k0 ∧ BareI k1 ∧ BareI k2 := by
  subst he
  cases hb with
  | txt tv t kv => rw [erI_mk] at h; simp [kidsN] at h
  | lst tv kv ks hk =>
    rw [erI_mk, if_pos rfl] at h ⊢
    simp only [kidsN, List.length_map] at h
    match ks, h with
    | [k0, k1, k2], _ => exact ⟨k0, k1, k2, rfl, rfl, hk _ (by simp), hk _ (by simp), hk _ (by simp)⟩
theorem dec_enc {b : List UInt8} (h : decE b = 0) : b = encP (decP b) := by
  unfold decE at h
  unfold decP
  cases hd : dec b with
  | none => rw [hd] at h; simp at h
  | some p => exact dec_back hd
theorem OwnOf.notB {α : Type} {f : α → List Value} {size : Nat} {e e' : TypeId} {w : World} {B g : Nat} {v : Value} {l : List α} {cs : List Value} (h : OwnOf f size e w B v l) (hz : Blk e' w g cs) (hne : e ≠ e') : v.ownBlock ≠ some g := by
  rcases h.2 with ⟨rfl, _⟩ | ⟨g', cap, cur, rfl, _, hg, _⟩
  · simp [Value.ownBlock]
  · intro e2
    simp only [Value.ownBlock, Option.some.injEq] at e2
    subst e2
    have hz2 : w.heap[g']? = some (.cells cs.toArray e' (0, 0)) := hz
    rw [hz2] at hg
    simp only [Option.some.injEq, Obj.cells.injEq] at hg
    exact hne hg.2.1.symm
theorem OwnOf.off {α : Type} {f : α → List Value} {size : Nat} {e e' : TypeId} {w w' : World} {B g : Nat} {v : Value} {l : List α} {cs : List Value} (h : OwnOf f size e w B v l) (hg : w.grownBy w' (some g)) (hz : Blk e' w g cs) (hne : e ≠ e') : OwnOf f size e w' B v l :=
  h.grown hg (fun k hk => by cases hk; exact h.notB hz hne)
def NumsT (l : List Nat) : Ty := fun v w => ∃ a n c, v = .slice a n c ∧ OwnOf u64c 1 24 w 0 v l
theorem NumsT.mono (l : List Nat) : Mono (NumsT l) := fun _ _ _ ⟨a, n, c, h1, h2⟩ hb => ⟨a, n, c, h1, h2.kept hb⟩
def StV (H : Hd) (s n : List Nat) : Ty := fun v w => ∃ sa sn sc na nn nc, v = .agg (hdcs H ++ [Value.slice sa sn sc, Value.slice na nn nc]).toArray ∧ OwnOf u64c 1 24 w 0 (.slice sa sn sc) s ∧ OwnOf u64c 1 24 w 0 (.slice na nn nc) n
theorem StV.mono (H : Hd) (s n : List Nat) : Mono (StV H s n) := fun _ _ _ ⟨sa, sn, sc, na, nn, nc, h1, h2, h3⟩ hb => ⟨sa, sn, sc, na, nn, nc, h1, h2.kept hb, h3.kept hb⟩
def PtrS (B : Nat) : Ty := fun v w => ∃ g, v = .pointer (some ⟨g, 0, none⟩) ∧ B ≤ g ∧ Blk 31 w g zst
theorem PtrS.mono (B : Nat) : Mono (PtrS B) := fun _ _ _ ⟨g, h1, h2, h3⟩ hb => ⟨g, h1, h2, h3.kept hb⟩
theorem kid_range {w1 : World} {bk ok n kc : Nat} {ks : List Itm} (hrow : RowOf icells 3 w1 (.slice (some ⟨bk, ok, none⟩) n kc) ks) (hkids : ∀ k ∈ ks, IsItm w1 k) (i : Nat) (hi : i < ks.length) :
    ∃ l ta tn tc t ka kn kc ks', ks[i] = .mk l (.slice ta tn tc) t (.slice ka kn kc) ks' ∧ t.length = tn ∧ ks'.length = kn ∧ ∀ u, Below w1.heap.size w1 u → u.rangeAt bk (ok + i * 3) [.bool l, .slice ta tn tc, .slice ka kn kc] ∧ IsItm u ks[i] := by
  obtain ⟨b, off, e, hr⟩ := RowOf.range icells_len hrow i hi
  simp only [Option.some.injEq, Addr.mk.injEq, and_true] at e
  obtain ⟨rfl, rfl⟩ := e
  have hI := hkids _ (List.getElem_mem hi)
  obtain ⟨kid, hkid⟩ : ∃ x, x = ks[i] := ⟨_, rfl⟩
  rw [← hkid] at hI hr ⊢
  obtain ⟨l, tv, t, kv, ks'⟩ := kid
  obtain ⟨ta, tc, rfl, _, _⟩ := hI.inv.1.form
  obtain ⟨ka, kc, rfl, _, _⟩ := hI.inv.2.1.form
  exact ⟨l, ta, _, tc, t, ka, _, kc, ks', rfl, rfl, rfl, fun u hu => ⟨World.rangeAt.below hr hu, hI.kept hu⟩⟩
theorem kids_facts {b : List UInt8} {l : Bool} {tv : Value} {t : List UInt8} {ka : Option Addr} {kc : Nat} {k0 k1 k2 : Itm} {w1 : World} (hI : IsItm w1 (.mk l tv t (.slice ka 3 kc) [k0, k1, k2])) (hp : decP b = .lst [erI k0, erI k1, erI k2]) (hb0 : BareI k0) (hb1 : BareI k1) (hb2 : BareI k2) (hle : (encP (decP b)).length ≤ 1048576) :
    ∃ bk ok l0 ta0 tn0 tc0 t0 ka0 kn0 kc0 l1 ta1 tn1 tc1 t1 ka1 kn1 kc1 ks1 l2 ta2 tn2 tc2 t2 ka2 kn2 kc2 ks2, ka = some ⟨bk, ok, none⟩ ∧ t0.length = tn0 ∧ tn0 ≤ 1048576 ∧ ks1.length = kn1 ∧ kn1 ≤ 1048576 ∧ ks2.length = kn2 ∧ kn2 ≤ 1048576 ∧
      pitT (qk (decP b) 0) = t0 ∧ kidT (qk (decP b) 1) = ks1.map itt ∧ kidT (qk (decP b) 2) = ks2.map itt ∧
      ∀ u, Below w1.heap.size w1 u → u.rangeAt bk ok [.bool l0, .slice ta0 tn0 tc0, .slice ka0 kn0 kc0] ∧ u.rangeAt bk (ok + 3) [.bool l1, .slice ta1 tn1 tc1, .slice ka1 kn1 kc1] ∧ u.rangeAt bk (ok + 6) [.bool l2, .slice ta2 tn2 tc2, .slice ka2 kn2 kc2] ∧
        Bytes u (.slice ta0 tn0 tc0) t0 ∧ IsItm u (.mk l1 (.slice ta1 tn1 tc1) t1 (.slice ka1 kn1 kc1) ks1) ∧ IsItm u (.mk l2 (.slice ta2 tn2 tc2) t2 (.slice ka2 kn2 kc2) ks2) := by
  have hrow := hI.inv.2.1
  have hkids := hI.inv.2.2
  obtain ⟨bk, ok, _, _, rfl, _⟩ := kid_text hrow hkids 0 (by simp)
  obtain ⟨l0, ta0, tn0, tc0, t0, ka0, kn0, kc0, ks0, e0, ht0, hk0, r0⟩ := kid_range hrow hkids 0 (by simp)
  obtain ⟨l1, ta1, tn1, tc1, t1, ka1, kn1, kc1, ks1, e1, ht1, hk1, r1⟩ := kid_range hrow hkids 1 (by simp)
  obtain ⟨l2, ta2, tn2, tc2, t2, ka2, kn2, kc2, ks2, e2, ht2, hk2, r2⟩ := kid_range hrow hkids 2 (by simp)
  change k0 = _ at e0
  change k1 = _ at e1
  change k2 = _ at e2
  subst e0 e1 e2
  have hk := fun k (hb : BareI k) (hm : erI k ∈ [erI (.mk l0 (.slice ta0 tn0 tc0) t0 (.slice ka0 kn0 kc0) ks0), erI (.mk l1 (.slice ta1 tn1 tc1) t1 (.slice ka1 kn1 kc1) ks1), erI (.mk l2 (.slice ta2 tn2 tc2) t2 (.slice ka2 kn2 kc2) ks2)]) => (show (itks k).length ≤ 1048576 from by
    have h1 := (kids_of hb rfl).1
    have h2 := kidsN_le (erI k)
    have h3 := encPL_mem hm
    rw [hp, encP, List.length_append] at hle
    omega)
  refine ⟨bk, ok, l0, ta0, tn0, tc0, t0, ka0, kn0, kc0, l1, ta1, tn1, tc1, t1, ka1, kn1, kc1, ks1, l2, ta2, tn2, tc2, t2, ka2, kn2, kc2, ks2, rfl, ht0, ?_, hk1, ?_, hk2, ?_, ?_, ?_, ?_, fun u hu => ?_⟩
  · have h1 := kidT_le (decP b) t0 (by
      rw [hp]
      show t0 ∈ List.map pitT _
      rw [List.map_cons, pitT_bare hb0]
      exact List.mem_cons_self)
    omega
  · have := hk _ hb1 (by simp)
    change ks1.length ≤ _ at this; omega
  · have := hk _ hb2 (by simp)
    change ks2.length ≤ _ at this; omega
  · rw [hp]; exact pitT_bare hb0
  · rw [hp]; exact (kids_of hb1 rfl).2.2.symm
  · rw [hp]; exact (kids_of hb2 rfl).2.2.symm
  · have s0 := r0 u hu
    have s1 := r1 u hu
    have s2 := r2 u hu
    rw [Nat.zero_mul, Nat.add_zero] at s0
    exact ⟨s0.1, s1.1, s2.1, s0.2.inv.1, s1.2, s2.2⟩
end Go.Proofs.Ytgjgokcpampljaa
