/- A store, what it is written as, what reading answers: plain Lean. -/
import Derived.Test.YtffkjjpjfehcnaaHdr6
import Derived.Test.YtffkjjpjfehcnaaSeat4
set_option linter.unusedSimpArgs false
set_option linter.unusedVariables false
namespace Go.Proofs.Ytffkjjpjfehcnaa
open Go.RowKit
structure Sto where
  hd : Hd
  s : List Nat
  n : List Nat
structure Sto.Ok (t : Sto) : Prop where
  hd : t.hd.Ok
  s : ∀ x ∈ t.s, x < 18446744073709551616
  n : ∀ x ∈ t.n, x < 18446744073709551616
  sl : t.s.length ≤ 1048576
  nl : t.n.length ≤ 1048576
/-- a list of numbers; a store -/
def nP (l : List Nat) : Pit := .lst ((l.map numB).map .txt)
def pitC (t : Sto) : Pit := .lst [.txt (wH t.hd), nP t.s, nP t.n]
def wC (t : Sto) : List UInt8 := encP (pitC t)
theorem seatB_nP (l : List Nat) : seatB l = encP (nP l) := lsB_enc _
theorem textB_num {x : Nat} (h : x < 18446744073709551616) : (textB (numB x)).length ≤ 9 := by
  have h8 := numB_8 x h
  unfold textB
  split
  · omega
  · unfold headB
    rw [if_pos (by omega), List.length_append, List.length_cons, List.length_nil]; omega
theorem flat_num : ∀ (l : List Nat), (∀ x ∈ l, x < 18446744073709551616) → ((l.map numB).flatMap textB).length ≤ 9 * l.length
  | [], _ => by simp
  | x :: l, h => by
    rw [List.map_cons, List.flatMap_cons, List.length_append, List.length_cons]
    have h1 := textB_num (h x List.mem_cons_self)
    have h2 := flat_num l (fun y hy => h y (List.mem_cons_of_mem _ hy))
    omega
theorem headB_le9 {base n : Nat} (h : n < 18446744073709551616) : (headB base n).length ≤ 9 := by
  unfold headB
  split
  · simp
  · have := numB_8 n h
    rw [List.length_cons]; omega
theorem seatB_len {l : List Nat} (h : ∀ x ∈ l, x < 18446744073709551616) (hl : l.length ≤ 1048576) : (seatB l).length ≤ 9437193 := by
  have h1 := flat_num l h
  have h2 := headB_le9 (base := 192) (n := ((l.map numB).flatMap textB).length) (by omega)
  unfold seatB lsB
  rw [List.length_append]; omega
theorem wC_len {t : Sto} (k : t.Ok) : (wC t).length ≤ 20000000 := by
  have h1 := seatB_len k.s k.sl
  have h2 := seatB_len k.n k.nl
  rw [seatB_nP] at h1 h2
  have h3 := wH_len k.hd
  have h4 : (textB (wH t.hd)).length ≤ 1009 := by
    rcases textB_len (wH t.hd) with h | h <;> omega
  have h5 : (encPL [.txt (wH t.hd), nP t.s, nP t.n]).length ≤ 19000000 := by
    simp only [encPL, encP, List.length_append, List.length_nil] at h1 h2 ⊢
    unfold nP at h1 h2 ⊢
    rw [encP, List.length_append] at h1 h2 ⊢
    simp only [nP, encP, List.length_append] at h1 h2 ⊢
    omega
  have h6 := headB_le9 (base := 192) (n := (encPL [.txt (wH t.hd), nP t.s, nP t.n]).length) (by omega)
  unfold wC pitC
  rw [encP, List.length_append]; omega
theorem nP_inj {l m : List Nat} (hl : ∀ x ∈ l, x < 18446744073709551616) (hm : ∀ x ∈ m, x < 18446744073709551616) (h : nP l = nP m) : l = m := by
  unfold nP at h
  injection h with h
  have h2 := txt_inj h
  clear h
  induction l generalizing m with
  | nil => cases m with
    | nil => rfl
    | cons y m => simp at h2
  | cons x l ih => cases m with
    | nil => simp at h2
    | cons y m =>
      simp only [List.map_cons, List.cons.injEq] at h2
      rw [numB_inj (hl x List.mem_cons_self) (hm y List.mem_cons_self) h2.1, ih (fun z hz => hl z (List.mem_cons_of_mem _ hz)) (fun z hz => hm z (List.mem_cons_of_mem _ hz)) h2.2]
theorem wC_inj {t u : Sto} (k : t.Ok) (j : u.Ok) (h : wC t = wC u) : t = u := by
  have hl := wC_len k
  unfold wC at hl h
  have h2 := encP_inj (by omega) h
  unfold pitC at h2
  simp only [Pit.lst.injEq, List.cons.injEq, Pit.txt.injEq, and_true] at h2
  obtain ⟨e1, e2, e3⟩ := h2
  cases t; cases u
  simp only [Sto.mk.injEq]
  exact ⟨wH_inj k.hd j.hd e1, nP_inj k.s j.s e2, nP_inj k.n j.n e3⟩
def zSto : Sto := ⟨zH, [], []⟩
theorem zSto_ok : zSto.Ok := ⟨zH_ok, by simp [zSto], by simp [zSto], by simp [zSto], by simp [zSto]⟩
/-- what reading a store's bytes answers -/
def RdC (b : List UInt8) (t : Sto) (e : Int) : Prop := (e = 0 ∧ wC t = b) ∨ (e = 1 ∧ t = zSto ∧ ∀ g : Sto, g.Ok → wC g ≠ b)
theorem RdC.one {b : List UInt8} {t u : Sto} {e f : Int} (k : t.Ok) (j : u.Ok) (x : RdC b t e) (y : RdC b u f) : t = u ∧ e = f := by
  rcases x with ⟨rfl, x⟩ | ⟨rfl, rfl, x⟩ <;> rcases y with ⟨rfl, y⟩ | ⟨rfl, rfl, y⟩
  · exact ⟨wC_inj k j (x.trans y.symm), rfl⟩
  · exact absurd x (y t k)
  · exact absurd y (x u j)
  · exact ⟨rfl, rfl⟩
/-- a kid -/
def qk (p : Pit) (i : Nat) : Pit := match p with
  | .txt _ => .txt []
  | .lst qs => qs[i]?.getD (.txt [])
def rdC (nf : List UInt8 → Nat) (H : Hd) (p : Pit) : Sto := ⟨H, (kidT (qk p 1)).map nf, (kidT (qk p 2)).map nf⟩
theorem wC_dec {g : Sto} (k : g.Ok) : dec (wC g) = some (pitC g) := by
  have hl := wC_len k
  unfold wC at hl ⊢
  exact dec_read (by omega)
theorem rdC_form {b : List UInt8} (h : decE b ≠ 0 ∨ kidsN (decP b) ≠ 3) : RdC b zSto 1 := by
  refine .inr ⟨rfl, rfl, fun g k e => ?_⟩
  have hd := wC_dec k
  rw [e] at hd
  rcases h with h | h
  · exact h (by unfold decE; rw [hd]; rfl)
  · exact h (by unfold decP; rw [hd]; rfl)
theorem map_back {nf : List UInt8 → Nat} (hf : ∀ x < 18446744073709551616, nf (numB x) = x) : ∀ {l : List Nat}, (∀ x ∈ l, x < 18446744073709551616) → (kidT (nP l)).map nf = l := by
  intro l hl
  unfold nP
  rw [kidT_txts, List.map_map]
  induction l with
  | nil => rfl
  | cons x l ih =>
    rw [List.map_cons, ih (fun y hy => hl y (List.mem_cons_of_mem _ hy)), Function.comp, hf x (hl x List.mem_cons_self)]
theorem rdC_not {nf : List UInt8 → Nat} (hf : ∀ x < 18446744073709551616, nf (numB x) = x) {b : List UInt8} {H : Hd} {e1 : Int} (hH : H.Ok) (h : RdHd (pitT (qk (decP b) 0)) H e1) (hbad : e1 ≠ 0 ∨ wC (rdC nf H (decP b)) ≠ b) : RdC b zSto 1 := by
  refine .inr ⟨rfl, rfl, fun g k e => ?_⟩
  have hd := wC_dec k
  rw [e] at hd
  have hp : decP b = pitC g := by unfold decP; rw [hd]; rfl
  rw [hp] at h hbad
  have h2 : RdHd (wH g.hd) H e1 := h
  obtain ⟨rfl, rfl⟩ := RdHd.one hH k.hd h2 (.inl ⟨rfl, rfl⟩)
  rcases hbad with h3 | h3
  · exact h3 rfl
  · apply h3
    have : rdC nf g.hd (pitC g) = g := by
      cases g
      simp only [rdC, Sto.mk.injEq, true_and]
      exact ⟨map_back hf k.s, map_back hf k.n⟩
    rw [this, e]
end Go.Proofs.Ytffkjjpjfehcnaa
