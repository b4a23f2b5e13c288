/- The reference's pread, put together; what lies there while the reference reads a list. -/
import Derived.Test.YtohenjgegkgncaaSplit11
import Derived.Test.YtohenjgegkgncaaSplit2
import Derived.Test.YtohenjgegkgncaaItem0
set_option linter.unusedSimpArgs false
set_option linter.unusedVariables false
namespace Go.Proofs.Ytohenjgegkgncaa
open Go.RowKit
theorem pread_any (a : Option Addr) (L c : Nat) (b : List UInt8) (hL : b.length = L) (hLs : L ≤ 1048576) (w : World) (h : Bytes w (.slice a L c) b) : Calls Try.prog 73 #[.slice a L c] w (PreadPost (prdB b) w) := by
  cases b with
  | nil => exact pread_low a L c [] hL (by simp) w h
  | cons x r =>
    by_cases h128 : x.toNat < 128
    · exact pread_low a L c (x :: r) hL (fun y s e => by cases e; exact h128) w h
    · by_cases h48 : x.toNat - (if x.toNat < 192 then 128 else 192) < 48
      · exact pread_small a L c x r hL hLs (by omega) _ _ _ rfl rfl rfl h48 w h
      · exact pread_big a L c x r hL hLs (by omega) _ _ _ rfl rfl rfl (by omega) w h
theorem prdB_cons (x : UInt8) (r : List UInt8) : prdB (x :: r) = if x.toNat < 128 then some (0, 1, false)
    else match hdr x.toNat (if x.toNat < 192 then 128 else 192) r with
      | none => none
      | some (k, r') => if r'.length < k ∨ (x.toNat < 192 ∧ own1 k r' = true) then none else some (1 + (r.length - r'.length), 1 + (r.length - r'.length) + k, decide (192 ≤ x.toNat)) := rfl
/-- reading by heads and ends -/
theorem par_prd_none (n : Nat) (b : List UInt8) (h : prdB b = none) : par (n + 1) b = none := by
  cases b with
  | nil => rfl
  | cons x r =>
    rw [prdB_cons] at h
    by_cases h128 : x.toNat < 128
    · rw [if_pos h128] at h; simp at h
    · rw [if_neg h128] at h
      rw [par, if_neg h128]
      by_cases h192 : x.toNat < 192
      · rw [if_pos h192] at h
        rw [if_pos h192]
        cases hh : hdr x.toNat 128 r with
        | none => rfl
        | some kr =>
          obtain ⟨k, r'⟩ := kr
          rw [hh] at h
          dsimp only at h ⊢
          by_cases hc : r'.length < k ∨ own1 k r' = true
          · rw [if_pos hc]
          · rw [if_neg (by rintro (h | ⟨_, h⟩); exact hc (.inl h); exact hc (.inr h))] at h
            simp at h
      · rw [if_neg h192] at h
        rw [if_neg h192]
        cases hh : hdr x.toNat 192 r with
        | none => rfl
        | some kr =>
          obtain ⟨k, r'⟩ := kr
          rw [hh] at h
          dsimp only at h ⊢
          by_cases hc : r'.length < k
          · rw [if_pos hc]
          · rw [if_neg (by rintro (h | ⟨h, _⟩); exact hc h; exact h192 h)] at h
            simp at h
theorem par_prd_some (n : Nat) (b : List UInt8) (f t : Nat) (l : Bool) (h : prdB b = some (f, t, l)) : f ≤ t ∧ t ≤ b.length ∧ (l = true → 1 ≤ f) ∧ par (n + 1) b = if l = true then (match parL (par n) (t - f) ((b.take t).drop f) with
      | none => none
      | some ks => some (.lst ks, b.drop t)) else some (.txt ((b.take t).drop f), b.drop t) := by
  cases b with
  | nil => simp [prdB] at h
  | cons x r =>
    rw [prdB_cons] at h
    by_cases h128 : x.toNat < 128
    · rw [if_pos h128] at h
      simp only [Option.some.injEq, Prod.mk.injEq] at h
      obtain ⟨rfl, rfl, rfl⟩ := h
      refine ⟨by omega, by simp, by simp, ?_⟩
      simp [par, h128]
    · rw [if_neg h128] at h
      rw [par, if_neg h128]
      by_cases h192 : x.toNat < 192
      · rw [if_pos h192] at h
        rw [if_pos h192]
        cases hh : hdr x.toNat 128 r with
        | none => rw [hh] at h; simp at h
        | some kr =>
          obtain ⟨k, r'⟩ := kr
          obtain ⟨j, hj, hjl⟩ := hdr_suf hh
          rw [hh] at h
          dsimp only at h ⊢
          by_cases hc : r'.length < k ∨ own1 k r' = true
          · rw [if_pos (by rcases hc with h | h; exact .inl h; exact .inr ⟨h192, h⟩)] at h
            simp at h
          · rw [if_neg (by rintro (h | ⟨_, h⟩); exact hc (.inl h); exact hc (.inr h))] at h
            rw [if_neg hc]
            have hl : r'.length = r.length - j := by rw [hj, List.length_drop]
            have hk : k ≤ r'.length := by have : ¬ r'.length < k := fun h => hc (.inl h); omega
            have e1 : 1 + (r.length - r'.length) = j + 1 := by omega
            rw [e1] at h
            simp only [Option.some.injEq, Prod.mk.injEq] at h
            obtain ⟨rfl, rfl, rfl⟩ := h
            refine ⟨by omega, by simp; omega, by omega, ?_⟩
            rw [if_neg (by simp; omega), show j + 1 + k = (j + k) + 1 from by omega, List.take_succ_cons, List.drop_succ_cons, List.drop_succ_cons, hj, List.drop_drop, List.take_drop]
      · rw [if_neg h192] at h
        rw [if_neg h192]
        cases hh : hdr x.toNat 192 r with
        | none => rw [hh] at h; simp at h
        | some kr =>
          obtain ⟨k, r'⟩ := kr
          obtain ⟨j, hj, hjl⟩ := hdr_suf hh
          rw [hh] at h
          dsimp only at h ⊢
          by_cases hc : r'.length < k
          · rw [if_pos (.inl hc)] at h
            simp at h
          · rw [if_neg (by rintro (h | ⟨h, _⟩); exact hc h; exact h192 h)] at h
            rw [if_neg hc]
            have hl : r'.length = r.length - j := by rw [hj, List.length_drop]
            have e1 : 1 + (r.length - r'.length) = j + 1 := by omega
            rw [e1] at h
            simp only [Option.some.injEq, Prod.mk.injEq] at h
            obtain ⟨rfl, rfl, rfl⟩ := h
            refine ⟨by omega, by simp; omega, by omega, ?_⟩
            rw [if_pos (by simp; omega), show j + 1 + k - (j + 1) = k from by omega, show j + 1 + k = (j + k) + 1 from by omega, List.take_succ_cons, List.drop_succ_cons, List.drop_succ_cons, hj, List.drop_drop, List.take_drop]
            rfl
/-- what lies there in a round of the reference's -/
structure LrW (w : World) (g9 : Nat) (kv : Value) (ks : List Itm) (u : World) : Prop where
  hb : Below w.heap.size w u
  hz : Blk 25 u w.heap.size [.bool false, .slice none 0 0, .slice none 0 0]
  hm : Blk 25 u g9 [.bool true, .slice none 0 0, kv]
  hO : OwnOf icells 3 25 u (g9 + 1) kv ks
  hF : ∀ k ∈ ks, Fp (fun x => g9 + 1 ≤ x ∧ kv.ownBlock ≠ some x) u k
  h1 : w.heap.size < g9
section
variable {w : World} {g9 : Nat} {kv : Value} {ks : List Itm} {u : World}
theorem LrW.kept {u' : World} (h : LrW w g9 kv ks u) (hb : Below u.heap.size u u') : LrW w g9 kv ks u' :=
  ⟨Below.then h.hb hb, h.hz.kept hb, h.hm.kept hb, h.hO.kept hb, fun k hk => (h.hF k hk).to hb.size (fun x hx hl => ⟨hb.block x hl, hx⟩), h.h1⟩
theorem own_lt' {α : Type} {f : α → List Value} {size : Nat} {e : TypeId} {w : World} {B : Nat} {v : Value} {l : List α} (h : OwnOf f size e w B v l) {k : Nat} (hk : v.ownBlock = some k) : k < w.heap.size := (World.ownsRow.lt h k hk).2
theorem LrW.grew {u' : World} {kv' : Value} {it : Itm} (h : LrW w g9 kv ks u) (hit : Fp (fun x => g9 + 1 ≤ x ∧ kv.ownBlock ≠ some x) u it) (hg : u.grownBy u' kv.ownBlock) (hO : OwnOf icells 3 25 u' (g9 + 1) kv' (ks ++ [it]))
    (hp : ∀ k, kv'.ownBlock = some k → kv.ownBlock = some k ∨ u.heap.size ≤ k) : LrW w g9 kv' (ks ++ [it]) (u'.setCell ⟨g9, 2, none⟩ kv') := by
  have q1 := h.h1
  have hne : ∀ b, b ≤ g9 → kv.ownBlock ≠ some b := fun b hb e => by have := h.hO.lt b e; omega
  have hst : u'.grownBy (u'.setCell ⟨g9, 2, none⟩ kv') (some g9) := grown_cell 2 kv'
  have hall : ∀ k, Fp (fun x => g9 + 1 ≤ x ∧ kv.ownBlock ≠ some x) u k → Fp (fun x => g9 + 1 ≤ x ∧ kv'.ownBlock ≠ some x) (u'.setCell ⟨g9, 2, none⟩ kv') k := by
    intro k hk
    refine hk.to (Nat.le_trans hg.size hst.size) (fun x hx hlt => ⟨?_, hx.1, fun e => ?_⟩)
    · rw [hst.block x (Nat.lt_of_lt_of_le hlt hg.size) (by simp; omega), hg.block x hlt (fun e => hx.2 e.symm)]
    · rcases hp x e with h1 | h1
      · exact hx.2 h1
      · omega
  have hb2 := h.hb.grown hg h.hb.size (fun k hk => by have := h.hO.lt k hk; omega)
  refine ⟨hb2.setCell (by show w.heap.size ≤ g9; omega) _, (h.hz.grown hg (hne _ (by omega))).other _ (by simp; omega) _, (h.hm.grown hg (hne _ (Nat.le_refl _))).set 2 kv', hO.grown hst (fun k hk e => by cases hk; have := hO.lt _ e; omega), fun k hk => ?_, h.h1⟩
  rcases List.mem_append.1 hk with hk | hk
  · exact hall k (h.hF k hk)
  · rw [List.mem_singleton] at hk; subst hk; exact hall k hit
theorem LrW.apart {u' : World} {it : Itm} (h : LrW w g9 kv ks u) (hit : Fp (fun x => u.heap.size ≤ x) u' it) : Fp (fun x => g9 + 1 ≤ x ∧ kv.ownBlock ≠ some x) u' it := by
  have hlt := h.hm.lt
  exact hit.to (Nat.le_refl _) (fun x hx _ => ⟨rfl, by omega, fun e => by have := own_lt' h.hO e; omega⟩)
end
/-- what the reference's splitting answers -/
def PSplitPost (o : Option (Pit × List UInt8)) (L : Nat) (w : World) (e : Ending) (w' : World) : Prop :=
  match o with
  | none => e = .returned (.tuple #[.agg #[.bool false, .slice none 0 0, .slice none 0 0], .int .i64 0, .int .i64 1]) ∧ Below w.heap.size w w'
  | some (p, r) => ∃ it, e = .returned (.tuple #[.agg (icells it).toArray, .int .i64 ((L - r.length : Nat) : Int), .int .i64 0]) ∧ Below w.heap.size w w' ∧ Fp (fun x => w.heap.size ≤ x) w' it ∧ erI it = p
theorem PSplitPost_none (L : Nat) (w : World) : PSplitPost none L w = fun e w' => e = .returned (.tuple #[.agg #[.bool false, .slice none 0 0, .slice none 0 0], .int .i64 0, .int .i64 1]) ∧ Below w.heap.size w w' := rfl
theorem PSplitPost_some (p : Pit) (r : List UInt8) (L : Nat) (w : World) : PSplitPost (some (p, r)) L w = fun e w' => ∃ it, e = .returned (.tuple #[.agg (icells it).toArray, .int .i64 ((L - r.length : Nat) : Int), .int .i64 0]) ∧ Below w.heap.size w w' ∧ Fp (fun x => w.heap.size ≤ x) w' it ∧ erI it = p := rfl
end Go.Proofs.Ytohenjgegkgncaa
