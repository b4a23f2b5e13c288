/- The reference's PEncode. -/
import Derived.Test.YtohenjgegkgncaaEnc4
set_option linter.unusedSimpArgs false
set_option linter.unusedVariables false
namespace Go.Proofs.Ytohenjgegkgncaa
open Go.RowKit
def PEncPost (x : Itm) (w : World) (e : Ending) (w' : World) : Prop := ∃ v, e = .returned v ∧ Bytes w' v (encI x) ∧ Below w.heap.size w w'
theorem str_add (l m : List UInt8) : Value.string ((⟨l.toArray⟩ : ByteArray) ++ ⟨m.toArray⟩) = str (l ++ m) := congrArg Value.string (ByteArray.mk_append_mk l m)
set_option maxHeartbeats 1000000 in
set_option maxRecDepth 100000 in
theorem penc_text (ta : Option Addr) (tn tc : Nat) (t : List UInt8) (htn : t.length = tn) (kv : Value) (ks : List Itm) (w : World) (h : Bytes w (.slice ta tn tc) t) (hN : tn ≤ 1000000000000) :
    Calls Try.prog 92 #[.agg #[.bool false, .slice ta tn tc, kv]] w (PEncPost (.mk false (.slice ta tn tc) t kv ks) w) := by
  have hbel1 : Below w.heap.size w (w.alloc (.cells #[.bool false, .slice ta tn tc, kv] 25)) := (Below.refl _ _).alloc (Nat.le_refl _) _
  have hs := run_str (P := Try.prog) (src := 22) (dst := 9) elU8.ht (by kernel_rfl) (by kernel_rfl) (h.below hbel1)
  have hse : (⟨t.toArray⟩ : ByteArray).size = tn := htn
  by_cases h1 : tn = 1 ∧ (t[0]?.getD 0).toNat < 128
  · obtain ⟨h1, h128⟩ := h1
    obtain ⟨x, rfl⟩ : ∃ x, t = [x] := List.length_eq_one_iff.1 (htn.trans h1)
    subst h1
    have hx : (x.toNat : Int) < 128 := by simp at h128; omega
    have hE : encI (.mk false (.slice ta 1 tc) [x] kv ks) = [x] := by
      unfold encI textB
      rw [if_neg (by simp), if_pos (by simp at h128 ⊢; exact h128)]
    have HE := Lib.hid hE
    have hx0 : ∀ h, (⟨#[x]⟩ : ByteArray)[0]'h = x := fun _ => rfl
    clear hE htn h128 hse
    go_enter Try.func92, Try.ntmps92
    go_wp2_with (refine wpList_bytesOf (o := ⟨some 33, _, _, _, _, _⟩) (by rfl) 9 22 (.tmp 32) (by rfl) (by kernel_rfl) elU8.ht (by kernel_rfl) [x] (by rfl) (by unfold maxLen; simp) ?_; intro v2 w2 h2 b2; have hbel2 := Below.then hbel1 b2)
    go_ret
    exact ⟨_, rfl, by rw [HE.out]; exact h2, hbel2⟩
  · have hE : encI (.mk false (.slice ta tn tc) t kv ks) = headB 128 tn ++ t := by
      unfold encI textB
      rw [if_neg (by simp), if_neg (by rw [htn]; exact h1), htn]
    have hhl := headB_len 128 tn (by omega)
    have ch : ∀ x, Calls Try.prog 137 #[.int .i64 (tn : Int), .bool false] x _ := fun x => phead_any tn false (by omega) x
    change ∀ x, Calls Try.prog 137 #[.int .i64 (tn : Int), .bool false] x (fun e w' => e = .returned (str (headB 128 tn)) ∧ Below x.heap.size x w') at ch
    obtain ⟨w1, hw1⟩ : ∃ w1, w1 = w.alloc (.cells #[.bool false, .slice ta tn tc, kv] 25) := ⟨_, rfl⟩
    obtain ⟨Hd, hHd⟩ : ∃ Hd, Hd = headB 128 tn := ⟨_, rfl⟩
    rw [← hHd] at hE hhl
    simp only [← hHd] at ch
    have hadd := str_add Hd t
    have hll : (Hd ++ t).length ≤ 2000000000000 := by rw [List.length_append, htn]; omega
    have HE := Lib.hid hE
    have Ch := Lib.hid ch
    have Hadd := Lib.hid hadd
    clear hE hw1 ch hHd hadd
    by_cases ht1 : tn = 1
    · subst ht1
      obtain ⟨x, rfl⟩ : ∃ x, t = [x] := List.length_eq_one_iff.1 htn
      have hx : ¬ (x.toNat : Int) < 128 := fun hx => h1 ⟨rfl, by simp; omega⟩
      have hx0 : ∀ h, (⟨#[x]⟩ : ByteArray)[0]'h = x := fun _ => rfl
      clear htn h1 hse
      go_enter Try.func92, Try.ntmps92
      go_wp2_with (first
        | (go_at_call 137; refine (Ch.out _).mono ?_; rintro e w3 ⟨rfl, b3⟩; have hbel3 := Below.then hbel1 b3)
        | (refine wpList_bytesOf (o := ⟨some 41, _, _, _, _, _⟩) (by rfl) 9 22 (.tmp 40) (by rfl) (by kernel_rfl) elU8.ht (by kernel_rfl) (Hd ++ [x]) Hadd.out (by unfold maxLen; omega) ?_; intro v2 w2 h2 b2; have hbel2 := Below.then hbel3 b2))
      go_ret
      exact ⟨_, rfl, by rw [HE.out]; exact h2, hbel2⟩
    · have hne : ((tn : Int) == 1) = false := by rw [beq_eq_false_iff_ne]; omega
      have htl : t.length ≤ 1000000000000 := by omega
      clear h1 ht1
      go_enter Try.func92, Try.ntmps92
      go_wp2_with (first
        | (go_at_call 137; refine (Ch.out _).mono ?_; rintro e w3 ⟨rfl, b3⟩; have hbel3 := Below.then hbel1 b3)
        | (refine wpList_bytesOf (o := ⟨some 41, _, _, _, _, _⟩) (by rfl) 9 22 (.tmp 40) (by rfl) (by kernel_rfl) elU8.ht (by kernel_rfl) (Hd ++ t) Hadd.out (by unfold maxLen; omega) ?_; intro v2 w2 h2 b2; have hbel2 := Below.then hbel3 b2))
      go_ret
      exact ⟨_, rfl, by rw [HE.out]; exact h2, hbel2⟩
end Go.Proofs.Ytohenjgegkgncaa
