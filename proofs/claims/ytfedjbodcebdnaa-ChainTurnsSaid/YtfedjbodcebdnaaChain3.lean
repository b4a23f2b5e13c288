/- How many headers begin alike: the reference's UShared, chain.Shared. -/
import Derived.Test.YtfedjbodcebdnaaChain2
import Derived.Test.YtfedjbodcebdnaaApp
set_option linter.unusedSimpArgs false
set_option linter.unusedVariables false
namespace Go.Proofs.Ytfedjbodcebdnaa
open Go.RowKit
def zHdr : Value := .agg (List.replicate 32 (Value.int .u8 0) ++ List.replicate 2 (Value.int .u64 0) ++ List.replicate 8 (Value.int .u8 0) ++ List.replicate 2 (Value.int .u64 0) ++ List.replicate 160 (Value.int .u8 0)).toArray
theorem toCell_one (l : Lit) : l.toCell.oneCell' = true := by cases l <;> rfl
theorem elHdr : El Try.prog 22 33 zHdr 204 232 hdc := ⟨by kernel_rfl, by kernel_rfl, by kernel_rfl, by omega, hdc_len, fun x u hu => by
  unfold hdc at hu
  obtain ⟨l, _, rfl⟩ := List.mem_map.1 hu
  exact toCell_one l⟩
theorem elHdr0 : El0 Try.prog 22 33 zHdr 204 232 hdc := ⟨elHdr.ht, elHdr.hi, elHdr.hzs, elHdr.hsz, elHdr.hf⟩
/-- how many begin alike -/
noncomputable def shn : List Hdr → List Hdr → Nat
  | x :: xs, y :: ys => if x = y then shn xs ys + 1 else 0
  | [], _ => 0
  | _, [] => 0
theorem shn_le : ∀ (ls ms : List Hdr), shn ls ms ≤ ls.length ∧ shn ls ms ≤ ms.length
  | x :: xs, y :: ys => by
    have := shn_le xs ys
    unfold shn
    split
    · simp only [List.length_cons]; omega
    · simp
  | [], _ => by simp [shn]
  | _ :: _, [] => by simp [shn]
theorem shn_iff : ∀ (ls ms : List Hdr) (k : Nat), k ≤ ls.length → k ≤ ms.length → (ls.take k = ms.take k ↔ k ≤ shn ls ms)
  | _, _, 0, _, _ => by simp
  | [], _, k + 1, h, _ => by simp at h
  | _ :: _, [], k + 1, _, h => by simp at h
  | x :: xs, y :: ys, k + 1, h1, h2 => by
    have := shn_iff xs ys k (by simpa using h1) (by simpa using h2)
    unfold shn
    rw [List.take_succ_cons, List.take_succ_cons, List.cons.injEq, this]
    split
    · rename_i he; simp [he]
    · rename_i he; simp [he]
theorem shn_ne {ls ms : List Hdr} {k : Nat} {x y : Hdr} (hx : ls[k]? = some x) (hy : ms[k]? = some y) (h : k < shn ls ms) : x = y := by
  have h1 := (shn_iff ls ms (k + 1) (by have := shn_le ls ms; omega) (by have := shn_le ls ms; omega)).2 h
  have h2 := congrArg (fun l : List Hdr => l[k]?) h1
  simp only [List.getElem?_take, show k < k + 1 by omega, if_true, hx, hy, Option.some.injEq] at h2
  exact h2
theorem shn_next {ls ms : List Hdr} {k : Nat} {x : Hdr} (hx : ls[k]? = some x) (hy : ms[k]? = some x) (h : k ≤ shn ls ms) : k + 1 ≤ shn ls ms := by
  have h1 := at_len hx
  have h2 := at_len hy
  exact (shn_iff ls ms (k + 1) h1 h2).1 (take_next ((shn_iff ls ms k (by omega) (by omega)).2 h) (by rw [hx, hy]))
set_option maxHeartbeats 1000000 in
set_option maxRecDepth 100000 in
theorem ushared_any (a b : Option Addr) (n m c d : Nat) (ls ms : List Hdr) (hn : ls.length = n) (hm : ms.length = m) (w : World) (h1 : RowOf hdc 204 w (.slice a n c) ls) (h2 : RowOf hdc 204 w (.slice b m d) ms) :
    Calls Try.prog 14 #[.slice a n c, .slice b m d] w fun e w' => e = .returned (.int .i64 (shn ls ms : Int)) ∧ Below w.heap.size w w' := by
  have hsm := h1.small
  have hsm2 := h2.small
  unfold maxLen at hsm hsm2
  rw [hn] at hsm
  rw [hm] at hsm2
  have hle := shn_le ls ms
  obtain ⟨s, hs⟩ : ∃ s, s = shn ls ms := ⟨_, rfl⟩
  have hif := shn_iff ls ms
  rw [← hs] at hle hif
  rw [← hs]
  rw [hn, hm] at hle hif
  have Hif := Lib.hid hif
  have Hn := Lib.hid hn
  have Hm := Lib.hid hm
  clear hif hn hm hs
  rcases (by omega : m < n ∨ ¬ m < n) with hmn | hmn
  all_goals
    go_enter Try.func14, Try.ntmps14
    go_wp2
    go_loopw [5] (fun ix wr => ∃ k : Nat, k ≤ n ∧ k ≤ m ∧ s ≤ k ∧ ix = .int .i64 (k : Int) ∧ Below w.heap.size w wr) (fun ix _ => (intOf ix).toNat)
    case atStart => first | exact ⟨n, by omega, by omega, by omega, rfl, Below.refl _ _⟩ | exact ⟨m, by omega, by omega, by omega, rfl, Below.refl _ _⟩
    case round =>
      obtain ⟨k, hkn, hkm, hsk, rfl, hbel⟩ := hrel
      by_cases hlt : 0 < k
      · have hki : (0 : Int) < (k : Int) := by omega
        obtain ⟨a', c', s1, r1⟩ := RowOf.to elHdr (h1.below hbel) k hkn (k : Int) rfl
        obtain ⟨b', d', s2, r2⟩ := RowOf.to elHdr (h2.below hbel) k hkm (k : Int) rfl
        obtain ⟨q, hq⟩ : ∃ q, q = decide (ls.take k = ms.take k) := ⟨_, rfl⟩
        have cs := fun w1 (hb : Below wr.heap.size wr w1) => same_any a' b' k k c' d' (ls.take k) (ms.take k) (by rw [List.length_take, Hn.out]; omega) (by rw [List.length_take, Hm.out]; omega) w1 (r1.below hb) (r2.below hb)
        rw [← hq] at cs
        have Hq := Lib.hid hq
        have Cs := Lib.hid cs
        clear hq cs r1 r2
        go_wp2
        refine wp_region_typed wr 6 (by kernel_rfl) (by kernel_rfl) (Below.refl _ _) ?_; simp only [List.take_succ_cons, List.take_zero, List.take_nil]
        iterate 2 (refine wpX_step (by rfl) (fun K hK => ?_); go_simp; first | (refine hK _ ?_; clear hK K) | (apply Exists.intro; refine ⟨fun _ => ?_, hK _ ?_⟩; fail; clear hK K))
        (refine wpX_step (by rfl) (fun K hK => ?_); go_simp; first | (refine hK _ ?_; clear hK K) | (apply Exists.intro; refine ⟨fun _ => ?_, hK _ ?_⟩; rw [s1]; clear hK K))
        iterate 2 (refine wpX_step (by rfl) (fun K hK => ?_); go_simp; first | (refine hK _ ?_; clear hK K) | (apply Exists.intro; refine ⟨fun _ => ?_, hK _ ?_⟩; fail; clear hK K))
        (refine wpX_step (by rfl) (fun K hK => ?_); go_simp; first | (refine hK _ ?_; clear hK K) | (apply Exists.intro; refine ⟨fun _ => ?_, hK _ ?_⟩; rw [s2]; clear hK K))
        refine wpX_nil ?_
        intro u2 hb2
        have hbel2 := Below.then hbel hb2
        change wpList _ _ _ [_] _ _
        cases q with
        | true =>
          go_wp2_with (go_at_call 17; (with_reducible refine (Cs.out _ hb2).mono ?_); rintro e w3 ⟨rfl, b3⟩; have hbel3 := Below.then hbel2 b3)
          go_ret
          have := (Hif.out k hkn hkm).1 (of_decide_eq_true Hq.out.symm)
          obtain rfl : s = k := by omega
          exact ⟨rfl, hbel3⟩
        | false =>
          go_wp2_with (go_at_call 17; (with_reducible refine (Cs.out _ hb2).mono ?_); rintro e w3 ⟨rfl, b3⟩; have hbel3 := Below.then hbel2 b3)
          have hks : ¬ k ≤ s := fun h => of_decide_eq_false Hq.out.symm ((Hif.out k hkn hkm).2 h)
          go_roundw
          case rel => exact ⟨k - 1, by omega, by omega, by omega, by go_num, hbel3⟩
          case measure => simp [intOf]; omega
      · obtain rfl : k = 0 := by omega
        obtain rfl : s = 0 := by omega
        go_wp2
        go_ret
        exact ⟨rfl, hbel⟩
end Go.Proofs.Ytfedjbodcebdnaa
