/- The reference's SameTexts and SameShape of like shapes: true. -/
import Derived.Test.YtnhbfnegpjkojaaRootA
import Derived.Test.YtnhbfnegpjkojaaSplD
set_option linter.unusedSimpArgs false
set_option linter.unusedVariables false
namespace Go.Proofs.Ytnhbfnegpjkojaa
open Go.RowKit
set_option maxHeartbeats 1000000 in
set_option maxRecDepth 100000 in
theorem sameTexts_any (va vb : Option Addr) (n ca cb : Nat) (ps qs : List (Value × List UInt8)) (hn : ps.length = n) (hq : qs.length = n) (hs : n ≤ 1048576) (w : World) (h : Texts w (.slice va n ca) ps) (h' : Texts w (.slice vb n cb) qs) (he : ps.map (·.2) = qs.map (·.2)) :
    Calls Try.prog 15 #[.slice va n ca, .slice vb n cb] w (TruePost w) := by
  have Hn := Lib.hid hn
  have Hq := Lib.hid hq
  have He := Lib.hid he
  have hne : ((n : Int) != (n : Int)) = false := by simp
  clear hn hq he
  go_enter Try.func15, Try.ntmps15
  go_wp2
  go_loopw [13] (fun ix wr => ∃ k : Nat, k ≤ n ∧ ix = .int .i64 (k : Int) ∧ Below w.heap.size w wr) (fun ix _ => n - (intOf ix).toNat)
  case atStart => exact ⟨0, by omega, rfl, Below.refl _ _⟩
  case round =>
    obtain ⟨k, hkk, rfl, hbel⟩ := hrel
    by_cases hlt : k < n
    · have hki : (k : Int) < (n : Int) := by omega
      obtain ⟨b1, o1, p, rfl, hp1, hc1, hr1⟩ := (h.below hbel).at k (by rw [Hn.out]; exact hlt)
      obtain ⟨b2, o2, q, rfl, hq1, hc2, hr2⟩ := (h'.below hbel).at k (by rw [Hq.out]; exact hlt)
      have hee : p.2 = q.2 := by
        have := congrArg (fun l => l[k]?) He.out
        simpa [List.getElem?_map, hp1, hq1] using this
      rw [← hee] at hr2
      obtain ⟨V1, t⟩ := p
      obtain ⟨V2, t2⟩ := q
      have f1 := fun u : Ext wr => u.cell hc1
      have f2 := fun u : Ext wr => u.cell hc2
      have s1 : ∀ u : Ext wr, (convert 22 9 V1).run Try.prog u.val = .ok (str t) u.val := fun u => run_str elU8.ht (by kernel_rfl) (by kernel_rfl) (u.row hr1)
      have s2 : ∀ u : Ext wr, (convert 22 9 V2).run Try.prog u.val = .ok (str t) u.val := fun u => run_str elU8.ht (by kernel_rfl) (by kernel_rfl) (u.row hr2)
      clear hp1 hq1 hc1 hc2 hr1 hr2 hee
      go_wp2
      refine wp_region_typed wr 10 (by kernel_rfl) (by kernel_rfl) (Below.refl _ _) ?_; simp only [List.take_succ_cons, List.take_zero, List.take_nil]
      iterate 10 (refine wpX_step (by rfl) (fun K hK => ?_); go_simp; first | (refine hK _ ?_; clear hK K) | (apply Exists.intro; refine ⟨fun _ => ?_, hK _ ?_⟩; fail; clear hK K))
      refine wpX_nil ?_
      intro u2 hb2
      have hbel2 := Below.then hbel hb2
      change wpList _ _ _ [_] _ _
      clear f1 f2 s1 s2
      go_wp2
      go_roundw
      case rel => exact ⟨k + 1, by omega, by go_num, hbel2⟩
      case measure => simp [intOf]; omega
    · obtain rfl : k = n := by omega
      go_wp2
      go_ret
      exact ⟨rfl, hbel⟩
end Go.Proofs.Ytnhbfnegpjkojaa
