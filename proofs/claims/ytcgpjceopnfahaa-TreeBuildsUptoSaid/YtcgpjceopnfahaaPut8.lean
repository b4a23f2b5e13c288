/- tree.part. -/
import Derived.Test.YtcgpjceopnfahaaPut7
set_option linter.unusedSimpArgs false
set_option linter.unusedVariables false
namespace Go.Proofs.Ytcgpjceopnfahaa
open Go.RowKit
theorem fk_len (ks : List Nd) (v : Value) (h : ks.length = 16) : (nvL ks ++ [v]).length = 17 := by rw [nvL_map]; simp [h]
theorem fk_one (ks : List Nd) (a : Option Addr) (n c : Nat) : ∀ x ∈ nvL ks ++ [Value.slice a n c], x.oneCell' = true := by
  intro x hx
  rcases List.mem_append.1 hx with hx | hx
  · exact nvL_one ks x hx
  · rw [List.mem_singleton] at hx; subst hx; rfl
theorem fk_no8 (ks : List Nd) (a : Option Addr) (n c : Nat) : ∀ x ∈ nvL ks ++ [Value.slice a n c], ∀ k, x ≠ .int .u8 k := by
  intro x hx k
  rcases List.mem_append.1 hx with hx | hx
  · rw [nvL_map] at hx
    obtain ⟨t, _, rfl⟩ := List.mem_map.1 hx
    exact nv_no8 t k
  · rw [List.mem_singleton] at hx; subst hx; simp
theorem fk_last (ks : List Nd) (h : ks.length = 16) (u v : Value) : (nvL ks ++ [u]).set 16 v = nvL ks ++ [v] := by
  rw [List.set_append_right _ _ (by rw [nvL_map]; simp [h]), nvL_map]
  simp [h]
theorem fk_set (ks : List Nd) (h : ks.length = 16) (i : Nat) (hi : i < 16) (t : Nd) (u : Value) : (nvL ks ++ [u]).set i (nv t) = nvL (ks.set i t) ++ [u] := by
  rw [nvL_set, List.set_append_left _ _ (by rw [nvL_map]; simpa [h] using hi)]
/-- the fork in the making, and what comes of it -/
theorem part_end (na : Option Addr) (nn nc : Nat) (q : List UInt8) (c : Nat) (hnl : q.length = nn) (hn1 : nn ≤ 1000000000) (hcq : c ≤ q.length) (x : World) (hq : Bytes x (.slice na nn nc) q) (ks : List Nd) (hks : ks.length = 16) (a : Option Addr) (n d : Nat) (v : List UInt8) (hv : Bytes x (.slice a n d) v) (hk : ∀ k ∈ ks, IsNv x k) :
    ∃ (a5 : Option Addr) (c5 : Nat), (∀ (k : IntKind) (u : World), (Instr.slice 22 (.slice na nn nc) none (some (.int k (c : Int))) none).run Try.prog u = .ok (.slice a5 c c5) u) ∧
      ∀ u, Below x.heap.size x u → Calls Try.prog 76 #[.slice a5 c c5, .iface 102 (.agg (nvL ks ++ [Value.slice a n d]).toArray)] u (NvPost (behindQ (q.take c) (.mk 3 [] v (clNL ks))) u) := by
  obtain ⟨a5, c5, r5, row5⟩ := RowOf.to elU8 hq c (by omega) (c : Int) rfl
  refine ⟨a5, c5, r5, fun u hu => ?_⟩
  exact behind_any a5 c c5 (q.take c) (by rw [List.length_take]; omega) (by omega) (.mk 3 (.slice none 0 0) [] (.slice a n d) v (.slice none 0 0) ks) (show ([] : List UInt8).length ≤ 1000000000 from by simp) u (row5.below hu) (.fork _ _ _ _ _ _ (hv.below hu) hks (fun k hk2 => (hk k hk2).kept hu))
end Go.Proofs.Ytcgpjceopnfahaa
