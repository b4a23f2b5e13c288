/- block.Write. -/
import Derived.Test.YtffkjjpjfehcnaaLkV
import Derived.Test.YtffkjjpjfehcnaaHdr2
set_option linter.unusedSimpArgs false
set_option linter.unusedVariables false
namespace Go.Proofs.Ytffkjjpjfehcnaa
open Go.RowKit
def hNs (h : Hd) : List Nat := [h.num, h.tim, h.lim, h.use]
/-- the parts behind the numbers: where, how long, what -/
def hSix (h : Hd) : List (Nat × Nat × List UInt8) := [(34, 8, h.kee), (44, 32, h.blo), (76, 32, h.sta), (108, 32, h.txs), (140, 32, h.rcs), (172, 32, h.nex)]
def sv6 (g : Nat) (p : Nat × Nat × List UInt8) : Value := .slice (some ⟨g, p.1, none⟩) p.2.1 p.2.1
theorem hSix_bytes {h : Hd} (k : h.Ok) {e : TypeId} {w : World} {g : Nat} (hb : Blk e w g (hdcs h)) : ∀ p ∈ hSix h, Bytes w (sv6 g p) p.2.2 ∧ p.2.2.length = p.2.1 := by
  intro p hp
  simp only [hSix, List.mem_cons, List.not_mem_nil, or_false] at hp
  rcases hp with rfl | rfl | rfl | rfl | rfl | rfl
  · exact ⟨hb.bytesAt _ _ _ (hdcs_kee k) k.kee (by unfold maxLen; dsimp only; omega), k.kee⟩
  · exact ⟨hb.bytesAt _ _ _ (hdcs_blo k) k.blo (by unfold maxLen; dsimp only; omega), k.blo⟩
  · exact ⟨hb.bytesAt _ _ _ (hdcs_sta k) k.sta (by unfold maxLen; dsimp only; omega), k.sta⟩
  · exact ⟨hb.bytesAt _ _ _ (hdcs_txs k) k.txs (by unfold maxLen; dsimp only; omega), k.txs⟩
  · exact ⟨hb.bytesAt _ _ _ (hdcs_rcs k) k.rcs (by unfold maxLen; dsimp only; omega), k.rcs⟩
  · exact ⟨hb.bytesAt _ _ _ (hdcs_nex k) k.nex (by unfold maxLen; dsimp only; omega), k.nex⟩
theorem hTs_ns (h : Hd) (i : Nat) (hi : i < 4) : (hTs h).take (i + 2) = (hTs h).take (i + 1) ++ [numB ((hNs h)[i]?.getD 0)] := by
  rcases (by omega : i = 0 ∨ i = 1 ∨ i = 2 ∨ i = 3) with rfl | rfl | rfl | rfl <;> rfl
theorem hTs_six (h : Hd) (i : Nat) (hi : i < 6) : (hTs h).take (i + 6) = (hTs h).take (i + 5) ++ [((hSix h)[i]?.getD (0, 0, [])).2.2] := by
  rcases (by omega : i = 0 ∨ i = 1 ∨ i = 2 ∨ i = 3 ∨ i = 4 ∨ i = 5) with rfl | rfl | rfl | rfl | rfl | rfl <;> rfl
theorem hNs_lt {h : Hd} (k : h.Ok) (i : Nat) (hi : i < 4) : (hNs h)[i]?.getD 0 < 18446744073709551616 := by
  rcases (by omega : i = 0 ∨ i = 1 ∨ i = 2 ∨ i = 3) with rfl | rfl | rfl | rfl
  · exact k.num
  · exact k.tim
  · exact k.lim
  · exact k.use
theorem idx4 (a b c d : Nat) (i : Nat) (hi : i < 4) (w : World) : (Instr.index 47 (.agg #[u64v a, u64v b, u64v c, u64v d]) (.int .i64 (i : Int))).run Try.prog w = .ok (.int .u64 (([a, b, c, d][i]?.getD 0 : Nat) : Int)) w := by
  refine run_index_at (n := 4) (e := 24) (by kernel_rfl) (by kernel_rfl) (fun w => run_isAgg_plain Try.underlying24 rfl w) _ i hi ?_ w .i64
  rcases (by omega : i = 0 ∨ i = 1 ∨ i = 2 ∨ i = 3) with rfl | rfl | rfl | rfl <;> rfl
theorem idx6 (g : Nat) (h : Hd) (i : Nat) (hi : i < 6) (w : World) : (Instr.index 142 (.agg #[.slice (some ⟨g, 34, none⟩) 8 8, .slice (some ⟨g, 44, none⟩) 32 32, .slice (some ⟨g, 76, none⟩) 32 32, .slice (some ⟨g, 108, none⟩) 32 32, .slice (some ⟨g, 140, none⟩) 32 32, .slice (some ⟨g, 172, none⟩) 32 32]) (.int .i64 (i : Int))).run Try.prog w = .ok (sv6 g ((hSix h)[i]?.getD (0, 0, []))) w := by
  refine run_index_at (n := 6) (e := 29) (by kernel_rfl) (by kernel_rfl) (fun w => run_isAgg_plain Try.underlying29 rfl w) _ i hi ?_ w .i64
  rcases (by omega : i = 0 ∨ i = 1 ∨ i = 2 ∨ i = 3 ∨ i = 4 ∨ i = 5) with rfl | rfl | rfl | rfl | rfl | rfl <;> rfl
theorem sl32 (g off : Nat) (w : World) : (Instr.sliceAt 23 (.pointer (some ⟨g, off, none⟩)) none none none).run Try.prog w = .ok (.slice (some ⟨g, off, none⟩) 32 32) w := by
  rw [run_sliceAt_array_all w 23 ⟨g, off, none⟩ (by kernel_rfl)]
  have e1 : Try.prog.arrayLen 23 = 32 := by kernel_rfl
  have hs : (Try.prog.info? (Try.prog.elem 23)).map (·.size) = some 1 := by kernel_rfl
  cases hq : Try.prog.info? (Try.prog.elem 23) with
  | none => simp [hq] at hs
  | some q =>
    have hs1 : q.size = 1 := by simpa [hq] using hs
    simp [sizeOf, typeInfo, hq, hs1, e1, slicedAt, Addr.add]
theorem sl8 (g off : Nat) (w : World) : (Instr.sliceAt 26 (.pointer (some ⟨g, off, none⟩)) none none none).run Try.prog w = .ok (.slice (some ⟨g, off, none⟩) 8 8) w := by
  rw [run_sliceAt_array_all w 26 ⟨g, off, none⟩ (by kernel_rfl)]
  have e1 : Try.prog.arrayLen 26 = 8 := by kernel_rfl
  have hs : (Try.prog.info? (Try.prog.elem 26)).map (·.size) = some 1 := by kernel_rfl
  cases hq : Try.prog.info? (Try.prog.elem 26) with
  | none => simp [hq] at hs
  | some q =>
    have hs1 : q.size = 1 := by simpa [hq] using hs
    simp [sizeOf, typeInfo, hq, hs1, e1, slicedAt, Addr.add]
end Go.Proofs.Ytffkjjpjfehcnaa
