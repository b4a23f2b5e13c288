/- Logs in a world. -/
import Derived.Test.YtljbbpcnoajfeaaMid
import Derived.Test.YtljbbpcnoajfeaaLits
import Derived.Test.YtljbbpcnoajfeaaWordA
set_option linter.unusedSimpArgs false
set_option linter.unusedVariables false
namespace Go.Proofs.Ytljbbpcnoajfeaa
open Go.RowKit
/-- a log, with the values that it lies there as -/
structure Lgv where
  addr : List UInt8
  len : addr.length = 8
  tv : Value
  tops : List Nat
  dv : Value
  dat : List UInt8
def lgc (l : Lgv) : List Value := by8 l.addr ++ [l.tv, l.dv]
theorem lgc_len (l : Lgv) : (lgc l).length = 10 := by unfold lgc; rw [List.length_append, by8_len, l.len]; rfl
structure Lgv.In (w : World) (l : Lgv) : Prop where
  ht : RowOf wcs 4 w l.tv l.tops
  hd : Bytes w l.dv l.dat
theorem Lgv.In.kept {w w' : World} {l : Lgv} (h : l.In w) (hb : Below w.heap.size w w') : l.In w' := ⟨h.ht.below hb, h.hd.below hb⟩
def Logs (w : World) (v : Value) (ls : List Lgv) : Prop := RowOf lgc 10 w v ls ∧ ∀ l ∈ ls, l.In w
theorem Logs.kept {w w' : World} {v : Value} {ls : List Lgv} (h : Logs w v ls) (hb : Below w.heap.size w w') : Logs w' v ls := ⟨h.1.below hb, fun l hl => (h.2 l hl).kept hb⟩
theorem aggLog : Agg Try.prog 84 10 := ⟨_, Try.underlying84, rfl, by kernel_rfl⟩
theorem elLog : El0 Try.prog 88 84 (.agg #[.int .u8 0, .int .u8 0, .int .u8 0, .int .u8 0, .int .u8 0, .int .u8 0, .int .u8 0, .int .u8 0, .slice none 0 0, .slice none 0 0]) 10 56 lgc := ⟨by kernel_rfl, by kernel_rfl, rfl, by omega, lgc_len⟩
theorem lgc_addr (l : Lgv) : ((lgc l).drop 0).take 8 = by8 l.addr := mid_drop [] _ _ 0 8 rfl (by rw [by8_len, l.len])
theorem lgc_tops (l : Lgv) : (lgc l)[8]? = some l.tv := by
  unfold lgc
  rw [List.getElem?_append_right (by rw [by8_len, l.len]; omega), by8_len, l.len]; rfl
theorem lgc_dat (l : Lgv) : (lgc l)[9]? = some l.dv := by
  unfold lgc
  rw [List.getElem?_append_right (by rw [by8_len, l.len]; omega), by8_len, l.len]; rfl
theorem lgc_one (l : Lgv) (h1 : l.tv.oneCell' = true) (h2 : l.dv.oneCell' = true) : ∀ u ∈ lgc l, u.oneCell' = true := by
  intro u hu
  unfold lgc at hu
  simp only [List.mem_append, List.mem_cons, List.not_mem_nil, or_false] at hu
  rcases hu with hu | rfl | rfl
  · obtain ⟨x, _, rfl⟩ := List.mem_map.1 hu; rfl
  · exact h1
  · exact h2
end Go.Proofs.Ytljbbpcnoajfeaa
