/- sponge.read, write8. -/
import Derived.Test.YtohenjgegkgncaaSum1
import Derived.Test.YtohenjgegkgncaaTyped
set_option linter.unusedSimpArgs false
set_option linter.unusedVariables false
namespace Go.Proofs.Ytohenjgegkgncaa
open Go.RowKit
theorem wrap_up (x m : Nat) (h : x * 2 ^ m < 18446744073709551616) : IntKind.u64.wrap ((x : Int) * (2 : Int) ^ m) = ((x * 2 ^ m : Nat) : Int) := by
  rw [show (x : Int) * (2 : Int) ^ m = ((x * 2 ^ m : Nat) : Int) from by simp]
  generalize x * 2 ^ m = y at *
  rw [IntKind.wrap_u64]; omega
theorem wrap_u8u64 (x : UInt8) : IntKind.u64.wrap (x.toNat : Int) = (x.toNat : Int) := by
  have := x.toNat_lt
  rw [IntKind.wrap_u64]; omega
set_option maxHeartbeats 400000 in
set_option maxRecDepth 100000 in
theorem read8_any (a : Option Addr) (n c : Nat) (p : List UInt8) (hn : p.length = n) (h8 : 8 ≤ n) (w : World) (h : Bytes w (.slice a n c) p) :
    Calls Try.prog 160 #[.slice a n c] w fun e w' => e = .returned (.int .u64 ((rdN p 0 8 : Nat) : Int)) ∧ Below w.heap.size w w' := by
  have Hn := Lib.hid hn
  clear hn
  go_enter Try.func160, Try.ntmps160
  go_wp2
  go_loop [5, 3] (fun ix x => ∃ i : Nat, i ≤ 8 ∧ ix = .int .i64 (i : Int) ∧ x = .int .u64 ((rdN p 0 i : Nat) : Int)) (fun ix _ => 8 - (intOf ix).toNat)
  case atStart => exact ⟨0, by omega, rfl, rfl⟩
  case round =>
    obtain ⟨i, hi, rfl, rfl⟩ := hrel
    by_cases hlt : i < 8
    · have hii : (i : Int) < 8 := by omega
      obtain ⟨b, off, rfl, hc⟩ := h.at i (by rw [Hn.out]; omega)
      obtain ⟨x, hx⟩ : ∃ x, x = p[i]'(by rw [Hn.out]; omega) := ⟨_, rfl⟩
      rw [← hx] at hc
      have hpx : p[8 * 0 + i]?.getD 0 = x := by rw [show 8 * 0 + i = i from by omega, List.getElem?_eq_getElem (by rw [Hn.out]; omega), ← hx]; rfl
      have hor := rdN_or p 0 i hlt
      have hup := byte_up x i hlt
      rw [hpx] at hor
      obtain ⟨s, hs⟩ : ∃ s, s = 8 * i := ⟨_, rfl⟩
      have es : (8 : Int) * (i : Int) = (s : Int) := by omega
      have ew : IntKind.i64.wrap (s : Int) = (s : Int) := IntWalk.i64_in _ (by omega)
      rw [← hs] at hor hup
      have hsh := wrap_up x.toNat s hup
      have hwx := wrap_u8u64 x
      obtain ⟨y, hy⟩ : ∃ y, y = x.toNat * 2 ^ s := ⟨_, rfl⟩
      rw [← hy] at hor hsh
      obtain ⟨R, hR⟩ : ∃ R, R = rdN p 0 (i + 1) := ⟨_, rfl⟩
      rw [← hR] at hor
      have hin : (i : Int) < (n : Int) := by omega
      have hin' : i < n := by omega
      have hxb := u8_lt x
      have HR := Lib.hid hR
      generalize rdN p 0 i = r at *
      clear hpx hx hs hy hup hR
      go_wp2
      go_round
      case rel => exact ⟨i + 1, by omega, by go_num, by rw [← HR.out]⟩
      case measure => simp [intOf]; omega
    · obtain rfl : i = 8 := by omega
      go_wp2
      go_ret
      exact ⟨rfl, Below.refl _ _⟩
theorem wrap_u8n (y : Nat) : IntKind.u8.wrap (y : Int) = ((UInt8.ofNat y).toNat : Int) := by
  rw [IntKind.wrap_u8', UInt8.toNat_ofNat']
  omega
set_option maxHeartbeats 400000 in
set_option maxRecDepth 100000 in
theorem write8_any (g o n : Nat) (x : Nat) (T : List Value) (e : TypeId) (hx : x < 18446744073709551616) (h8 : 8 ≤ n) (hT : ∀ i, i < 8 → T[o + i]? = some (u8v (UInt8.ofNat (x / 2 ^ (8 * i))))) (ho : o + 8 ≤ T.length) (w : World) (hb : Blk e w g (fillL T (.int .u8 0) o)) :
    Calls Try.prog 154 #[.slice (some ⟨g, o, none⟩) n n, .int .u64 (x : Int)] w fun en w' => en = .returned (.tuple #[]) ∧ Blk e w' g (fillL T (.int .u8 0) (o + 8)) ∧ w.grownBy w' (some g) := by
  have HT := Lib.hid hT
  have Ho := Lib.hid ho
  clear hT ho
  have hg0 := World.grownBy.refl w (some g)
  go_enter Try.func154, Try.ntmps154
  go_wp2
  go_loopw [5] (fun ix wr => ∃ i : Nat, i ≤ 8 ∧ ix = .int .i64 (i : Int) ∧ Blk e wr g (fillL T (.int .u8 0) (o + i)) ∧ w.grownBy wr (some g)) (fun ix _ => 8 - (intOf ix).toNat)
  case atStart => exact ⟨0, by omega, rfl, hb, hg0⟩
  case round =>
    clear hb hg0
    obtain ⟨i, hi, rfl, hb, hgr⟩ := hrel
    by_cases hlt : i < 8
    · have hii : (i : Int) < 8 := by omega
      obtain ⟨s, hs⟩ : ∃ s, s = 8 * i := ⟨_, rfl⟩
      have es : (8 : Int) * (i : Int) = (s : Int) := by omega
      have ew : IntKind.i64.wrap (s : Int) = (s : Int) := IntWalk.i64_in _ (by omega)
      have hTi := HT.out i hlt
      rw [← hs] at hTi
      obtain ⟨y, hy⟩ : ∃ y, y = x / 2 ^ s := ⟨_, rfl⟩
      have ey : (x : Int) / 2 ^ s = (y : Int) := by rw [hy]; simp
      rw [← hy] at hTi
      have hwy := wrap_u8n y
      obtain ⟨z, hz⟩ : ∃ z, z = UInt8.ofNat y := ⟨_, rfl⟩
      rw [← hz] at hTi hwy
      obtain ⟨y1, hy1⟩ := hb.has (o + i) (by rw [fill_len _ _ _ (by have := Ho.out; omega)]; have := Ho.out; omega)
      have hf := hb.free (o + i)
      have hset := hb.set (o + i) (u8v z)
      rw [fill_set' T _ (o + i) _ hTi] at hset
      have hgr2 : w.grownBy (wr.setCell ⟨g, o + i, none⟩ (u8v z)) (some g) := ⟨hgr.os, hgr.tape, hgr.output, by simpa using hgr.size, fun k hk hne => by rw [← hgr.block k hk hne]; exact heap_setCell_other wr _ k _ (by simpa using hne)⟩
      have hin : (i : Int) < (n : Int) := by omega
      have hin' : i < n := by omega
      clear hTi hy hz hs hb hgr
      go_wp2
      go_roundw
      case rel => exact ⟨i + 1, by omega, by go_num, hset, hgr2⟩
      case measure => simp [intOf]; omega
    · obtain rfl : i = 8 := by omega
      go_wp2
      go_end0
      exact ⟨rfl, hb, hgr⟩
end Go.Proofs.Ytohenjgegkgncaa
