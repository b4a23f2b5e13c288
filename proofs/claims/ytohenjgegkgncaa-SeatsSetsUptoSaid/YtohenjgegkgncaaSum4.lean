/- The Hasher by what it has taken: take, Write. -/
import Derived.Test.YtohenjgegkgncaaSum3
set_option linter.unusedSimpArgs false
set_option linter.unusedVariables false
namespace Go.Proofs.Ytohenjgegkgncaa
open Go.RowKit
/-- the Hasher at g has taken the first t bytes of P -/
def HashAt (P : List UInt8) (t g : Nat) (w : World) : Prop := ∃ pt : List UInt8, pt.length = 32 ∧ (∀ i, i < t % 32 → pt[i]? = P[32 * (t / 32) + i]?) ∧ Blk 194 w g (hst (stB P (t / 32)) pt (t % 32))
theorem HashAt.kept {P : List UInt8} {t g : Nat} {w w' : World} (h : HashAt P t g w) (hb : Below w.heap.size w w') : HashAt P t g w' := by
  obtain ⟨pt, h1, h2, h3⟩ := h
  exact ⟨pt, h1, h2, h3.kept hb⟩
theorem HashAt.n {P : List UInt8} {t g : Nat} {w : World} (h : HashAt P t g w) : w.cell? ⟨g, 40, none⟩ = some (.int .i64 ((t % 32 : Nat) : Int)) := by
  obtain ⟨pt, h1, h2, h3⟩ := h
  exact (h3.cell 40).trans (hst_n (stB_St P _) h1 _)
theorem take_any (P : List UInt8) (t : Nat) (x : UInt8) (g : Nat) (w : World) (hx : P[t]? = some x) (h : HashAt P t g w) :
    Calls Try.prog 153 #[.pointer (some ⟨g, 0, none⟩), .int .u8 (x.toNat : Int)] w fun e w' => e = .returned (.tuple #[]) ∧ HashAt P (t + 1) g w' ∧ w.grownBy w' (some g) := by
  obtain ⟨pt, h32, hpt, hb⟩ := h
  have hs := stB_St P (t / 32)
  by_cases hn : t % 32 < 31
  · refine (take_less _ pt (t % 32) x hs h32 hn g w hb).mono ?_
    rintro e w' ⟨rfl, hb', hg⟩
    refine ⟨rfl, ⟨pt.set (t % 32) x, by simpa using h32, fun i hi => ?_, ?_⟩, hg⟩
    · rw [show (t + 1) / 32 = t / 32 from by omega]
      rw [show (t + 1) % 32 = t % 32 + 1 from by omega] at hi
      rw [List.getElem?_set]
      by_cases hit : t % 32 = i
      · rw [if_pos hit, if_pos (by omega), ← hit, show 32 * (t / 32) + t % 32 = t from by omega, hx]
      · rw [if_neg hit]; exact hpt i (by omega)
    · rw [show (t + 1) / 32 = t / 32 from by omega, show (t + 1) % 32 = t % 32 + 1 from by omega]; exact hb'
  · have h31 : t % 32 = 31 := by omega
    rw [h31] at hb hpt
    refine (take_full _ pt x hs h32 g w hb).mono ?_
    rintro e w' ⟨rfl, hb', hg⟩
    refine ⟨rfl, ⟨pt.set 31 x, by simpa using h32, fun i hi => by omega, ?_⟩, hg⟩
    rw [show (t + 1) / 32 = t / 32 + 1 from by omega, show (t + 1) % 32 = 0 from by omega]
    have e1 : absK (stB P (t / 32)) (pt.set 31 x) 32 = absK (stB P (t / 32)) (P.drop (32 * (t / 32))) 32 := absK_same _ _ _ 32 (Nat.le_refl _) (fun i hi => by
      rw [List.getElem?_set, List.getElem?_drop]
      by_cases hi31 : 31 = i
      · rw [if_pos hi31, if_pos (by omega), ← hi31, show 32 * (t / 32) + 31 = t from by omega, hx]
      · rw [if_neg hi31]; exact hpt i (by omega))
    rw [e1] at hb'
    exact hb'
set_option maxHeartbeats 400000 in
set_option maxRecDepth 100000 in
theorem write_any (P l : List UInt8) (a : Option Addr) (n c g : Nat) (w0 w : World) (hn : l.length = n) (hP : ∀ i, i < n → P[i]? = l[i]?) (hl : Bytes w0 (.slice a n c) l) (hg : w0.heap.size ≤ g) (hb : Below w0.heap.size w0 w) (h : HashAt P 0 g w) (hgl : g < w.heap.size) :
    Calls Try.prog 133 #[.pointer (some ⟨g, 0, none⟩), .slice a n c] w fun e w' => e = .returned (.tuple #[]) ∧ HashAt P n g w' ∧ w.grownBy w' (some g) := by
  have HP := Lib.hid hP
  have Hn := Lib.hid hn
  have hg0 := World.grownBy.refl w (some g)
  have hbs := hb.size
  have hsm := hl.small
  unfold maxLen at hsm
  rw [hn] at hsm
  clear hP hn
  go_enter Try.func133, Try.ntmps133
  go_wp2
  go_loopw [8] (fun ix wr => ∃ i : Nat, i ≤ n ∧ ix = .int .i64 (i : Int) ∧ HashAt P i g wr ∧ w.grownBy wr (some g)) (fun ix _ => n - (intOf ix).toNat)
  case atStart => exact ⟨0, by omega, rfl, h, hg0⟩
  case round =>
    clear h hg0
    obtain ⟨i, hi, rfl, hH, hgr⟩ := hrel
    by_cases hlt : i < n
    · have hii : (i : Int) < (n : Int) := by omega
      have hbw : Below w0.heap.size w0 wr := hb.grown hgr hbs (fun k hk => by cases hk; exact hg)
      obtain ⟨b, off, rfl, hc⟩ := Bytes.at (hl.below hbw) i (by rw [Hn.out]; exact hlt)
      have hx : P[i]? = some (l[i]'(by rw [Hn.out]; exact hlt)) := (HP.out i hlt).trans (List.getElem?_eq_getElem _)
      obtain ⟨x, hxx⟩ : ∃ x, x = l[i]'(by rw [Hn.out]; exact hlt) := ⟨_, rfl⟩
      rw [← hxx] at hx hc
      have Hx := Lib.hid hx
      clear hx hxx hbw
      go_wp2_with (go_at_call 153; (with_reducible refine (take_any P i x g _ Hx.out hH).mono ?_); rintro e w2 ⟨rfl, hH2, hg2⟩)
      have hgr2 : w.grownBy w2 (some g) := ⟨hg2.os.trans hgr.os, hg2.tape.trans hgr.tape, hg2.output.trans hgr.output, Nat.le_trans hgr.size hg2.size, fun k hk hne => (hg2.block k (Nat.lt_of_lt_of_le hk hgr.size) hne).trans (hgr.block k hk hne)⟩
      go_roundw
      case rel => exact ⟨i + 1, by omega, by go_num, hH2, hgr2⟩
      case measure => simp [intOf]; omega
    · obtain rfl : i = n := by omega
      go_wp2
      go_end0
      exact ⟨rfl, hH, hgr⟩
end Go.Proofs.Ytohenjgegkgncaa
