/- sponge.Each: what is taken behind the first part; the closure that tells the sum so far. -/
import Derived.Test.YtljbbpcnoajfeaaSumA
import Derived.Test.YtljbbpcnoajfeaaOpenA
import Derived.Test.YtljbbpcnoajfeaaBase
set_option linter.unusedSimpArgs false
set_option linter.unusedVariables false
namespace Go.Proofs.Ytljbbpcnoajfeaa
open Go.RowKit
theorem stB_same (P Q : List UInt8) : ∀ m, (∀ i, i < 32 * m → P[i]? = Q[i]?) → stB P m = stB Q m
  | 0, _ => rfl
  | m + 1, h => by
    unfold stB
    rw [stB_same P Q m (fun i hi => h i (by omega))]
    congr 1
    exact absK_same _ _ _ 32 (Nat.le_refl _) (fun i hi => by rw [List.getElem?_drop, List.getElem?_drop]; exact h _ (by omega))
theorem HashAt.same {P Q : List UInt8} {t g : Nat} {w : World} (h : HashAt P t g w) (hpq : ∀ i, i < t → P[i]? = Q[i]?) : HashAt Q t g w := by
  obtain ⟨pt, h1, h2, h3⟩ := h
  refine ⟨pt, h1, fun i hi => (h2 i hi).trans (hpq _ (by omega)), ?_⟩
  rw [← stB_same P Q (t / 32) (fun i hi => hpq i (by omega))]; exact h3
set_option maxHeartbeats 400000 in
set_option maxRecDepth 100000 in
theorem write_from (P l : List UInt8) (a : Option Addr) (n c g t : Nat) (w : World) (hn : l.length = n) (hP : ∀ i, i < n → P[t + i]? = l[i]?) (hl : Bytes w (.slice a n c) l) (hlg : ∀ w', w.grownBy w' (some g) → Bytes w' (.slice a n c) l) (h : HashAt P t g w) :
    Calls Try.prog 103 #[.pointer (some ⟨g, 0, none⟩), .slice a n c] w fun e w' => e = .returned (.tuple #[]) ∧ HashAt P (t + n) g w' ∧ w.grownBy w' (some g) := by
  have HP := Lib.hid hP
  have Hn := Lib.hid hn
  have Hlg := Lib.hid hlg
  have hg0 := World.grownBy.refl w (some g)
  have hsm := hl.small
  unfold maxLen at hsm
  rw [hn] at hsm
  clear hP hn hlg
  go_enter Try.func103, Try.ntmps103
  go_wp2
  go_loopw [8] (fun ix wr => ∃ i : Nat, i ≤ n ∧ ix = .int .i64 (i : Int) ∧ HashAt P (t + i) g wr ∧ w.grownBy wr (some g)) (fun ix _ => n - (intOf ix).toNat)
  case atStart => exact ⟨0, by omega, rfl, h, hg0⟩
  case round =>
    clear h hg0
    obtain ⟨i, hi, rfl, hH, hgr⟩ := hrel
    by_cases hlt : i < n
    · have hii : (i : Int) < (n : Int) := by omega
      obtain ⟨b, off, rfl, hc⟩ := Bytes.at (Hlg.out _ hgr) i (by rw [Hn.out]; exact hlt)
      have hx : P[t + i]? = some (l[i]'(by rw [Hn.out]; exact hlt)) := (HP.out i hlt).trans (List.getElem?_eq_getElem _)
      obtain ⟨x, hxx⟩ : ∃ x, x = l[i]'(by rw [Hn.out]; exact hlt) := ⟨_, rfl⟩
      rw [← hxx] at hx hc
      have Hx := Lib.hid hx
      clear hx hxx
      go_wp2_with (go_at_call 127; (with_reducible refine (take_any P (t + i) x g _ Hx.out hH).mono ?_); rintro e w2 ⟨rfl, hH2, hg2⟩)
      have hgr2 : w.grownBy w2 (some g) := ⟨hg2.os.trans hgr.os, hg2.tape.trans hgr.tape, hg2.output.trans hgr.output, Nat.le_trans hgr.size hg2.size, fun k hk hne => (hg2.block k (Nat.lt_of_lt_of_le hk hgr.size) hne).trans (hgr.block k hk hne)⟩
      go_roundw
      case rel => exact ⟨i + 1, by omega, by go_num, hH2, hgr2⟩
      case measure => simp [intOf]; omega
    · obtain rfl : i = n := by omega
      go_wp2
      go_end0
      exact ⟨rfl, hH, hgr⟩
/-- the parts, joined -/
def cat (ps : List (Value × List UInt8)) (k : Nat) : List UInt8 := (ps.take k).flatMap (·.2)
theorem cat_succ (ps : List (Value × List UInt8)) (k : Nat) (p : Value × List UInt8) (h : ps[k]? = some p) : cat ps (k + 1) = cat ps k ++ p.2 := by
  unfold cat
  have hk := (List.getElem?_eq_some_iff.1 h).1
  have he := (List.getElem?_eq_some_iff.1 h).2
  rw [List.take_succ_eq_append_getElem hk, List.flatMap_append, he]; simp
theorem cat_pre (ps : List (Value × List UInt8)) (k i : Nat) (hi : i < (cat ps k).length) : (cat ps ps.length)[i]? = (cat ps k)[i]? := by
  have e : cat ps ps.length = cat ps k ++ (ps.drop k).flatMap (·.2) := by
    unfold cat
    rw [← List.flatMap_append, List.take_append_drop, List.take_length]
  rw [e, List.getElem?_append_left hi]
theorem cat_le (ps : List (Value × List UInt8)) (k : Nat) : (cat ps k).length ≤ (cat ps ps.length).length := by
  have e : cat ps ps.length = cat ps k ++ (ps.drop k).flatMap (·.2) := by
    unfold cat
    rw [← List.flatMap_append, List.take_append_drop, List.take_length]
  rw [e]; simp
def tops (ps : List (Value × List UInt8)) (k : Nat) : List (List UInt8) := (List.range k).map fun i => cat ps (i + 1)
theorem tops_succ (ps : List (Value × List UInt8)) (k : Nat) : tops ps (k + 1) = tops ps k ++ [cat ps (k + 1)] := by
  unfold tops
  rw [List.range_succ, List.map_append]; rfl
theorem tops_len (ps : List (Value × List UInt8)) (k : Nat) : (tops ps k).length = k := by simp [tops]
theorem elHash : El Try.prog 98 43 (.agg zh.toArray) 32 32 scs := ⟨by kernel_rfl, by kernel_rfl, rfl, by omega, scs_len, scs_one⟩
end Go.Proofs.Ytljbbpcnoajfeaa
