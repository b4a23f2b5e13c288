/- bloom.bits, the reference's JHas. -/
import Derived.Test.YtljbbpcnoajfeaaBloom1
import Derived.Test.YtljbbpcnoajfeaaSumA
import Derived.Test.YtljbbpcnoajfeaaBase
set_option linter.unusedSimpArgs false
set_option linter.unusedVariables false
namespace Go.Proofs.Ytljbbpcnoajfeaa
open Go.RowKit
theorem agg3 : Agg Try.prog 210 3 := ⟨_, Try.underlying210, rfl, by kernel_rfl⟩
def trip (l : List UInt8) : List UInt8 := (sumB l).take 3
theorem trip_len (l : List UInt8) : (trip l).length = 3 := by unfold trip sumB; rw [List.length_take, outB_len]; rfl
def z3 : List Value := List.replicate 3 (.int .u8 0)
set_option maxHeartbeats 400000 in
set_option maxRecDepth 100000 in
theorem bits_any (a : Option Addr) (n c : Nat) (l : List UInt8) (hn : l.length = n) (w : World) (h : Bytes w (.slice a n c) l) :
    Calls Try.prog 126 #[.slice a n c] w fun e w' => e = .returned (.agg ((trip l).map u8v).toArray) ∧ Below w.heap.size w w' := by
  have cs : ∀ x, Bytes x (.slice a n c) l → Calls Try.prog 70 #[.slice a n c] x fun e w' => e = .returned (.agg (scs l).toArray) ∧ Below x.heap.size x w' := fun x h => sum_any a n c l hn x h
  have hl := scs_len l
  have h1 := scs_one l
  have htr : (scs l).take 3 = (trip l).map u8v := by unfold trip scs; rw [List.map_take]
  obtain ⟨C, hC⟩ : ∃ C, C = scs l := ⟨_, rfl⟩
  simp only [← hC] at cs hl h1 htr
  have ht8 : (C.take 3).length = 3 := by rw [List.length_take, hl]; rfl
  have h8 : ∀ u ∈ C.take 3, u.oneCell' = true := fun u hu => h1 u (List.mem_of_mem_take hu)
  have hs2 : ∀ g c x, (Instr.arrayAt 210 (.slice (some ⟨g, 0, none⟩) 3 c)).run Try.prog x = .ok (.pointer (some ⟨g, 0, none⟩)) x := fun g c x => run_arrayAt (P := Try.prog) (t := 210) (e := 5) (n := 3) (by kernel_rfl) _ 3 c (Nat.le_refl _) x
  have hz1 : Blk 210 (w.alloc (.cells z3.toArray 210)) w.heap.size z3 := Blk.new w _ _
  have hbel1 : Below w.heap.size w (w.alloc (.cells z3.toArray 210)) := (Below.refl _ _).alloc (Nat.le_refl _) _
  have Cs := Lib.hid cs
  have H1 := Lib.hid h1
  have H8 := Lib.hid h8
  have Hl := Lib.hid hl
  have Ht8 := Lib.hid ht8
  have Htr := Lib.hid htr
  clear cs h1 h8 hl ht8 htr hC hn
  go_enter Try.func126, Try.ntmps126
  go_wp2_with (first
    | (go_at_call 70; refine (Cs.out _ (h.below hbel1)).mono ?_; rintro e w9 ⟨rfl, b9⟩; have hz9 := hz1.kept b9; have hbel9 := Below.then hbel1 b9; have hn9 := Blk.new w9 43 zh; have hz10 := hz9.alloc (.cells zh.toArray 43); have hbel10 := hbel9.alloc hbel9.size (.cells zh.toArray 43))
    | (refine wpList_storeA (o := ⟨none, _, _, _, _, _⟩) (by rfl) 43 (.tmp 3) (.tmp 5) (by rfl) w9.heap.size C (by rfl) (by rfl) aggHash' hn9 Hl.out (by rfl) H1.out (Below.refl _ _) (Nat.le_refl _) ?_; intro w11 hh11 _ hg11; have hz11 := hz10.grown hg11 (by have := hz9.lt; simp; omega); have hbel11 := hbel10.grown hg11 hbel10.size (fun j hj => by cases hj; exact hbel9.size); have hr11 := hh11.range 0 3)
    | (refine wpList_load_mid (op := ⟨some 8, _, _, _, _, _⟩) (by rfl) 210 (.tmp 7) (by rfl) w9.heap.size 0 (by rfl) (C.take 3) _ hr11 Try.underlying210 rfl (by rw [Ht8.out]; kernel_rfl) ?_)
    | (refine wpList_storeA (o := ⟨none, _, _, _, _, _⟩) (by rfl) 210 (.tmp 2) (.tmp 8) (by rfl) w.heap.size (C.take 3) (by rfl) (by rfl) agg3 hz11 Ht8.out (by rfl) H8.out (Below.refl _ _) (Nat.le_refl _) ?_; intro w12 hh12 _ hg12; have hbel12 := hbel11.grown hg12 hbel11.size (fun j hj => by cases hj; omega)))
  exact bodyPost_ret (results_blk rfl _ _ w.heap.size agg3 hh12 Ht8.out rfl) rfl ⟨by rw [Htr.out], hbel12⟩
/-- a filter's cells -/
def fcs (F : List UInt8) : List Value := F.map u8v
theorem fcs_len {F : List UInt8} (h : F.length = 32) : (fcs F).length = 32 := by unfold fcs; rw [List.length_map, h]
theorem fcs_one (F : List UInt8) : ∀ u ∈ fcs F, u.oneCell' = true := fun u hu => by obtain ⟨x, _, rfl⟩ := List.mem_map.1 hu; rfl
theorem fcs_at {F : List UInt8} {q : Nat} {x : UInt8} (h : F[q]? = some x) : (fcs F)[q]? = some (.int .u8 (x.toNat : Int)) := by unfold fcs; rw [List.getElem?_map, h]; rfl
theorem byte_at {F : List UInt8} (hl : F.length = 32) (n : Nat) (hn : n < 256) : ∃ x, F[n / 8]? = some x := ⟨_, List.getElem?_eq_getElem (by omega)⟩
set_option maxHeartbeats 400000 in
set_option maxRecDepth 100000 in
theorem jhas_any (F : List UInt8) (hF : F.length = 32) (n : Nat) (hn : n < 256) (w : World) :
    Calls Try.prog 99 #[.agg (fcs F).toArray, .int .i64 (n : Int)] w fun e w' => e = .returned (.bool (fb F n)) ∧ Below w.heap.size w w' := by
  obtain ⟨x, hx⟩ := byte_at hF n hn
  have hb := Blk.new w 43 (fcs F)
  have hc := (hb.cell (n / 8)).trans (fcs_at hx)
  have ht := fb_test F n x hx
  obtain ⟨q, hq⟩ : ∃ q, q = n / 8 := ⟨_, rfl⟩
  obtain ⟨r, hr⟩ : ∃ r, r = n % 8 := ⟨_, rfl⟩
  rw [← hq] at hc
  rw [← hr] at ht
  have e1 : (n : Int) / 8 = (q : Int) := by omega
  have e2 : (n : Int) % 8 = (r : Int) := by omega
  have e1t : (n : Int).tdiv 8 = (q : Int) := by rw [Int.tdiv_eq_ediv_of_nonneg (by omega)]; exact e1
  have e2t : (n : Int).tmod 8 = (r : Int) := by rw [Int.tmod_eq_emod_of_nonneg (by omega)]; exact e2
  have hq32 : (q : Int) < 32 := by omega
  have hr8 : (r : Int) ≤ 7 := by omega
  have hq32' : q < 32 := by omega
  have hbel : Below w.heap.size w (w.alloc (.cells (fcs F).toArray 43)) := (Below.refl _ _).alloc (Nat.le_refl _) _
  have Ht := Lib.hid ht
  clear ht hq hr hx hF hb
  generalize fcs F = C at *
  go_enter Try.func99, Try.ntmps99
  go_wp2
  go_ret
  refine ⟨ret_bool ?_, hbel⟩
  rw [Ht.out]
  have e3 : ((x.toNat : Int) / 2 ^ r).tmod 2 = ((x.toNat / 2 ^ r % 2 : Nat) : Int) := by
    have : (x.toNat : Int) / 2 ^ r = ((x.toNat / 2 ^ r : Nat) : Int) := by simp
    rw [this]
    generalize x.toNat / 2 ^ r = y
    rw [Int.tmod_eq_emod_of_nonneg (by omega)]; omega
  rw [e3, Bool.eq_iff_iff]
  simp only [beq_iff_eq, decide_eq_true_eq]
  generalize x.toNat / 2 ^ r = y
  omega
end Go.Proofs.Ytljbbpcnoajfeaa
