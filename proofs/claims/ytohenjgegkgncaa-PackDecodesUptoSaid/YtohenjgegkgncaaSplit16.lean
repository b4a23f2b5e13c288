/- pack.Decode and the reference's PDecode: one answer. -/
import Derived.Test.YtohenjgegkgncaaSplit15
set_option linter.unusedSimpArgs false
set_option linter.unusedVariables false
namespace Go.Proofs.Ytohenjgegkgncaa
open Go.RowKit
/-- the item whose bytes these are -/
def dec (b : List UInt8) : Option Pit := match par b.length b with
  | some (p, []) => some p
  | _ => none
def decP (b : List UInt8) : Pit := (dec b).getD (.txt [])
def decE (b : List UInt8) : Int := if (dec b).isSome = true then 0 else 1
theorem dec_yes {b : List UInt8} (h1 : splE b = 0) (h2 : splN b = b.length) : decE b = 0 ∧ decP b = splP b := by
  unfold decE decP dec
  unfold splE at h1
  unfold splN at h2
  unfold splP
  cases hp : par b.length b with
  | none => rw [hp] at h1; simp at h1
  | some pr =>
    obtain ⟨p, r⟩ := pr
    rw [hp] at h2
    have hl := par_len hp
    dsimp only at h2
    obtain rfl : r = [] := List.eq_nil_of_length_eq_zero (by omega)
    exact ⟨rfl, rfl⟩
theorem dec_no {b : List UInt8} (h : ¬ (splE b = 0 ∧ splN b = b.length)) : decE b = 1 ∧ decP b = .txt [] := by
  unfold splE splN at h
  unfold decE decP dec
  cases hp : par b.length b with
  | none => exact ⟨rfl, rfl⟩
  | some pr =>
    obtain ⟨p, r⟩ := pr
    rw [hp] at h
    cases r with
    | nil => exact absurd ⟨rfl, by simp⟩ h
    | cons x r => exact ⟨rfl, rfl⟩
set_option maxHeartbeats 1000000 in
set_option maxRecDepth 100000 in
theorem decode_any (a : Option Addr) (L c : Nat) (b : List UInt8) (hL : b.length = L) (hLs : L ≤ 1048576) (w : World) (h : Bytes w (.slice a L c) b) :
    Calls Try.prog 19 #[.slice a L c] w fun e w' => ∃ it, e = .returned (.tuple #[.agg (icells it).toArray, .int .i64 (decE b)]) ∧ Below w.heap.size w w' ∧ Fp (fun x => w.heap.size ≤ x) w' it ∧ BareI it ∧ erI it = decP b ∧ bulkI it ≤ 10000000 := by
  have hz := Blk.new w 25 [.bool false, .slice none 0 0, .slice none 0 0]
  have hbel : Below w.heap.size w (w.alloc (.cells #[.bool false, .slice none 0 0, .slice none 0 0] 25)) := (Below.refl _ _).alloc (Nat.le_refl _) _
  have hszw : w.heap.size < (w.alloc (.cells #[.bool false, .slice none 0 0, .slice none 0 0] 25)).heap.size := by simp
  have cc := fun u (hu : Bytes u (.slice a L c) b) => split_one a L c b hL hLs u hu
  by_cases hok : splE b = 0 ∧ splN b = b.length
  · have H := dec_yes hok.1 hok.2
    rw [H.1]
    rw [hok.1, hok.2, hL] at cc
    have HP := Lib.hid H.2
    have C := Lib.hid cc
    have hne : ((L : Int) != (L : Int)) = false := by simp
    clear cc hok H hL
    go_enter Try.func19, Try.ntmps19
    go_wp2_with (first
      | (go_at_call 15; (with_reducible refine (C.out _ (h.alloc _)).mono ?_); rintro e w1 ⟨it, rfl, b1, hF, hbare, he, hbk⟩; have hz1 := hz.kept b1; have hbel1 := Below.then hbel b1; obtain ⟨l, tv, t, kv, ks⟩ := it; obtain ⟨ta, tc, rfl, _, _⟩ := hF.is.inv.1.form; obtain ⟨ka, kc, rfl, _, _⟩ := hF.is.inv.2.1.form; obtain ⟨tn, htn⟩ : ∃ tn, tn = t.length := ⟨_, rfl⟩; obtain ⟨kn, hkn⟩ : ∃ kn, kn = ks.length := ⟨_, rfl⟩; rw [← htn, ← hkn] at hF he hbare hbk; rw [← htn, ← hkn]; clear htn hkn; simp only [icells])
      | ((with_reducible show wpList _ _ _ (⟨none, Op.store _ _ (Operand.tmp 10), _, _, _, _⟩ :: _) _ _); refine wpList_storeA (o := ⟨none, _, _, _, _, _⟩) (by rfl) 25 (.tmp 4) (.tmp 10) (by rfl) w1.heap.size [.bool l, .slice ta tn tc, .slice ka kn kc] (by rfl) (by rfl) aggItem (Blk.new w1 25 [.bool false, .slice none 0 0, .slice none 0 0]) (by rfl) (by rfl) (by intro u hu; simp at hu; rcases hu with rfl | rfl | rfl <;> rfl) (((Below.refl w1.heap.size w1).alloc (Nat.le_refl _) (.cells #[.bool false, .slice none 0 0, .slice none 0 0] 25))) (Nat.le_refl _) ?_; intro w4 h4 b4 _; have hz4 := hz1.kept b4; have hF4 := hF.to b4.size (fun x hx hl => ⟨b4.block x hl, hx⟩); have hbel4 := Below.then hbel1 b4)
      | (refine wpList_loadA (o := ⟨some 22, _, _, _, _, _⟩) (by rfl) 25 (.tmp 4) (by rfl) w1.heap.size (by rfl) aggItem h4 (by rfl) ?_)
      | ((with_reducible show wpList _ _ _ (⟨none, Op.store _ _ (Operand.tmp 22), _, _, _, _⟩ :: _) _ _); refine wpList_storeA (o := ⟨none, _, _, _, _, _⟩) (by rfl) 25 (.tmp 2) (.tmp 22) (by rfl) w.heap.size [.bool l, .slice ta tn tc, .slice ka kn kc] (by rfl) (by rfl) aggItem hz4 (by rfl) (by rfl) (by intro u hu; simp at hu; rcases hu with rfl | rfl | rfl <;> rfl) hbel4 (Nat.le_refl _) ?_; intro w5 h5 hbel5 g5; have hF5 := hF4.to (S' := fun x => w.heap.size ≤ x) g5.size (fun x hx hl => ⟨g5.block x hl (by simp <;> omega), by omega⟩)))
    exact bodyPost_ret (results_blk_tmp rfl _ _ w.heap.size aggItem h5 rfl rfl rfl) rfl ⟨.mk l (.slice ta tn tc) t (.slice ka kn kc) ks, rfl, hbel5, hF5, hbare, he.trans HP.out.symm, hbk⟩
  · have H := dec_no hok
    rw [H.1]
    have HP := Lib.hid H.2
    rcases splE_01 b with h0 | h0
    · have hN : splN b ≠ L := fun e => hok ⟨h0, by rw [hL]; exact e⟩
      rw [h0] at cc
      obtain ⟨N, hNN⟩ : ∃ N, N = splN b := ⟨_, rfl⟩
      rw [← hNN] at cc hN
      have hne : ((N : Int) != (L : Int)) = true := by rw [bne_iff_ne]; omega
      have C := Lib.hid cc
      clear cc hok H hL hNN h0 hN
      go_enter Try.func19, Try.ntmps19
      go_wp2_with (first
        | (go_at_call 15; (with_reducible refine (C.out _ (h.alloc _)).mono ?_); rintro e w1 ⟨it, rfl, b1, hF, hbare, he, hbk⟩; have hz1 := hz.kept b1; have hbel1 := Below.then hbel b1; obtain ⟨l, tv, t, kv, ks⟩ := it; obtain ⟨ta, tc, rfl, _, _⟩ := hF.is.inv.1.form; obtain ⟨ka, kc, rfl, _, _⟩ := hF.is.inv.2.1.form; obtain ⟨tn, htn⟩ : ∃ tn, tn = t.length := ⟨_, rfl⟩; obtain ⟨kn, hkn⟩ : ∃ kn, kn = ks.length := ⟨_, rfl⟩; rw [← htn, ← hkn] at hF he hbare hbk; rw [← htn, ← hkn]; clear htn hkn; simp only [icells])
        | ((with_reducible show wpList _ _ _ (⟨none, Op.store _ _ (Operand.tmp 10), _, _, _, _⟩ :: _) _ _); refine wpList_storeA (o := ⟨none, _, _, _, _, _⟩) (by rfl) 25 (.tmp 4) (.tmp 10) (by rfl) w1.heap.size [.bool l, .slice ta tn tc, .slice ka kn kc] (by rfl) (by rfl) aggItem (Blk.new w1 25 [.bool false, .slice none 0 0, .slice none 0 0]) (by rfl) (by rfl) (by intro u hu; simp at hu; rcases hu with rfl | rfl | rfl <;> rfl) (((Below.refl w1.heap.size w1).alloc (Nat.le_refl _) (.cells #[.bool false, .slice none 0 0, .slice none 0 0] 25))) (Nat.le_refl _) ?_; intro w4 h4 b4 _; have hz4 := hz1.kept b4; have hF4 := hF.to b4.size (fun x hx hl => ⟨b4.block x hl, hx⟩); have hbel4 := Below.then hbel1 b4)
        | ((with_reducible show wpList _ _ _ (⟨none, Op.store _ _ (Operand.tmp 21), _, _, _, _⟩ :: _) _ _); refine wpList_storeA (o := ⟨none, _, _, _, _, _⟩) (by rfl) 25 (.tmp 2) (.tmp 21) (by rfl) w.heap.size [.bool false, .slice none 0 0, .slice none 0 0] (by rfl) (by rfl) aggItem hz4 (by rfl) (by rfl) (by intro u hu; simp at hu; rcases hu with rfl | rfl <;> rfl) hbel4 (Nat.le_refl _) ?_; intro w5 h5 hbel5 g5))
      exact bodyPost_ret (results_blk_tmp rfl _ _ w.heap.size aggItem h5 rfl rfl rfl) rfl ⟨.mk false (.slice none 0 0) [] (.slice none 0 0) [], rfl, hbel5, Fp.nil _ _, .txt _ _ _, by simp [erI_mk, HP.out], by simp [bulkI, bulkL]⟩
    · rw [h0] at cc
      have C := Lib.hid cc
      clear cc hok H hL h0
      go_enter Try.func19, Try.ntmps19
      go_wp2_with (first
        | (go_at_call 15; (with_reducible refine (C.out _ (h.alloc _)).mono ?_); rintro e w1 ⟨it, rfl, b1, hF, hbare, he, hbk⟩; have hz1 := hz.kept b1; have hbel1 := Below.then hbel b1; obtain ⟨l, tv, t, kv, ks⟩ := it; obtain ⟨ta, tc, rfl, _, _⟩ := hF.is.inv.1.form; obtain ⟨ka, kc, rfl, _, _⟩ := hF.is.inv.2.1.form; obtain ⟨tn, htn⟩ : ∃ tn, tn = t.length := ⟨_, rfl⟩; obtain ⟨kn, hkn⟩ : ∃ kn, kn = ks.length := ⟨_, rfl⟩; rw [← htn, ← hkn] at hF he hbare hbk; rw [← htn, ← hkn]; clear htn hkn; simp only [icells])
        | ((with_reducible show wpList _ _ _ (⟨none, Op.store _ _ (Operand.tmp 10), _, _, _, _⟩ :: _) _ _); refine wpList_storeA (o := ⟨none, _, _, _, _, _⟩) (by rfl) 25 (.tmp 4) (.tmp 10) (by rfl) w1.heap.size [.bool l, .slice ta tn tc, .slice ka kn kc] (by rfl) (by rfl) aggItem (Blk.new w1 25 [.bool false, .slice none 0 0, .slice none 0 0]) (by rfl) (by rfl) (by intro u hu; simp at hu; rcases hu with rfl | rfl | rfl <;> rfl) (((Below.refl w1.heap.size w1).alloc (Nat.le_refl _) (.cells #[.bool false, .slice none 0 0, .slice none 0 0] 25))) (Nat.le_refl _) ?_; intro w4 h4 b4 _; have hz4 := hz1.kept b4; have hF4 := hF.to b4.size (fun x hx hl => ⟨b4.block x hl, hx⟩); have hbel4 := Below.then hbel1 b4)
        | ((with_reducible show wpList _ _ _ (⟨none, Op.store _ _ (Operand.tmp 21), _, _, _, _⟩ :: _) _ _); refine wpList_storeA (o := ⟨none, _, _, _, _, _⟩) (by rfl) 25 (.tmp 2) (.tmp 21) (by rfl) w.heap.size [.bool false, .slice none 0 0, .slice none 0 0] (by rfl) (by rfl) aggItem hz4 (by rfl) (by rfl) (by intro u hu; simp at hu; rcases hu with rfl | rfl <;> rfl) hbel4 (Nat.le_refl _) ?_; intro w5 h5 hbel5 g5))
      exact bodyPost_ret (results_blk_tmp rfl _ _ w.heap.size aggItem h5 rfl rfl rfl) rfl ⟨.mk false (.slice none 0 0) [] (.slice none 0 0) [], rfl, hbel5, Fp.nil _ _, .txt _ _ _, by simp [erI_mk, HP.out], by simp [bulkI, bulkL]⟩
set_option maxHeartbeats 1000000 in
set_option maxRecDepth 100000 in
theorem pdecode_any (a : Option Addr) (L c : Nat) (b : List UInt8) (hL : b.length = L) (hLs : L ≤ 1048576) (w : World) (h : Bytes w (.slice a L c) b) :
    Calls Try.prog 20 #[.slice a L c] w fun e w' => ∃ it, e = .returned (.tuple #[.agg (icells it).toArray, .int .i64 (decE b)]) ∧ Below w.heap.size w w' ∧ Fp (fun x => w.heap.size ≤ x) w' it ∧ erI it = decP b := by
  have hz := Blk.new w 25 [.bool false, .slice none 0 0, .slice none 0 0]
  have hbel : Below w.heap.size w (w.alloc (.cells #[.bool false, .slice none 0 0, .slice none 0 0] 25)) := (Below.refl _ _).alloc (Nat.le_refl _) _
  have hszw : w.heap.size < (w.alloc (.cells #[.bool false, .slice none 0 0, .slice none 0 0] 25)).heap.size := by simp
  have cc := fun u (hu : Bytes u (.slice a L c) b) => psplit_one a L c b hL hLs u hu
  by_cases hok : splE b = 0 ∧ splN b = b.length
  · have H := dec_yes hok.1 hok.2
    rw [H.1]
    rw [hok.1, hok.2, hL] at cc
    have HP := Lib.hid H.2
    have C := Lib.hid cc
    have hne : ((L : Int) != (L : Int)) = false := by simp
    clear cc hok H hL
    go_enter Try.func20, Try.ntmps20
    go_wp2_with (first
      | (go_at_call 16; (with_reducible refine (C.out _ (h.alloc _)).mono ?_); rintro e w1 ⟨it, rfl, b1, hF, he⟩; have hz1 := hz.kept b1; have hbel1 := Below.then hbel b1; obtain ⟨l, tv, t, kv, ks⟩ := it; obtain ⟨ta, tc, rfl, _, _⟩ := hF.is.inv.1.form; obtain ⟨ka, kc, rfl, _, _⟩ := hF.is.inv.2.1.form; obtain ⟨tn, htn⟩ : ∃ tn, tn = t.length := ⟨_, rfl⟩; obtain ⟨kn, hkn⟩ : ∃ kn, kn = ks.length := ⟨_, rfl⟩; rw [← htn, ← hkn] at hF he; rw [← htn, ← hkn]; clear htn hkn; simp only [icells])
      | ((with_reducible show wpList _ _ _ (⟨none, Op.store _ _ (Operand.tmp 10), _, _, _, _⟩ :: _) _ _); refine wpList_storeA (o := ⟨none, _, _, _, _, _⟩) (by rfl) 25 (.tmp 4) (.tmp 10) (by rfl) w1.heap.size [.bool l, .slice ta tn tc, .slice ka kn kc] (by rfl) (by rfl) aggItem (Blk.new w1 25 [.bool false, .slice none 0 0, .slice none 0 0]) (by rfl) (by rfl) (by intro u hu; simp at hu; rcases hu with rfl | rfl | rfl <;> rfl) (((Below.refl w1.heap.size w1).alloc (Nat.le_refl _) (.cells #[.bool false, .slice none 0 0, .slice none 0 0] 25))) (Nat.le_refl _) ?_; intro w4 h4 b4 _; have hz4 := hz1.kept b4; have hF4 := hF.to b4.size (fun x hx hl => ⟨b4.block x hl, hx⟩); have hbel4 := Below.then hbel1 b4)
      | (refine wpList_loadA (o := ⟨some 22, _, _, _, _, _⟩) (by rfl) 25 (.tmp 4) (by rfl) w1.heap.size (by rfl) aggItem h4 (by rfl) ?_)
      | ((with_reducible show wpList _ _ _ (⟨none, Op.store _ _ (Operand.tmp 22), _, _, _, _⟩ :: _) _ _); refine wpList_storeA (o := ⟨none, _, _, _, _, _⟩) (by rfl) 25 (.tmp 2) (.tmp 22) (by rfl) w.heap.size [.bool l, .slice ta tn tc, .slice ka kn kc] (by rfl) (by rfl) aggItem hz4 (by rfl) (by rfl) (by intro u hu; simp at hu; rcases hu with rfl | rfl | rfl <;> rfl) hbel4 (Nat.le_refl _) ?_; intro w5 h5 hbel5 g5; have hF5 := hF4.to (S' := fun x => w.heap.size ≤ x) g5.size (fun x hx hl => ⟨g5.block x hl (by simp <;> omega), by omega⟩)))
    exact bodyPost_ret (results_blk_tmp rfl _ _ w.heap.size aggItem h5 rfl rfl rfl) rfl ⟨.mk l (.slice ta tn tc) t (.slice ka kn kc) ks, rfl, hbel5, hF5, he.trans HP.out.symm⟩
  · have H := dec_no hok
    rw [H.1]
    have HP := Lib.hid H.2
    rcases splE_01 b with h0 | h0
    · have hN : splN b ≠ L := fun e => hok ⟨h0, by rw [hL]; exact e⟩
      rw [h0] at cc
      obtain ⟨N, hNN⟩ : ∃ N, N = splN b := ⟨_, rfl⟩
      rw [← hNN] at cc hN
      have hne : ((N : Int) != (L : Int)) = true := by rw [bne_iff_ne]; omega
      have C := Lib.hid cc
      clear cc hok H hL hNN h0 hN
      go_enter Try.func20, Try.ntmps20
      go_wp2_with (first
        | (go_at_call 16; (with_reducible refine (C.out _ (h.alloc _)).mono ?_); rintro e w1 ⟨it, rfl, b1, hF, he⟩; have hz1 := hz.kept b1; have hbel1 := Below.then hbel b1; obtain ⟨l, tv, t, kv, ks⟩ := it; obtain ⟨ta, tc, rfl, _, _⟩ := hF.is.inv.1.form; obtain ⟨ka, kc, rfl, _, _⟩ := hF.is.inv.2.1.form; obtain ⟨tn, htn⟩ : ∃ tn, tn = t.length := ⟨_, rfl⟩; obtain ⟨kn, hkn⟩ : ∃ kn, kn = ks.length := ⟨_, rfl⟩; rw [← htn, ← hkn] at hF he; rw [← htn, ← hkn]; clear htn hkn; simp only [icells])
        | ((with_reducible show wpList _ _ _ (⟨none, Op.store _ _ (Operand.tmp 10), _, _, _, _⟩ :: _) _ _); refine wpList_storeA (o := ⟨none, _, _, _, _, _⟩) (by rfl) 25 (.tmp 4) (.tmp 10) (by rfl) w1.heap.size [.bool l, .slice ta tn tc, .slice ka kn kc] (by rfl) (by rfl) aggItem (Blk.new w1 25 [.bool false, .slice none 0 0, .slice none 0 0]) (by rfl) (by rfl) (by intro u hu; simp at hu; rcases hu with rfl | rfl | rfl <;> rfl) (((Below.refl w1.heap.size w1).alloc (Nat.le_refl _) (.cells #[.bool false, .slice none 0 0, .slice none 0 0] 25))) (Nat.le_refl _) ?_; intro w4 h4 b4 _; have hz4 := hz1.kept b4; have hF4 := hF.to b4.size (fun x hx hl => ⟨b4.block x hl, hx⟩); have hbel4 := Below.then hbel1 b4)
        | ((with_reducible show wpList _ _ _ (⟨none, Op.store _ _ (Operand.tmp 21), _, _, _, _⟩ :: _) _ _); refine wpList_storeA (o := ⟨none, _, _, _, _, _⟩) (by rfl) 25 (.tmp 2) (.tmp 21) (by rfl) w.heap.size [.bool false, .slice none 0 0, .slice none 0 0] (by rfl) (by rfl) aggItem hz4 (by rfl) (by rfl) (by intro u hu; simp at hu; rcases hu with rfl | rfl <;> rfl) hbel4 (Nat.le_refl _) ?_; intro w5 h5 hbel5 g5))
      exact bodyPost_ret (results_blk_tmp rfl _ _ w.heap.size aggItem h5 rfl rfl rfl) rfl ⟨.mk false (.slice none 0 0) [] (.slice none 0 0) [], rfl, hbel5, Fp.nil _ _, by simp [erI_mk, HP.out]⟩
    · rw [h0] at cc
      have C := Lib.hid cc
      clear cc hok H hL h0
      go_enter Try.func20, Try.ntmps20
      go_wp2_with (first
        | (go_at_call 16; (with_reducible refine (C.out _ (h.alloc _)).mono ?_); rintro e w1 ⟨it, rfl, b1, hF, he⟩; have hz1 := hz.kept b1; have hbel1 := Below.then hbel b1; obtain ⟨l, tv, t, kv, ks⟩ := it; obtain ⟨ta, tc, rfl, _, _⟩ := hF.is.inv.1.form; obtain ⟨ka, kc, rfl, _, _⟩ := hF.is.inv.2.1.form; obtain ⟨tn, htn⟩ : ∃ tn, tn = t.length := ⟨_, rfl⟩; obtain ⟨kn, hkn⟩ : ∃ kn, kn = ks.length := ⟨_, rfl⟩; rw [← htn, ← hkn] at hF he; rw [← htn, ← hkn]; clear htn hkn; simp only [icells])
        | ((with_reducible show wpList _ _ _ (⟨none, Op.store _ _ (Operand.tmp 10), _, _, _, _⟩ :: _) _ _); refine wpList_storeA (o := ⟨none, _, _, _, _, _⟩) (by rfl) 25 (.tmp 4) (.tmp 10) (by rfl) w1.heap.size [.bool l, .slice ta tn tc, .slice ka kn kc] (by rfl) (by rfl) aggItem (Blk.new w1 25 [.bool false, .slice none 0 0, .slice none 0 0]) (by rfl) (by rfl) (by intro u hu; simp at hu; rcases hu with rfl | rfl | rfl <;> rfl) (((Below.refl w1.heap.size w1).alloc (Nat.le_refl _) (.cells #[.bool false, .slice none 0 0, .slice none 0 0] 25))) (Nat.le_refl _) ?_; intro w4 h4 b4 _; have hz4 := hz1.kept b4; have hF4 := hF.to b4.size (fun x hx hl => ⟨b4.block x hl, hx⟩); have hbel4 := Below.then hbel1 b4)
        | ((with_reducible show wpList _ _ _ (⟨none, Op.store _ _ (Operand.tmp 21), _, _, _, _⟩ :: _) _ _); refine wpList_storeA (o := ⟨none, _, _, _, _, _⟩) (by rfl) 25 (.tmp 2) (.tmp 21) (by rfl) w.heap.size [.bool false, .slice none 0 0, .slice none 0 0] (by rfl) (by rfl) aggItem hz4 (by rfl) (by rfl) (by intro u hu; simp at hu; rcases hu with rfl | rfl <;> rfl) hbel4 (Nat.le_refl _) ?_; intro w5 h5 hbel5 g5))
      exact bodyPost_ret (results_blk_tmp rfl _ _ w.heap.size aggItem h5 rfl rfl rfl) rfl ⟨.mk false (.slice none 0 0) [] (.slice none 0 0) [], rfl, hbel5, Fp.nil _ _, by simp [erI_mk, HP.out]⟩
end Go.Proofs.Ytohenjgegkgncaa
