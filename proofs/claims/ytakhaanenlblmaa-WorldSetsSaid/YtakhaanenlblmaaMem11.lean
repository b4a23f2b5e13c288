/- The reference's memory: a map of bytes; reading it. -/
import Derived.Test.YtakhaanenlblmaaMem7
import Derived.Maps.OwnOps
import Derived.Maps.OwnSet
import Derived.Maps.RangeWalk
import Derived.Maps.Ext
set_option linter.unusedSimpArgs false
set_option linter.unusedVariables false
namespace Go.Proofs.Ytakhaanenlblmaa
open Go.RowKit
abbrev DU := DataW Unit
theorem lawU64 : Maps.Keyed Try.prog 36 := Maps.int_keyed Try.underlying36
theorem zeroU8 (w : World) : (zeroValue 5).run Try.prog w = .ok (.int .u8 0) w := by kernel_rfl
theorem wfU64 (k : Nat) (h : k < 18446744073709551616) : (Lit.int .u64 (k : Int)).wf = true := by
  simp only [Lit.wf, show IntKind.u64.min = 0 from rfl, show IntKind.u64.max = 18446744073709551615 from rfl, Bool.and_eq_true, decide_eq_true_eq]
  omega
theorem wfU8 (x : UInt8) : (Lit.int .u8 (x.toNat : Int)).wf = true := by
  have := x.toNat_lt
  simp only [Lit.wf, show IntKind.u8.min = 0 from rfl, show IntKind.u8.max = 255 from rfl, Bool.and_eq_true, decide_eq_true_eq]
  omega
theorem keyU64 (k : Nat) (h : k < 18446744073709551616) : keyOf Try.prog 36 (.int .u64 (k : Int)) = some (.int .u64 (k : Int)) := Maps.keyOf_int_mk Try.underlying36 (wfU64 k h)
/-- the datum says of each place what the list has there -/
def Says (D : DU) (M : List UInt8) : Prop := ∀ k : Nat, k < 18446744073709551616 → D.atKey (.int .u64 (k : Int)) (.lit (.int .u8 0)) = .lit (.int .u8 ((M.getD k 0).toNat : Int))
def KM (w : World) (b n : Nat) (M : List UInt8) : Prop := ∃ D : DU, w.ownsMap Try.prog 36 (plainElem (H := Unit) Try.prog 5) b n D ∧ Says D M
theorem KM.kept {w w' : World} {b n : Nat} {M : List UInt8} (h : KM w b n M) (hb : Below w.heap.size w w') : KM w' b n M := by
  obtain ⟨D, h1, h2⟩ := h
  exact ⟨D, h1.kept (row := none) ⟨hb.os, hb.tape, hb.output, hb.size, fun i hi _ => hb.block i hi⟩ (by simp), h2⟩
theorem KM.grown {w w' : World} {b n : Nat} {M : List UInt8} {row : Option Nat} (h : KM w b n M) (hg : w.grownBy w' row) (hne : some b ≠ row) : KM w' b n M := by
  obtain ⟨D, h1, h2⟩ := h
  exact ⟨D, h1.kept hg hne, h2⟩
theorem KM.lt {w : World} {b n : Nat} {M : List UInt8} (h : KM w b n M) : b < w.heap.size := by
  obtain ⟨D, h1, _⟩ := h
  exact h1.lt
theorem KM.mono {w : World} {b n n' : Nat} {M : List UInt8} (h : KM w b n M) (hn : n ≤ n') : KM w b n' M := by
  obtain ⟨D, h1, h2⟩ := h
  exact ⟨D, h1.mono hn, h2⟩
theorem says_nil : Says (.map []) [] := fun k _ => rfl
theorem KM.made (w : World) : KM (w.alloc (.map #[] 0)) w.heap.size 0 [] := ⟨_, World.ownsMap_made w _ _ _, says_nil⟩
theorem getD_grow (M : List UInt8) (s k : Nat) : (growM M s).getD k 0 = M.getD k 0 := by
  unfold growM
  rw [List.getD_eq_getElem?_getD, List.getD_eq_getElem?_getD, List.getElem?_append]
  split
  · rfl
  · rename_i h
    rw [List.getElem?_replicate, List.getElem?_eq_none (l := M) (by omega)]
    split <;> rfl
theorem Says.grow {D : DU} {M : List UInt8} (h : Says D M) (s : Nat) : Says D (growM M s) := fun k hk => by rw [getD_grow]; exact h k hk
theorem KM.grow {w : World} {b n : Nat} {M : List UInt8} (h : KM w b n M) (s : Nat) : KM w b n (growM M s) := by
  obtain ⟨D, h1, h2⟩ := h
  exact ⟨D, h1, h2.grow s⟩
theorem lit_ne {j k : Nat} (h : j ≠ k) : Lit.int .u64 (j : Int) ≠ Lit.int .u64 (k : Int) := by
  intro e
  simp only [Lit.int.injEq, true_and] at e
  omega
theorem Says.put {D : DU} {M : List UInt8} (h : Says D M) (hm : Maps.IsMap D) {k : Nat} (hk : k < M.length) (x : UInt8) : Says (D.put (.int .u64 (k : Int)) (.lit (.int .u8 (x.toNat : Int)))) (M.set k x) := by
  intro j hj
  by_cases hjk : j = k
  · subst hjk
    rw [Maps.atKey_put_same hm (by simp [WideAt.IsKeyLit])]
    congr 2
    rw [List.getD_eq_getElem?_getD, List.getElem?_set_self hk]; rfl
  · rw [Maps.atKey_put_other (lit_ne hjk), h j hj]
    congr 3
    rw [List.getD_eq_getElem?_getD, List.getD_eq_getElem?_getD, List.getElem?_set_ne (fun e => hjk e.symm)]
/-- so many bytes from a place on -/
def rdM (M : List UInt8) (a n : Nat) : List UInt8 := (List.range n).map fun i => M.getD (a + i) 0
theorem rdM_len (M : List UInt8) (a n : Nat) : (rdM M a n).length = n := by simp [rdM]
theorem rdM_snoc (M : List UInt8) (a n : Nat) : rdM M a (n + 1) = rdM M a n ++ [M.getD (a + n) 0] := by
  unfold rdM
  rw [List.range_succ, List.map_append]; rfl
theorem rdM_part (M : List UInt8) (a n : Nat) (h : a + n ≤ M.length) : rdM M a n = (M.drop a).take n := by
  refine List.ext_getElem? fun j => ?_
  unfold rdM
  rw [List.getElem?_map, List.getElem?_take, List.getElem?_drop]
  by_cases hj : j < n
  · rw [if_pos hj, List.getElem?_range hj]
    show some (M.getD (a + j) 0) = _
    rw [List.getD_eq_getElem?_getD, List.getElem?_eq_getElem (by omega)]; rfl
  · rw [if_neg hj, List.getElem?_eq_none (by simp; omega)]; rfl
theorem rdM_all (M : List UInt8) : rdM M 0 M.length = M := by rw [rdM_part M 0 M.length (by omega)]; simp
/-- where a memory's map lies, and how large it is -/
def KAt (w : World) (g b n sz : Nat) (M : List UInt8) : Prop := Blk 122 w g [.map (some b), .int .u64 (sz : Int)] ∧ KM w b n M
theorem KAt.kept {w w' : World} {g b n sz : Nat} {M : List UInt8} (h : KAt w g b n sz M) (hb : Below w.heap.size w w') : KAt w' g b n sz M := ⟨h.1.kept hb, h.2.kept hb⟩
set_option maxHeartbeats 1000000 in
set_option maxRecDepth 100000 in
theorem kread_any (g b nn sz A N : Nat) (M : List UInt8) (hA : A + N ≤ 18446744073709551616) (hN : N ≤ 1000000) (w : World) (h : KAt w g b nn sz M) :
    Calls Try.prog 58 #[.pointer (some ⟨g, 0, none⟩), .int .u64 (A : Int), .int .u64 (N : Int)] w fun e w' => ∃ v, e = .returned v ∧ OwnOf b8 1 5 w' w.heap.size v (rdM M A N) ∧ Below w.heap.size w w' := by
  have H := Lib.hid h
  clear h
  go_enter Try.func58, Try.ntmps58
  go_wp2_with fail
  go_loopw [7, 10] (fun v ix wr => ∃ k : Nat, k ≤ N ∧ ix = .int .u64 (k : Int) ∧ OwnOf b8 1 5 wr w.heap.size v (rdM M A k) ∧ Below w.heap.size w wr) (fun _ ix _ => N - (intOf ix).toNat)
  case atStart => exact ⟨0, by omega, rfl, OwnOf.nil _ _ _ _ _, Below.refl _ _⟩
  case round =>
    obtain ⟨k, hk, rfl, ho, hbel⟩ := hrel
    by_cases hlt : k < N
    · have hz : (k : Int) < (N : Int) := by omega
      have hkl := rdM_len M A k
      obtain ⟨va, vc, rfl, _⟩ := ho.form' k hkl
      have hsum : IntKind.u64.wrap ((A : Int) + (k : Int)) = ((A + k : Nat) : Int) := by rw [IntWalk.u64_in _ ⟨by omega, by omega⟩]; omega
      obtain ⟨AK, hAK⟩ : ∃ x, x = A + k := ⟨_, rfl⟩
      rw [← hAK] at hsum
      have hkey := keyU64 AK (by omega)
      have hst := rdM_snoc M A k
      rw [← hAK] at hst
      obtain ⟨⟨hz1, D, hD, hS⟩⟩ : Nonempty (KAt wr g b nn sz M) := ⟨H.out.kept hbel⟩
      have hat := hS AK (by omega)
      have c0 : wr.cell? ⟨g, 0, none⟩ = some (.map (some b)) := hz1.cell 0
      obtain ⟨xb, hxb⟩ : ∃ x, x = M.getD AK 0 := ⟨_, rfl⟩
      rw [← hxb] at hat hst
      have Hst := Lib.hid hst
      have Hat := Lib.hid hat
      have hl2 : (rdM M A k).length + 1 ≤ 1000000 := by omega
      clear hst hat hxb hAK hz1 hS
      go_wp2_with (first
        | (at_lookup; refine wpList_lookup_own_int _ rfl _ _ 120 rfl 36 5 .u8 lawU64 Try.underlying120 Try.underlying5 (zeroU8 _) b nn D rfl hD _ _ rfl hkey ?_; intro c hat2 hwc; obtain rfl : c = (xb.toNat : Int) := (by have h9 := hat2.symm.trans Hat.out; simpa using h9))
        | ((with_reducible show wpList _ _ _ (⟨some 22, _, _, _, _, _⟩ :: _) _ _); refine wpList_build1 (o := ⟨some 22, _, _, _, _, _⟩) (by rfl) (.tmp 21) 22 (by rfl) elU8 (.int .u8 (xb.toNat : Int)) [.int .u8 (xb.toNat : Int)] (by rfl) (by rfl) rfl (by omega) ?_; have r2 := RowOf.one b8 1 wr xb #[.int .u8 (xb.toNat : Int)] 5 rfl rfl; have o2 := ho.alloc (.cells #[.int .u8 (xb.toNat : Int)] 5); have b2 := hbel.alloc hbel.size (.cells #[.int .u8 (xb.toNat : Int)] 5))
        | ((with_reducible show wpList _ _ _ (⟨some 23, _, _, _, _, _⟩ :: _) _ _); refine wpList_appA (o := ⟨some 23, _, _, _, _, _⟩) (by rfl) (.tmp 13) (.tmp 22) 22 (by rfl) elU8 (by rfl) o2 (by rfl) r2 b2.size (by simp only [List.length_cons, List.length_nil]; omega) (by simp only [List.length_cons, List.length_nil]; unfold maxLen; omega) ?_; intro v3 w3 o3 g3 _))
      go_roundw
      case rel => exact ⟨k + 1, by omega, by go_num, by rw [Hst.out]; exact o3, b2.grown g3 b2.size (fun j hj => o2.lt j hj)⟩
      case measure => simp [intOf]; omega
    · obtain rfl : k = N := by omega
      have hz : ¬ (k : Int) < (k : Int) := by omega
      obtain ⟨va, vc, rfl, _⟩ := ho.form' k (rdM_len M A k)
      go_wp2_with fail
      go_ret
      exact ⟨_, rfl, ho, hbel⟩
end Go.Proofs.Ytakhaanenlblmaa
