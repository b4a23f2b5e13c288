/- A transaction by its fields, what it is written as, what reading answers: plain Lean. -/
import Derived.Test.YtakhaanenlblmaaRdg
import Derived.Test.YtakhaanenlblmaaOff
set_option linter.unusedSimpArgs false
set_option linter.unusedVariables false
namespace Go.Proofs.Ytakhaanenlblmaa
open Go.RowKit
/-- a transaction -/
structure Txd where
  frm : List UInt8
  to : List UInt8
  mkb : Bool
  non : Nat
  gas : Nat
  pri : Nat
  val : Nat
  dat : List UInt8
structure Txd.Ok (t : Txd) : Prop where
  frm : t.frm.length = 8
  to : t.to.length = 8
  non : t.non < 18446744073709551616
  gas : t.gas < 18446744073709551616
  pri : t.pri < 18446744073709551616
  val : t.val < W256
  dat : t.dat.length ≤ 1048576
/-- its cells, the data's slice given -/
def txcs (t : Txd) (dv : Value) : List Value := by8 t.frm ++ (by8 t.to ++ ([.bool t.mkb] ++ ([u64v t.non] ++ ([u64v t.gas] ++ ([u64v t.pri] ++ (wcs t.val ++ [dv]))))))
theorem txcs_len {t : Txd} (k : t.Ok) (dv : Value) : (txcs t dv).length = 25 := by
  unfold txcs; simp only [List.length_append, by8_len, k.frm, k.to, wcs_len, List.length_cons, List.length_nil]
theorem wcs_one' (N : Nat) : ∀ u ∈ wcs N, u.oneCell' = true := wcs_one N
theorem txcs_one (t : Txd) (a : Option Addr) (n c : Nat) : ∀ u ∈ txcs t (.slice a n c), u.oneCell' = true := by
  intro u hu
  unfold txcs at hu
  simp only [List.mem_append, List.mem_singleton] at hu
  rcases hu with hu | hu | hu | hu | hu | hu | hu | hu
  · obtain ⟨x, _, rfl⟩ := List.mem_map.1 hu; rfl
  · obtain ⟨x, _, rfl⟩ := List.mem_map.1 hu; rfl
  · subst hu; rfl
  · subst hu; rfl
  · subst hu; rfl
  · subst hu; rfl
  · exact wcs_one _ u hu
  · subst hu; rfl
section
variable {t : Txd} (k : t.Ok) (dv : Value)
include k
theorem txcs_frm : ((txcs t dv).drop 0).take 8 = by8 t.frm := mid_drop [] _ _ 0 8 rfl (by rw [by8_len, k.frm])
theorem txcs_to : ((txcs t dv).drop 8).take 8 = by8 t.to := by
  unfold txcs
  exact mid_drop _ _ _ 8 8 (by rw [by8_len, k.frm]) (by rw [by8_len, k.to])
theorem txcs_l16 : (by8 t.frm ++ by8 t.to).length = 16 := by simp only [List.length_append, by8_len, k.frm, k.to]
theorem txcs_mk : (txcs t dv)[16]? = some (.bool t.mkb) := by
  unfold txcs
  rw [← List.append_assoc, List.getElem?_append_right (by rw [txcs_l16 k]; omega), txcs_l16 k]; rfl
theorem txcs_non : (txcs t dv)[17]? = some (u64v t.non) := by
  unfold txcs
  rw [← List.append_assoc, List.getElem?_append_right (by rw [txcs_l16 k]; omega), txcs_l16 k]; rfl
theorem txcs_gas : (txcs t dv)[18]? = some (u64v t.gas) := by
  unfold txcs
  rw [← List.append_assoc, List.getElem?_append_right (by rw [txcs_l16 k]; omega), txcs_l16 k]; rfl
theorem txcs_pri : (txcs t dv)[19]? = some (u64v t.pri) := by
  unfold txcs
  rw [← List.append_assoc, List.getElem?_append_right (by rw [txcs_l16 k]; omega), txcs_l16 k]; rfl
theorem txcs_val : ((txcs t dv).drop 20).take 4 = wcs t.val := by
  unfold txcs
  have : (by8 t.frm ++ (by8 t.to ++ ([Value.bool t.mkb] ++ ([u64v t.non] ++ ([u64v t.gas] ++ ([u64v t.pri] ++ (wcs t.val ++ [dv]))))))) = (by8 t.frm ++ (by8 t.to ++ ([Value.bool t.mkb] ++ ([u64v t.non] ++ ([u64v t.gas] ++ [u64v t.pri]))))) ++ (wcs t.val ++ [dv]) := by simp only [List.append_assoc]
  rw [this]
  exact mid_drop _ _ _ 20 4 (by simp only [List.length_append, by8_len, k.frm, k.to, List.length_cons, List.length_nil]) (wcs_len _)
theorem txcs_dat : (txcs t dv)[24]? = some dv := by
  unfold txcs
  have : (by8 t.frm ++ (by8 t.to ++ ([Value.bool t.mkb] ++ ([u64v t.non] ++ ([u64v t.gas] ++ ([u64v t.pri] ++ (wcs t.val ++ [dv]))))))) = (by8 t.frm ++ (by8 t.to ++ ([Value.bool t.mkb] ++ ([u64v t.non] ++ ([u64v t.gas] ++ ([u64v t.pri] ++ wcs t.val)))))) ++ [dv] := by simp only [List.append_assoc]
  have hl : (by8 t.frm ++ (by8 t.to ++ ([Value.bool t.mkb] ++ ([u64v t.non] ++ ([u64v t.gas] ++ ([u64v t.pri] ++ wcs t.val)))))).length = 24 := by simp only [List.length_append, by8_len, k.frm, k.to, wcs_len, List.length_cons, List.length_nil]
  rw [this, List.getElem?_append_right (by rw [hl]; omega), hl]; rfl
end
/-- its texts; what it is written as -/
def mkN (b : Bool) : Nat := if b = true then 1 else 0
theorem mkN_lt (b : Bool) : mkN b < 18446744073709551616 := by cases b <;> decide
def xTs (t : Txd) : List (List UInt8) := [t.frm, t.to, numB (mkN t.mkb), numB t.non, numB t.gas, numB t.pri, numB t.val, t.dat]
def wX (t : Txd) : List UInt8 := lsB (xTs t)
theorem numB_32 (N : Nat) : (numB N).length ≤ 32 := by
  unfold numB
  exact Nat.le_trans (bare_len _) (by have := wb_len N; omega)
theorem numB_inj' {x y : Nat} (hx : x < W256) (hy : y < W256) (h : numB x = numB y) : x = y := by
  rw [← numB_num x hx, ← numB_num y hy, h]
theorem wX_len {t : Txd} (k : t.Ok) : (wX t).length ≤ 1049000 := by
  have hf : ((xTs t).flatMap textB).length ≤ 7 * 41 + (1048576 + 9) := by
    unfold xTs
    simp only [List.flatMap_cons, List.flatMap_nil, List.length_append, List.length_nil]
    have h0 := textB_short (t := t.frm) (by rw [k.frm]; omega)
    have h1 := textB_short (t := t.to) (by rw [k.to]; omega)
    have h2 := textB_short (numB_32 (mkN t.mkb))
    have h3 := textB_short (numB_32 t.non)
    have h4 := textB_short (numB_32 t.gas)
    have h5 := textB_short (numB_32 t.pri)
    have h6 := textB_short (numB_32 t.val)
    have h7 := textB_len t.dat
    have := k.dat
    omega
  unfold wX lsB
  rw [List.length_append]
  have h3 : (headB 192 ((xTs t).flatMap textB).length).length ≤ 9 := by
    unfold headB
    split
    · simp
    · have := numB_8 ((xTs t).flatMap textB).length (by omega)
      rw [List.length_cons]; omega
  omega
theorem mkN_inj {a b : Bool} (h : mkN a = mkN b) : a = b := by cases a <;> cases b <;> simp_all [mkN]
theorem wX_inj {h g : Txd} (k : h.Ok) (j : g.Ok) (e : wX h = wX g) : h = g := by
  have hl := wX_len k
  unfold wX at e hl
  rw [lsB_enc] at hl
  rw [lsB_enc, lsB_enc] at e
  have := encP_inj (by omega) e
  injection this with e2
  have e3 := txt_inj e2
  unfold xTs at e3
  simp only [List.cons.injEq, and_true] at e3
  obtain ⟨a1, a2, a3, a4, a5, a6, a7, a8⟩ := e3
  cases h; cases g
  simp only [Txd.mk.injEq]
  exact ⟨a1, a2, mkN_inj (numB_inj (mkN_lt _) (mkN_lt _) a3), numB_inj k.non j.non a4, numB_inj k.gas j.gas a5, numB_inj k.pri j.pri a6, numB_inj' k.val j.val a7, a8⟩
theorem wX_dec {g : Txd} (k : g.Ok) : dec (wX g) = some (.lst ((xTs g).map .txt)) := by
  have hl := wX_len k
  unfold wX at hl ⊢
  rw [lsB_enc] at hl ⊢
  exact dec_read (by omega)
/-- the zero transaction -/
def zX : Txd := ⟨zeroB 8, zeroB 8, false, 0, 0, 0, 0, []⟩
theorem zX_ok : zX.Ok := ⟨rfl, rfl, by decide, by decide, by decide, by unfold W256; decide, by decide⟩
/-- what reading a transaction's bytes answers -/
def RdX (b : List UInt8) (h : Txd) (e : Int) : Prop := (e = 0 ∧ wX h = b) ∨ (e = 1 ∧ h = zX ∧ ∀ g : Txd, g.Ok → wX g ≠ b)
theorem RdX.one {b : List UInt8} {h g : Txd} {e f : Int} (k : h.Ok) (j : g.Ok) (x : RdX b h e) (y : RdX b g f) : h = g ∧ e = f := by
  rcases x with ⟨rfl, x⟩ | ⟨rfl, rfl, x⟩ <;> rcases y with ⟨rfl, y⟩ | ⟨rfl, rfl, y⟩
  · exact ⟨wX_inj k j (x.trans y.symm), rfl⟩
  · exact absurd x (y h k)
  · exact absurd y (x g j)
  · exact ⟨rfl, rfl⟩
theorem kids_eight {g : Txd} : kidsN (.lst ((xTs g).map .txt)) = 8 := rfl
theorem rdx_form {b : List UInt8} (h : decE b ≠ 0 ∨ kidsN (decP b) ≠ 8 ∨ ((kidT (decP b))[0]?.getD []).length ≠ 8 ∨ ((kidT (decP b))[1]?.getD []).length ≠ 8) : RdX b zX 1 := by
  refine .inr ⟨rfl, rfl, fun g k e => ?_⟩
  have hd := wX_dec k
  rw [e] at hd
  have hp : decP b = .lst ((xTs g).map .txt) := by unfold decP; rw [hd]; rfl
  rcases h with h | h | h | h
  · exact h (by unfold decE; rw [hd]; rfl)
  · exact h (by rw [hp]; rfl)
  · exact h (by rw [hp, kidT_txts]; exact k.frm)
  · exact h (by rw [hp, kidT_txts]; exact k.to)
/-- a reader that gives back what was written, tells it by writing again -/
theorem rdx_not {rd : List (List UInt8) → Txd} (hf : ∀ g : Txd, g.Ok → rd (xTs g) = g) {b : List UInt8} (h : wX (rd (kidT (decP b))) ≠ b) : RdX b zX 1 := by
  refine .inr ⟨rfl, rfl, fun g k e => ?_⟩
  have hd := wX_dec k
  rw [e] at hd
  have hp : decP b = .lst ((xTs g).map .txt) := by unfold decP; rw [hd]; rfl
  rw [hp, kidT_txts, hf g k] at h
  exact h e
theorem rdx_yes {b : List UInt8} {h : Txd} (e : wX h = b) : RdX b h 0 := .inl ⟨rfl, e⟩
/-- how the program reads the texts; how the reference does -/
def rdP (ts : List (List UInt8)) : Txd :=
  let g := fun i => ts[i]?.getD []
  ⟨g 0, g 1, decide (nfP (g 2) = 1), nfP (g 3), nfP (g 4), nfP (g 5), numV (g 6), g 7⟩
def rdR (ts : List (List UInt8)) : Txd :=
  let g := fun i => ts[i]?.getD []
  ⟨cpy 8 (g 0), cpy 8 (g 1), decide (0 < (g 2).length), nfR (g 3), nfR (g 4), nfR (g 5), numL (last32 (g 6)), g 7⟩
theorem numV_lt (t : List UInt8) : numV t < W256 := by
  unfold numV
  split
  · rename_i h
    unfold okNum at h
    simp only [Bool.and_eq_true, decide_eq_true_eq] at h
    exact numL_small _ h.1
  · unfold W256; omega
theorem numV_num {x : Nat} (hx : x < W256) : numV (numB x) = x := by
  have hok : okNum (numB x) = true := by
    unfold okNum
    have := bare_head (wb x)
    simp only [Bool.and_eq_true, decide_eq_true_eq, Bool.not_eq_true', beq_eq_false_iff_ne]
    exact ⟨numB_32 x, this⟩
  unfold numV
  rw [if_pos hok, numB_num x hx]
theorem mk_dec (b : Bool) : decide (nfP (numB (mkN b)) = 1) = b := by
  rw [nfP_num _ (mkN_lt b)]
  cases b <;> rfl
theorem rdP_self {g : Txd} (k : g.Ok) : rdP (xTs g) = g := by
  cases g
  simp only [rdP, xTs, List.getElem?_cons_zero, List.getElem?_cons_succ, Option.getD_some, Txd.mk.injEq, true_and, and_true]
  exact ⟨mk_dec _, nfP_num _ k.non, nfP_num _ k.gas, nfP_num _ k.pri, numV_num k.val⟩
theorem numB_mk (b : Bool) : decide (0 < (numB (mkN b)).length) = b := by cases b <;> decide
theorem rdR_self {g : Txd} (k : g.Ok) : rdR (xTs g) = g := by
  cases g
  simp only [rdR, xTs, List.getElem?_cons_zero, List.getElem?_cons_succ, Option.getD_some, Txd.mk.injEq, and_true]
  refine ⟨cpy_full k.frm, cpy_full k.to, numB_mk _, nfR_num _ k.non, nfR_num _ k.gas, nfR_num _ k.pri, ?_⟩
  rw [last_small _ (numB_32 _), numB_num _ k.val]
theorem kid_dat (ts : List (List UInt8)) (i : Nat) (h : ∀ t ∈ ts, t.length ≤ 1048576) : (ts[i]?.getD []).length ≤ 1048576 := by
  cases hi : ts[i]? with
  | none => simp
  | some t => exact h t (List.mem_of_getElem? hi)
theorem rdP_ok {ts : List (List UInt8)} (h0 : (ts[0]?.getD []).length = 8) (h1 : (ts[1]?.getD []).length = 8) (h : ∀ t ∈ ts, t.length ≤ 1048576) : (rdP ts).Ok :=
  ⟨h0, h1, nfP_lt _, nfP_lt _, nfP_lt _, numV_lt _, kid_dat ts 7 h⟩
theorem rdR_ok {ts : List (List UInt8)} (h : ∀ t ∈ ts, t.length ≤ 1048576) : (rdR ts).Ok :=
  ⟨cpy_len _ _, cpy_len _ _, nfR_lt _, nfR_lt _, nfR_lt _, numL_small _ (by unfold last32; simp; omega), kid_dat ts 7 h⟩
end Go.Proofs.Ytakhaanenlblmaa
