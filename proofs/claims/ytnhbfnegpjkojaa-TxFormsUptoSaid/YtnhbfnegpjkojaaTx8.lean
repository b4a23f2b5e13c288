/- The reference's SameTx of like ones; tx.Sum. -/
import Derived.Test.YtnhbfnegpjkojaaTx5
import Derived.Test.YtnhbfnegpjkojaaTx4
import Derived.Test.YtnhbfnegpjkojaaHashQ
import Derived.Test.YtnhbfnegpjkojaaSumA
set_option linter.unusedSimpArgs false
set_option linter.unusedVariables false
namespace Go.Proofs.Ytnhbfnegpjkojaa
open Go.RowKit
/-- '==' behind a guard that holds, too -/
theorem wpList_eqlX {P : Program} {w : World} {ops : Array Oper} {rest : List Oper} {o : Oper} {a : Act} {Q : Exit → Act → World → Prop} (ty : TypeId) (x y : Operand) (t : TypeId) (ho : o.op = .binOp .eql ty x y t) {v v' u : Value} (hx : a.eval x = v) (hy : a.eval y = v')
    (hg : ∀ o1 o2 w1, (eqGuard .eql ty o1 o2 v v').run P w1 = .ok () w1) (hq : ∀ w1, (binOp .eql ty v v').run P w1 = .ok u w1) (hw : Region.wanted o (yielded ops a.tmps) = true) (h : wpList P ops Q rest (a.put o.dst u) w) : wpList P ops Q (o :: rest) a w := by
  refine wpList_step fun K hK => ?_
  rw [if_pos hw]
  unfold Oper.wp execOp
  simp only [ho, hx, hy, Sem.run_bind, hg, hq, Result.andThen_ok, Sem.run_pure]
  exact hK _ _ h
theorem aggAd : Agg Try.prog 54 8 := ⟨_, Try.underlying54, rfl, by kernel_rfl⟩
theorem guardAd (L : List UInt8) (o1 o2 : Operand) (w1 : World) : (eqGuard .eql 54 o1 o2 (.agg (by8 L).toArray) (.agg (by8 L).toArray)).run Try.prog w1 = .ok () w1 :=
  run_eqGuard_agg (P := Try.prog) (w := w1) .eql 54 o1 o2 _ _ (by kernel_rfl)
theorem eqAd (L : List UInt8) (hL : L.length = 8) (w1 : World) : (binOp .eql 54 (.agg (by8 L).toArray) (.agg (by8 L).toArray)).run Try.prog w1 = .ok (.bool true) w1 := by
  have h := run_eqA (P := Try.prog) (w := w1) (t := 54) (e := 5) (n := 8) (k := .u8) Try.underlying54 Try.underlying5 (by kernel_rfl) (L.map fun b => (b.toNat : Int)) (L.map fun b => (b.toNat : Int)) (by simpa using hL) (by simpa using hL)
  rw [beq_self_eq_true, List.map_map] at h
  exact h
theorem guardWd (V : Nat) (o1 o2 : Operand) (w1 : World) : (eqGuard .eql 48 o1 o2 (.agg (wcs V).toArray) (.agg (wcs V).toArray)).run Try.prog w1 = .ok () w1 :=
  run_eqGuard_agg (P := Try.prog) (w := w1) .eql 48 o1 o2 _ _ (by kernel_rfl)
theorem limI_len (V : Nat) : (limI V).length = 4 := by have := wcs_len V; unfold wcs at this; simpa using this
theorem eqWd (V : Nat) (w1 : World) : (binOp .eql 48 (.agg (wcs V).toArray) (.agg (wcs V).toArray)).run Try.prog w1 = .ok (.bool true) w1 := by
  have h := run_eqA (P := Try.prog) (w := w1) (t := 48) (e := 44) (n := 4) (k := .u64) Try.underlying48 Try.underlying44 (by kernel_rfl) (limI V) (limI V) (limI_len V) (limI_len V)
  rw [beq_self_eq_true] at h
  exact h
set_option maxHeartbeats 2000000 in
set_option maxRecDepth 100000 in
theorem sametx_any (X : Txd) (k : X.Ok) (a1 a2 : Option Addr) (n c1 c2 : Nat) (w : World) (h1 : Bytes w (.slice a1 n c1) X.dat) (h2 : Bytes w (.slice a2 n c2) X.dat) : Calls Try.prog 40 #[.agg (txcs X (.slice a1 n c1)).toArray, .agg (txcs X (.slice a2 n c2)).toArray] w (TruePost w) := by
  obtain ⟨C1, hC1⟩ : ∃ C, C = txcs X (.slice a1 n c1) := ⟨_, rfl⟩
  obtain ⟨C2, hC2⟩ : ∃ C, C = txcs X (.slice a2 n c2) := ⟨_, rfl⟩
  rw [← hC1, ← hC2]
  have z1 : Blk 77 ((w.alloc (.cells C1.toArray 77)).alloc (.cells C2.toArray 77)) w.heap.size C1 := (Blk.new w _ _).alloc _
  have z2 : Blk 77 ((w.alloc (.cells C1.toArray 77)).alloc (.cells C2.toArray 77)) (w.heap.size + 1) C2 := by
    have := Blk.new (w.alloc (.cells C1.toArray 77)) 77 C2
    simpa using this
  have hbel1 : Below w.heap.size w ((w.alloc (.cells C1.toArray 77)).alloc (.cells C2.toArray 77)) := ((Below.refl _ _).alloc (Nat.le_refl _) _).alloc (by simp) _
  have f1 := z1.range 0 8
  have f2 := z2.range 0 8
  have t1 := z1.range 8 8
  have t2 := z2.range 8 8
  have v1 := z1.range 20 4
  have v2 := z2.range 20 4
  rw [hC1, txcs_frm k, ← hC1] at f1
  rw [hC2, txcs_frm k, ← hC2] at f2
  rw [hC1, txcs_to k, ← hC1] at t1
  rw [hC2, txcs_to k, ← hC2] at t2
  rw [hC1, txcs_val k, ← hC1] at v1
  rw [hC2, txcs_val k, ← hC2] at v2
  have c16 := (z1.cell 16).trans ((congrArg (fun l : List Value => l[16]?) hC1).trans (txcs_mk k _))
  have d16 := (z2.cell 16).trans ((congrArg (fun l : List Value => l[16]?) hC2).trans (txcs_mk k _))
  have c17 := (z1.cell 17).trans ((congrArg (fun l : List Value => l[17]?) hC1).trans (txcs_non k _))
  have d17 := (z2.cell 17).trans ((congrArg (fun l : List Value => l[17]?) hC2).trans (txcs_non k _))
  have c18 := (z1.cell 18).trans ((congrArg (fun l : List Value => l[18]?) hC1).trans (txcs_gas k _))
  have d18 := (z2.cell 18).trans ((congrArg (fun l : List Value => l[18]?) hC2).trans (txcs_gas k _))
  have c19 := (z1.cell 19).trans ((congrArg (fun l : List Value => l[19]?) hC1).trans (txcs_pri k _))
  have d19 := (z2.cell 19).trans ((congrArg (fun l : List Value => l[19]?) hC2).trans (txcs_pri k _))
  have c24 := (z1.cell 24).trans ((congrArg (fun l : List Value => l[24]?) hC1).trans (txcs_dat k _))
  have d24 := (z2.cell 24).trans ((congrArg (fun l : List Value => l[24]?) hC2).trans (txcs_dat k _))
  have s1 := run_str (P := Try.prog) (src := 22) (dst := 9) elU8.ht (by kernel_rfl) (by kernel_rfl) (h1.kept hbel1)
  have s2 := run_str (P := Try.prog) (src := 22) (dst := 9) elU8.ht (by kernel_rfl) (by kernel_rfl) (h2.kept hbel1)
  have gF := fun o1 o2 w1 => guardAd X.frm o1 o2 w1
  have eF := fun w1 => eqAd X.frm k.frm w1
  have gT := fun o1 o2 w1 => guardAd X.to o1 o2 w1
  have eT := fun w1 => eqAd X.to k.to w1
  have gV := fun o1 o2 w1 => guardWd X.val o1 o2 w1
  have eV := fun w1 => eqWd X.val w1
  have lF : (by8 X.frm).length = 8 := by rw [by8_len, k.frm]
  have lT : (by8 X.to).length = 8 := by rw [by8_len, k.to]
  have lV := wcs_len X.val
  obtain ⟨frm, to, mkb, non, gas, pri, val, dat⟩ := X
  dsimp only at *
  unfold u64v at c17 d17 c18 d18 c19 d19
  have hb : (mkb == mkb) = true := beq_self_eq_true _
  have hn1 : ((non : Int) == (non : Int)) = true := beq_self_eq_true _
  have hn2 : ((gas : Int) == (gas : Int)) = true := beq_self_eq_true _
  have hn3 : ((pri : Int) == (pri : Int)) = true := beq_self_eq_true _
  have hd : (dat == dat) = true := beq_self_eq_true _
  clear hC1 hC2 k h1 h2 z1 z2
  generalize by8 frm = F at *
  generalize by8 to = T at *
  generalize wcs val = V at *
  have GF := Lib.hid gF
  have EF := Lib.hid eF
  have GT := Lib.hid gT
  have ET := Lib.hid eT
  have GV := Lib.hid gV
  have EV := Lib.hid eV
  have F1 := Lib.hid f1
  have F2 := Lib.hid f2
  have T1 := Lib.hid t1
  have T2 := Lib.hid t2
  have V1 := Lib.hid v1
  have V2 := Lib.hid v2
  clear gF eF gT eT gV eV f1 f2 t1 t2 v1 v2
  go_enter Try.func40, Try.ntmps40
  go_wp2_with (first
    | (refine wpList_loadW (o := ⟨some 6, _, _, _, _, _⟩) 54 (.tmp 5) (by rfl) w.heap.size 0 (by rfl) aggAd lF F1.out (by rfl) ?_)
    | (refine wpList_loadW (o := ⟨some 8, _, _, _, _, _⟩) 54 (.tmp 7) (by rfl) (w.heap.size + 1) 0 (by rfl) aggAd lF F2.out (by rfl) ?_)
    | (refine wpList_eqlX (o := ⟨some 9, _, _, _, _, _⟩) 54 (.tmp 6) (.tmp 8) _ (by rfl) (by rfl) (by rfl) GF.out EF.out (by rfl) ?_)
    | (refine wpList_loadW (o := ⟨some 12, _, _, _, _, _⟩) 54 (.tmp 11) (by rfl) w.heap.size 8 (by rfl) aggAd lT T1.out (by rfl) ?_)
    | (refine wpList_loadW (o := ⟨some 14, _, _, _, _, _⟩) 54 (.tmp 13) (by rfl) (w.heap.size + 1) 8 (by rfl) aggAd lT T2.out (by rfl) ?_)
    | (refine wpList_eqlX (o := ⟨some 15, _, _, _, _, _⟩) 54 (.tmp 12) (.tmp 14) _ (by rfl) (by rfl) (by rfl) GT.out ET.out (by rfl) ?_)
    | (refine wpList_loadW (o := ⟨some 47, _, _, _, _, _⟩) 48 (.tmp 46) (by rfl) w.heap.size 20 (by rfl) aggWord lV V1.out (by rfl) ?_)
    | (refine wpList_loadW (o := ⟨some 49, _, _, _, _, _⟩) 48 (.tmp 48) (by rfl) (w.heap.size + 1) 20 (by rfl) aggWord lV V2.out (by rfl) ?_)
    | (refine wpList_eqlX (o := ⟨some 50, _, _, _, _, _⟩) 48 (.tmp 47) (.tmp 49) _ (by rfl) (by rfl) (by rfl) GV.out EV.out (by rfl) ?_))
  go_ret
  exact ⟨rfl, hbel1⟩
end Go.Proofs.Ytnhbfnegpjkojaa
