/- vm.NewAddress. -/
import Derived.Test.YtfedjbodcebdnaaVm1
set_option linter.unusedSimpArgs false
set_option linter.unusedVariables false
namespace Go.Proofs.Ytfedjbodcebdnaa
open Go.RowKit
/-- '[]T{x, y, ..}', the new world under a name of its own. -/
theorem wpList_buildW {α : Type} {f : α → List Value} {P : Program} {w : World} {ops : Array Oper} {rest : List Oper} {o : Oper} {a : Act} {Q : Exit → Act → World → Prop} (hgd : o.guard = none) (t : TypeId) (n : Nat) (ps : List (Nat × Operand))
    (ho : o.op = .buildSlice t n ps.toArray) {e : TypeId} {z : Value} {size bytes : Nat} (el : El0 P t e z size bytes f) (l : List α) (vs : List Value) (hl : l.length = n) (hv : (ps.map fun x => (x.1, a.eval x.2)) = (vs.zipIdx 0).map fun x => (x.2, x.1))
    (hc : vs.map (fun v => v.cells.toList) = l.map f) (hn : 0 < n) (hs : n * size ≤ 16777216)
    (h : ∀ w', Blk e w' w.heap.size (l.flatMap f) → RowOf f size w' (.slice (some ⟨w.heap.size, 0, none⟩) n n) l → Below w.heap.size w w' → wpList P ops Q rest (a.put o.dst (.slice (some ⟨w.heap.size, 0, none⟩) n n)) w') : wpList P ops Q (o :: rest) a w := by
  have hp := el.hsz
  have hm : n ≤ maxLen := by
    have : n * 1 ≤ n * size := Nat.mul_le_mul_left _ hp
    unfold maxLen; omega
  exact wpList_buildN hgd t n ps.toArray ho el l vs hl (by rw [← hv]; simp) hc hn hs (h _ (Blk.new w e _) (Row.built el.hf w e l n hl hm) ((Below.refl _ _).alloc (Nat.le_refl _) _))
def naB (F N : List UInt8) : List UInt8 := headB 192 (textB F ++ textB N).length ++ (textB F ++ textB N)
theorem naB_enc (kv v1 v2 : Value) (F N : List UInt8) : encI (lst kv [txt v1 F, txt v2 N]) = naB F N := by
  rw [encI_lst]
  unfold naB encL encL encL
  rw [encI_txt, encI_txt, List.append_nil]
theorem naB_len (F N : List UInt8) (h1 : F.length ≤ 64) (h2 : N.length ≤ 64) : (naB F N).length ≤ 1000 := by
  unfold naB
  have a1 := len_text F (by omega)
  have a2 := len_text N (by omega)
  have a3 := headB_len 192 (textB F ++ textB N).length (by simp; omega)
  simp at a3 ⊢; omega
set_option maxHeartbeats 1000000 in
set_option maxRecDepth 100000 in
theorem newAddress_any (F : List UInt8) (hF : F.length = 8) (n : Nat) (hn : n < 18446744073709551616) (w : World) :
    Calls Try.prog 43 #[.agg (F.map u8v).toArray, .int .u64 (n : Int)] w fun e w' => e = .returned (.agg ((scs (naB F (numB n))).take 8).toArray) ∧ Below w.heap.size w w' := by
  have hz1 : Blk 31 ((w.alloc (.cells (F.map u8v).toArray 31)).alloc (.cells z8b.toArray 31)) (w.heap.size + 1) z8b := by
    have := Blk.new (w.alloc (.cells (F.map u8v).toArray 31)) 31 z8b
    simpa using this
  have hb1 := (Blk.new w 31 (F.map u8v)).alloc (.cells z8b.toArray 31)
  have hbel1 : Below w.heap.size w ((w.alloc (.cells (F.map u8v).toArray 31)).alloc (.cells z8b.toArray 31)) := ((Below.refl _ _).alloc (Nat.le_refl _) _).alloc (by simp) _
  have hr1 : Bytes ((w.alloc (.cells (F.map u8v).toArray 31)).alloc (.cells z8b.toArray 31)) (.slice (some ⟨w.heap.size, 0, none⟩) 8 8) F := Blk.row hb1 F 8 8 (fun _ => rfl) hF (fun j u hu => by rw [flat_b8] at hu; exact hu) (Nat.le_refl _) (by unfold maxLen; omega)
  have hNl := numB_8 n hn
  have ci : ∀ x, Calls Try.prog 82 #[.int .u64 (n : Int)] x fun e w' => e = .returned (wv n) ∧ Below x.heap.size x w' := fun x => int_any n hn x
  have cn := fun x => num_any n x
  obtain ⟨N, hN⟩ : ∃ N, N = numB n := ⟨_, rfl⟩
  simp only [← hN] at hNl cn
  have hen : ∀ kv v1 v2, encI (lst kv [txt v1 F, txt v2 N]) = naB F N := fun kv v1 v2 => naB_enc kv v1 v2 F N
  have hE := naB_len F N (by omega) (by omega)
  have hbk : ∀ kv v1 v2, bulkI (lst kv [txt v1 F, txt v2 N]) ≤ 1000 := fun kv v1 v2 => by
    rw [bulk_lst]; unfold bulkL bulkL bulkL
    rw [bulk_txt, bulk_txt]; omega
  have ce : ∀ x g v1 v2, RowOf icells 3 x (.slice (some ⟨g, 0, none⟩) 2 2) [txt v1 F, txt v2 N] → Bytes x v1 F → Bytes x v2 N → Calls Try.prog 18 #[.agg #[.bool true, .slice none 0 0, .slice (some ⟨g, 0, none⟩) 2 2]] x fun e w' => ∃ v, e = .returned v ∧ Bytes w' v (naB F N) ∧ Below x.heap.size x w' := by
    intro x g v1 v2 hr h1 h2
    have := encode_any 1000 (lst (.slice (some ⟨g, 0, none⟩) 2 2) [txt v1 F, txt v2 N]) x (hbk _ _ _) (by omega) (IsItm.lst hr (by
      intro k hk
      rcases List.mem_cons.1 hk with rfl | hk
      · exact IsItm.txt h1
      · rcases List.mem_cons.1 hk with rfl | hk
        · exact IsItm.txt h2
        · simp at hk))
    refine this.mono ?_
    rintro e w' ⟨v, rfl, o, b⟩
    rw [hen] at o
    exact ⟨v, rfl, o.row, b⟩
  obtain ⟨E, hEE⟩ : ∃ E, E = naB F N := ⟨_, rfl⟩
  simp only [← hEE] at hE ce
  have cs : ∀ x a n c, E.length = n → Bytes x (.slice a n c) E → Calls Try.prog 78 #[.slice a n c] x fun e w' => e = .returned (.agg (scs E).toArray) ∧ Below x.heap.size x w' := fun x a n c hn h => sum_any a n c E hn x h
  have hl := scs_len E
  have h1 := scs_one E
  obtain ⟨C, hC⟩ : ∃ C, C = scs E := ⟨_, rfl⟩
  simp only [← hC] at cs hl h1
  have ht8 : (C.take 8).length = 8 := by rw [List.length_take, hl]; rfl
  have h8 : ∀ u ∈ C.take 8, u.oneCell' = true := fun u hu => h1 u (List.mem_of_mem_take hu)
  have hs2 : ∀ g c x, (Instr.arrayAt 31 (.slice (some ⟨g, 0, none⟩) 8 c)).run Try.prog x = .ok (.pointer (some ⟨g, 0, none⟩)) x := fun g c x => run_arrayAt (P := Try.prog) (t := 31) (e := 5) (n := 8) (by kernel_rfl) _ 8 c (Nat.le_refl _) x
  have Ci := Lib.hid ci
  have Cn := Lib.hid cn
  have Ce := Lib.hid ce
  have Cs := Lib.hid cs
  have H1 := Lib.hid h1
  have H8 := Lib.hid h8
  have Hl := Lib.hid hl
  have Ht8 := Lib.hid ht8
  have HEE := Lib.hid hEE
  have HC := Lib.hid hC
  have HN := Lib.hid hN
  obtain ⟨L, hL⟩ : ∃ L, L = N.length := ⟨_, rfl⟩
  have HL := Lib.hid hL
  clear ci cn ce cs h1 h8 hl ht8 hEE hC hL hN hen hbk hF hE hNl hb1
  go_enter Try.func43, Try.ntmps43
  have tok1 : True := trivial
  go_wp2_with (first
    | (go_at_call 80; have _t := tok1; (with_reducible refine (text_any _ _ _ _).mono ?_); rintro e w2 ⟨rfl, b2⟩; have hr2 := hr1.kept b2; have hz2 := hz1.kept b2; have hbel2 := Below.then hbel1 b2; clear tok1 _t)
    | (go_at_call 82; (with_reducible refine (Ci.out _).mono ?_); rintro e w3 ⟨rfl, b3⟩; have hr3 := hr2.kept b3; have hz3 := hz2.kept b3; have hbel3 := Below.then hbel2 b3)
    | (go_at_call 81; (with_reducible refine (Cn.out _).mono ?_); rintro e w4 ⟨v4, rfl, o4, b4⟩; obtain ⟨a4, c4, rfl, _⟩ := o4.form' L HL.out.symm; have hr4 := hr3.kept b4; have hz4 := hz3.kept b4; have hbel4 := Below.then hbel3 b4)
    | (go_at_call 80; (with_reducible refine (text_any _ _ _ _).mono ?_); rintro e w5 ⟨rfl, b5⟩; have hr5 := hr4.kept b5; have ho5 := o4.row.kept b5; have hz5 := hz4.kept b5; have hbel5 := Below.then hbel4 b5)
    | (refine wpList_buildW (o := ⟨some 12, _, _, _, _, _⟩) (by rfl) 35 2 [(0, .tmp 7), (1, .tmp 11)] (by rfl) elItem [txt (.slice (some ⟨w.heap.size, 0, none⟩) 8 8) F, txt (.slice a4 L c4) N] [.agg #[.bool false, .slice (some ⟨w.heap.size, 0, none⟩) 8 8, .slice none 0 0], .agg #[.bool false, .slice a4 L c4, .slice none 0 0]] rfl (by rfl) (by rfl) (by omega) (by omega) ?_; intro w6 _ hk6 b6; have hr6 := hr5.kept b6; have ho6 := ho5.kept b6; have hz6 := hz5.kept b6; have hbel6 := Below.then hbel5 b6)
    | (go_at_call 79; (with_reducible refine (list_any _ _ _ _).mono ?_); rintro e w7 ⟨rfl, b7⟩; have hr7 := hr6.kept b7; have ho7 := ho6.kept b7; have hk7 := hk6.kept b7; have hz7 := hz6.kept b7; have hbel7 := Below.then hbel6 b7)
    | (go_at_call 18; (with_reducible refine (Ce.out _ _ _ _ hk7 hr7 ho7).mono ?_); rintro e w8 ⟨v8, rfl, o8, b8'⟩; obtain ⟨E0, hE0⟩ : ∃ E0, E0 = E.length := ⟨_, rfl⟩; obtain ⟨a8, c8, rfl, _⟩ := o8.form' E0 hE0.symm; have HE0 := Lib.hid hE0; clear hE0; have hz8 := hz7.kept b8'; have hbel8 := Below.then hbel7 b8')
    | (go_at_call 78; (with_reducible refine (Cs.out _ _ _ _ HE0.out.symm o8).mono ?_); rintro e w9 ⟨rfl, b9⟩; have hz9 := hz8.kept b9; have hbel9 := Below.then hbel8 b9; have hn9 := Blk.new w9 28 zh; have hz10 := hz9.alloc (.cells zh.toArray 28); have hbel10 := hbel9.alloc hbel9.size (.cells zh.toArray 28))
    | (refine wpList_storeA (o := ⟨none, _, _, _, _, _⟩) (by rfl) 28 (.tmp 5) (.tmp 15) (by rfl) w9.heap.size C (by rfl) (by rfl) aggHash' hn9 Hl.out (by rfl) H1.out (Below.refl _ _) (Nat.le_refl _) ?_; intro w11 hh11 _ hg11; have hz11 := hz10.grown hg11 (by have := hz9.lt; simp; omega); have hbel11 := hbel10.grown hg11 hbel10.size (fun j hj => by cases hj; exact hbel9.size); have hr11 := hh11.range 0 8)
    | (refine wpList_load_mid (op := ⟨some 18, _, _, _, _, _⟩) (by rfl) 31 (.tmp 17) (by rfl) w9.heap.size 0 (by rfl) (C.take 8) _ hr11 Try.underlying31 rfl (by rw [Ht8.out]; kernel_rfl) ?_)
    | (refine wpList_storeA (o := ⟨none, _, _, _, _, _⟩) (by rfl) 31 (.tmp 4) (.tmp 18) (by rfl) (w.heap.size + 1) (C.take 8) (by rfl) (by rfl) aggAddr hz11 Ht8.out (by rfl) H8.out (Below.refl _ _) (Nat.le_refl _) ?_; intro w12 hh12 _ hg12; have hbel12 := hbel11.grown hg12 hbel11.size (fun j hj => by cases hj; omega)))
  exact bodyPost_ret (results_blk rfl _ _ (w.heap.size + 1) aggAddr hh12 Ht8.out rfl) rfl ⟨by rw [HC.out, HEE.out, HN.out], hbel12⟩
end Go.Proofs.Ytfedjbodcebdnaa
