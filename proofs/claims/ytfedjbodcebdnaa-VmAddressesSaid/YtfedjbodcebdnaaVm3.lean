/- The reference's QNewAddress. -/
import Derived.Test.YtfedjbodcebdnaaVm2
set_option linter.unusedSimpArgs false
set_option linter.unusedVariables false
namespace Go.Proofs.Ytfedjbodcebdnaa
open Go.RowKit
set_option maxHeartbeats 1000000 in
set_option maxRecDepth 100000 in
theorem qnewAddress_any (F : List UInt8) (hF : F.length = 8) (n : Nat) (hn : n < 18446744073709551616) (w : World) :
    Calls Try.prog 44 #[.agg (F.map u8v).toArray, .int .u64 (n : Int)] w fun e w' => e = .returned (.agg ((scs (naB F (numB n))).take 8).toArray) ∧ Below w.heap.size w w' := by
  have hz1 : Blk 31 ((w.alloc (.cells (F.map u8v).toArray 31)).alloc (.cells z8b.toArray 31)) (w.heap.size + 1) z8b := by
    have := Blk.new (w.alloc (.cells (F.map u8v).toArray 31)) 31 z8b
    simpa using this
  have hb1 := (Blk.new w 31 (F.map u8v)).alloc (.cells z8b.toArray 31)
  have hbel1 : Below w.heap.size w ((w.alloc (.cells (F.map u8v).toArray 31)).alloc (.cells z8b.toArray 31)) := ((Below.refl _ _).alloc (Nat.le_refl _) _).alloc (by simp) _
  have hr1 : Bytes ((w.alloc (.cells (F.map u8v).toArray 31)).alloc (.cells z8b.toArray 31)) (.slice (some ⟨w.heap.size, 0, none⟩) 8 8) F := Blk.row hb1 F 8 8 (fun _ => rfl) hF (fun j u hu => by rw [flat_b8] at hu; exact hu) (Nat.le_refl _) (by unfold maxLen; omega)
  have hNl := numB_8 n hn
  have ci : ∀ x, Calls Try.prog 85 #[.int .u64 (n : Int)] x fun e w' => e = .returned (wv n) ∧ Below x.heap.size x w' := fun x => wint_any n hn x
  have cn := fun x => pnum_any n x
  obtain ⟨N, hN⟩ : ∃ N, N = numB n := ⟨_, rfl⟩
  simp only [← hN] at hNl cn
  have hen : ∀ kv v1 v2, encI (lst kv [txt v1 F, txt v2 N]) = naB F N := fun kv v1 v2 => naB_enc kv v1 v2 F N
  have hE := naB_len F N (by omega) (by omega)
  have hbk : ∀ kv v1 v2, bulkI (lst kv [txt v1 F, txt v2 N]) ≤ 1000 := fun kv v1 v2 => by
    rw [bulk_lst]; unfold bulkL bulkL bulkL
    rw [bulk_txt, bulk_txt]; omega
  have ce : ∀ x g v1 v2, RowOf icells 3 x (.slice (some ⟨g, 0, none⟩) 2 2) [txt v1 F, txt v2 N] → Bytes x v1 F → Bytes x v2 N → Calls Try.prog 19 #[.agg #[.bool true, .slice none 0 0, .slice (some ⟨g, 0, none⟩) 2 2]] x fun e w' => ∃ v, e = .returned v ∧ Bytes w' v (naB F N) ∧ Below x.heap.size x w' := by
    intro x g v1 v2 hr h1 h2
    have := pencode_any 1000 (lst (.slice (some ⟨g, 0, none⟩) 2 2) [txt v1 F, txt v2 N]) x (hbk _ _ _) (by omega) (IsItm.lst hr (by
      intro k hk
      rcases List.mem_cons.1 hk with rfl | hk
      · exact IsItm.txt h1
      · rcases List.mem_cons.1 hk with rfl | hk
        · exact IsItm.txt h2
        · simp at hk))
    refine this.mono ?_
    rintro e w' ⟨v, rfl, o, b⟩
    rw [hen] at o
    exact ⟨v, rfl, o, b⟩
  obtain ⟨E, hEE⟩ : ∃ E, E = naB F N := ⟨_, rfl⟩
  simp only [← hEE] at hE ce
  have cs : ∀ x a n c, E.length = n → Bytes x (.slice a n c) E → Calls Try.prog 83 #[.slice a n c] x fun e w' => ∃ v, e = .returned v ∧ Bytes w' v (sumB E) ∧ Below x.heap.size x w' := fun x a n c hn h => sumKey_any a n c E hn x h (by omega)
  have hl : (sumB E).length = 32 := by unfold sumB; rw [outB_len]
  have hsc : (scs E).take 8 = ((sumB E).take 8).map u8v := by unfold scs; rw [List.map_take]
  obtain ⟨C, hC⟩ : ∃ C, C = sumB E := ⟨_, rfl⟩
  simp only [← hC] at cs hl hsc
  have ht8 : (C.take 8).length = 8 := by rw [List.length_take, hl]; rfl
  have hc8 : ((C.take 8).map u8v).length = 8 := by rw [List.length_map, ht8]
  have h8 : ∀ u ∈ (C.take 8).map u8v, u.oneCell' = true := fun u hu => by obtain ⟨x, _, rfl⟩ := List.mem_map.1 hu; rfl
  have hs2 : ∀ a c x, (Instr.arrayAt 31 (.slice a 8 c)).run Try.prog x = .ok (.pointer a) x := fun a c x => run_arrayAt (P := Try.prog) (t := 31) (e := 5) (n := 8) (by kernel_rfl) _ 8 c (Nat.le_refl _) x
  have Ci := Lib.hid ci
  have Cn := Lib.hid cn
  have Ce := Lib.hid ce
  have Cs := Lib.hid cs
  have H8 := Lib.hid h8
  have Hl := Lib.hid hl
  have Ht8 := Lib.hid ht8
  have HEE := Lib.hid hEE
  have Hsc := Lib.hid hsc
  have HN := Lib.hid hN
  obtain ⟨L, hL⟩ : ∃ L, L = N.length := ⟨_, rfl⟩
  have HL := Lib.hid hL
  clear ci cn ce cs h8 hl ht8 hEE hC hsc hL hN hen hbk hF hE hNl hb1
  go_enter Try.func44, Try.ntmps44
  have tok1 : True := trivial
  go_wp2_with (first
    | (go_at_call 63; have _t := tok1; (with_reducible refine (ptext_any _ _ _ _).mono ?_); rintro e w2 ⟨rfl, b2⟩; have hr2 := hr1.kept b2; have hz2 := hz1.kept b2; have hbel2 := Below.then hbel1 b2; clear tok1 _t)
    | (go_at_call 85; (with_reducible refine (Ci.out _).mono ?_); rintro e w3 ⟨rfl, b3⟩; have hr3 := hr2.kept b3; have hz3 := hz2.kept b3; have hbel3 := Below.then hbel2 b3)
    | (go_at_call 84; (with_reducible refine (Cn.out _).mono ?_); rintro e w4 ⟨v4, rfl, o4, b4⟩; obtain ⟨a4, c4, rfl, _⟩ := o4.form' L HL.out.symm; have hr4 := hr3.kept b4; have hz4 := hz3.kept b4; have hbel4 := Below.then hbel3 b4)
    | (go_at_call 63; (with_reducible refine (ptext_any _ _ _ _).mono ?_); rintro e w5 ⟨rfl, b5⟩; have hr5 := hr4.kept b5; have ho5 := o4.kept b5; have hz5 := hz4.kept b5; have hbel5 := Below.then hbel4 b5)
    | (refine wpList_buildW (o := ⟨some 11, _, _, _, _, _⟩) (by rfl) 35 2 [(0, .tmp 6), (1, .tmp 10)] (by rfl) elItem [txt (.slice (some ⟨w.heap.size, 0, none⟩) 8 8) F, txt (.slice a4 L c4) N] [.agg #[.bool false, .slice (some ⟨w.heap.size, 0, none⟩) 8 8, .slice none 0 0], .agg #[.bool false, .slice a4 L c4, .slice none 0 0]] rfl (by rfl) (by rfl) (by omega) (by omega) ?_; intro w6 _ hk6 b6; have hr6 := hr5.kept b6; have ho6 := ho5.kept b6; have hz6 := hz5.kept b6; have hbel6 := Below.then hbel5 b6)
    | (go_at_call 64; (with_reducible refine (plist_any _ _ _ _).mono ?_); rintro e w7 ⟨rfl, b7⟩; have hr7 := hr6.kept b7; have ho7 := ho6.kept b7; have hk7 := hk6.kept b7; have hz7 := hz6.kept b7; have hbel7 := Below.then hbel6 b7)
    | (go_at_call 19; (with_reducible refine (Ce.out _ _ _ _ hk7 hr7 ho7).mono ?_); rintro e w8 ⟨v8, rfl, o8, b8'⟩; obtain ⟨E0, hE0⟩ : ∃ E0, E0 = E.length := ⟨_, rfl⟩; obtain ⟨a8, c8, rfl, _⟩ := o8.form' E0 hE0.symm; have HE0 := Lib.hid hE0; clear hE0; have hz8 := hz7.kept b8'; have hbel8 := Below.then hbel7 b8')
    | (go_at_call 83; (with_reducible refine (Cs.out _ _ _ _ HE0.out.symm o8).mono ?_); rintro e w9 ⟨v9, rfl, o9, b9⟩; have hz9 := hz8.kept b9; have hbel9 := Below.then hbel8 b9; obtain ⟨a9, c9, rfl, _⟩ := o9.form' 32 Hl.out; obtain ⟨a10, c10, hsl, hr10⟩ := RowOf.to elU8 o9 8 (by omega) 8 rfl; obtain ⟨b10, off10, rfl, _⟩ := Bytes.at hr10 0 (by rw [Ht8.out]; omega); have hr11 := Bytes.whole hr10)
    | (refine wpList_load_mid (op := ⟨some 17, _, _, _, _, _⟩) (by rfl) 31 (.tmp 16) (by rfl) b10 off10 (by rfl) ((C.take 8).map u8v) _ hr11 Try.underlying31 rfl (by rw [hc8]; kernel_rfl) ?_)
    | (refine wpList_storeA (o := ⟨none, _, _, _, _, _⟩) (by rfl) 31 (.tmp 4) (.tmp 17) (by rfl) (w.heap.size + 1) ((C.take 8).map u8v) (by rfl) (by rfl) aggAddr hz9 hc8 (by rfl) H8.out (Below.refl _ _) (Nat.le_refl _) ?_; intro w12 hh12 _ hg12; have hbel12 := hbel9.grown hg12 hbel9.size (fun j hj => by cases hj; omega)))
  exact bodyPost_ret (results_blk rfl _ _ (w.heap.size + 1) aggAddr hh12 hc8 rfl) rfl ⟨by rw [← HN.out, ← HEE.out, Hsc.out], hbel12⟩
end Go.Proofs.Ytfedjbodcebdnaa
