/- A store is built out of its parts; client.Read: bytes that are no store. -/
import Derived.Test.YtffkjjpjfehcnaaCli3
import Derived.Test.YtffkjjpjfehcnaaHdr11
set_option linter.unusedSimpArgs false
set_option linter.unusedVariables false
namespace Go.Proofs.Ytffkjjpjfehcnaa
open Go.RowKit
theorem fold_lay : ∀ (L : List Value) (off j : Nat) (A X C : List Value), A.length = off + j → X.length = L.length → ((L.zipIdx j).foldl (fun (cs : Array Value) (p : Value × Nat) => cs.setIfInBounds (off + p.2) p.1) (A ++ (X ++ C)).toArray) = (A ++ (L ++ C)).toArray
  | [], off, j, A, X, C, hA, hX => by
    obtain rfl : X = [] := List.eq_nil_of_length_eq_zero (by simpa using hX)
    rfl
  | v :: L, off, j, A, X, C, hA, hX => by
    cases X with
    | nil => simp at hX
    | cons x X =>
      rw [List.zipIdx_cons, List.foldl_cons]
      have h1 : ((A ++ (x :: X ++ C)).toArray.setIfInBounds (off + j) v) = ((A ++ [v]) ++ (X ++ C)).toArray := by
        rw [List.setIfInBounds_toArray]
        congr 1
        rw [List.set_append_right _ _ (by omega), hA, Nat.sub_self]
        simp
      rw [h1, fold_lay L off (j + 1) (A ++ [v]) X C (by rw [List.length_append, hA]; simp; omega) (by simpa using hX)]
      congr 1
      simp
theorem fill_lay (place : Nat → Option (Nat × Nat)) (i off : Nat) (v : Value) (L : List Value) (hv : v.cells = L.toArray) (hp : place i = some (off, L.length)) (A X C : List Value) (hA : A.length = off) (hX : X.length = L.length) (rest : List (Nat × Value)) :
    Instr.fill place (A ++ (X ++ C)).toArray ((i, v) :: rest) = Instr.fill place (A ++ (L ++ C)).toArray rest := by
  have h1 : ¬ ((v.cells.size ≠ L.length || off + v.cells.size > (A ++ (X ++ C)).toArray.size) = true) := by
    rw [hv]
    simp only [List.size_toArray, List.length_append, Bool.or_eq_true, decide_eq_true_eq, not_or]
    omega
  have h2 := fold_lay L off 0 A X C (by omega) hX
  rw [Instr.fill, hp]
  dsimp only
  rw [if_neg h1, hv]
  congr 1
  rw [← h2, ← Array.foldl_toList, Array.toList_zipIdx]
theorem zcSt : Try.zeroCells38 = (hdcs zH ++ [Value.slice none 0 0, Value.slice none 0 0]).toArray := by kernel_rfl
theorem built_st {H : Hd} (k : H.Ok) (sa : Option Addr) (sn sc : Nat) (na : Option Addr) (nn nc : Nat) : Try.prog.built 38 [(0, .agg (hdcs H).toArray), (1, .slice sa sn sc), (2, .slice na nn nc)] = some (hdcs H ++ [Value.slice sa sn sc, Value.slice na nn nc]).toArray := by
  have e : ∀ parts, Try.prog.built 38 parts = Instr.fill (#[((0 : Nat), (204 : Nat)), (204, 1), (205, 1)][·]?) Try.zeroCells38 parts := fun _ => by kernel_rfl
  rw [e, zcSt]
  have hl := hdcs_len k
  have f1 := fill_lay (#[((0 : Nat), (204 : Nat)), (204, 1), (205, 1)][·]?) 0 0 (.agg (hdcs H).toArray) (hdcs H) rfl (by rw [hl]; rfl) [] (hdcs zH) [.slice none 0 0, .slice none 0 0] rfl (by rw [hl, hdcs_len zH_ok]) [(1, .slice sa sn sc), (2, .slice na nn nc)]
  rw [List.nil_append, List.nil_append] at f1
  rw [f1]
  have f2 := fill_lay (#[((0 : Nat), (204 : Nat)), (204, 1), (205, 1)][·]?) 1 204 (.slice sa sn sc) [.slice sa sn sc] rfl rfl (hdcs H) [.slice none 0 0] [.slice none 0 0] hl rfl [(2, .slice na nn nc)]
  have f3 := fill_lay (#[((0 : Nat), (204 : Nat)), (204, 1), (205, 1)][·]?) 2 205 (.slice na nn nc) [.slice na nn nc] rfl rfl (hdcs H ++ [Value.slice sa sn sc]) [.slice none 0 0] [] (by rw [List.length_append, hl]; rfl) rfl []
  simp only [List.append_assoc, List.cons_append, List.nil_append, List.append_nil] at f2 f3 ⊢
  rw [f2, f3]
  rfl
/-- 'build' in a typed region -/
theorem good_build {P : Program} {T : Ty} {o : Oper} {a : Act} {w : World} (t : TypeId) (ps : List (Nat × Operand)) (ho : o.op = .build t ps.toArray) (L : List (Nat × Value)) (hL : (ps.map fun x => (x.1, a.eval x.2)) = L) (cells : Array Value) (hb : P.built t L = some cells) (hT : T (.agg cells) w) :
    goodUpon P T w ((execOp a.eval o).run P w) := by
  unfold execOp
  have hb2 : P.built t (ps.toArray.map fun (i, x) => (i, a.eval x)).toList = some cells := by
    rw [← hb, ← hL]
    congr 1
    simp
  simp only [ho, Sem.run_bind, run_build w t _ cells hb2, Result.andThen_ok, Sem.run_pure]
  exact ⟨Below.refl _ _, hT⟩
/-- what reading answers -/
def ReadS (b : List UInt8) (w : World) (e : Ending) (w' : World) : Prop := ∃ T E vs vn, e = .returned (.tuple #[.agg (hdcs T.hd ++ [vs, vn]).toArray, .int .i64 E]) ∧ T.Ok ∧ RdC b T E ∧ RowOf u64c 1 w' vs T.s ∧ RowOf u64c 1 w' vn T.n ∧ Below w.heap.size w w'
theorem stc_one (h : Hd) (sa : Option Addr) (sn sc : Nat) (na : Option Addr) (nn nc : Nat) : ∀ u ∈ hdcs h ++ [Value.slice sa sn sc, Value.slice na nn nc], u.oneCell' = true := by
  intro u hu
  rcases List.mem_append.1 hu with hu | hu
  · exact hdcs_one h u hu
  · simp only [List.mem_cons, List.not_mem_nil, or_false] at hu
    rcases hu with rfl | rfl <;> rfl
def zst : List Value := hdcs zH ++ [Value.slice none 0 0, Value.slice none 0 0]
theorem zst_len : zst.length = 206 := stc_len zH_ok _ _
theorem zst_one : ∀ u ∈ zst, u.oneCell' = true := stc_one zH none 0 0 none 0 0
theorem ReadS.zero {b : List UInt8} {w u : World} (h : RdC b zSto 1) (hu : Below w.heap.size w u) : ReadS b w (.returned (.tuple #[.agg zst.toArray, .int .i64 1])) u :=
  ⟨zSto, 1, .slice none 0 0, .slice none 0 0, rfl, zSto_ok, h, RowOf.nil u64c 1 u, RowOf.nil u64c 1 u, hu⟩
set_option maxHeartbeats 2000000 in
set_option maxRecDepth 100000 in
theorem readS_bad1 (a : Option Addr) (L c : Nat) (b : List UInt8) (hL : b.length = L) (hLs : L ≤ 1048576) (hbad : decE b ≠ 0) (w : World) (h : Bytes w (.slice a L c) b) : Calls Try.prog 20 #[.slice a L c] w (ReadS b w) := by
  have hE := decE_01 b hbad
  have hpost : ∀ u, Below w.heap.size w u → ReadS b w (.returned (.tuple #[.agg zst.toArray, .int .i64 1])) u := fun u hu => ReadS.zero (rdC_form (.inl hbad)) hu
  have hz : Blk 38 (w.alloc (.cells Try.zeroCells38 38)) w.heap.size zst := by rw [zcSt]; exact Blk.new w _ _
  have hbel : Below w.heap.size w (w.alloc (.cells Try.zeroCells38 38)) := (Below.refl _ _).alloc (Nat.le_refl _) _
  have hlt0 := hz.lt
  have cc := fun u (hu : Bytes u (.slice a L c) b) => decode_any a L c b hL hLs u hu
  rw [hE] at cc
  have C := Lib.hid cc
  have Hpost := Lib.hid hpost
  have hl204 := zst_len
  clear cc hE hbad hL hLs hpost
  go_enter Try.func20, Try.ntmps20
  go_wp2_with (first
    | (go_at_call 74; (with_reducible refine (C.out _ (h.alloc _)).mono ?_); rintro e w1 ⟨it, rfl, b1, hF, hbare, he, _⟩; have hz1 := hz.kept b1; have hbel1 := Below.then hbel b1; have hs1 := Nat.lt_of_lt_of_le hlt0 b1.size; obtain ⟨l, tv, t, kv, ks⟩ := it; obtain ⟨ta, tc, rfl, _, _⟩ := hF.is.inv.1.form; obtain ⟨ka, kc, rfl, _, _⟩ := hF.is.inv.2.1.form; clear hF hbare he; simp only [icells])
    | ((with_reducible show wpList _ _ _ (⟨none, Op.store _ _ (Operand.tmp 11), _, _, _, _⟩ :: _) _ _); refine wpList_storeA (o := ⟨none, _, _, _, _, _⟩) (by rfl) 128 (.tmp 4) (.tmp 11) (by rfl) w1.heap.size [.bool l, .slice ta t.length tc, .slice ka ks.length kc] (by rfl) (by rfl) aggItem (Blk.new w1 128 [.bool false, .slice none 0 0, .slice none 0 0]) (by rfl) (by rfl) (by intro u hu; simp at hu; rcases hu with rfl | rfl | rfl <;> rfl) (((Below.refl w1.heap.size w1).alloc (Nat.le_refl _) (.cells #[.bool false, .slice none 0 0, .slice none 0 0] 128))) (Nat.le_refl _) ?_; intro w4 h4 b4 _; have hz4 := hz1.kept b4; have hbel4 := Below.then hbel1 b4)
    | ((with_reducible show wpList _ _ _ (⟨none, Op.store _ _ (Operand.tmp 21), _, _, _, _⟩ :: _) _ _); refine wpList_storeA (o := ⟨none, _, _, _, _, _⟩) (by rfl) 38 (.tmp 2) (.tmp 21) (by rfl) w.heap.size zst (by rfl) (by first | rfl | exact congrArg Value.agg zcSt) aggSt hz4 hl204 hl204 zst_one hbel4 (Nat.le_refl _) ?_; intro w5 hh5 hbel5 _))
  exact bodyPost_ret (v := .tuple #[.agg zst.toArray, .int .i64 1]) (results_blk_tmp rfl _ _ w.heap.size aggSt hh5 hl204 rfl rfl) rfl (Hpost.out _ hbel5)
set_option maxHeartbeats 2000000 in
set_option maxRecDepth 100000 in
theorem readS_bad2 (a : Option Addr) (L c : Nat) (b : List UInt8) (hL : b.length = L) (hLs : L ≤ 1048576) (hE : decE b = 0) (hbad : kidsN (decP b) ≠ 3) (w : World) (h : Bytes w (.slice a L c) b) : Calls Try.prog 20 #[.slice a L c] w (ReadS b w) := by
  have hpost : ∀ u, Below w.heap.size w u → ReadS b w (.returned (.tuple #[.agg zst.toArray, .int .i64 1])) u := fun u hu => ReadS.zero (rdC_form (.inr hbad)) hu
  have hz : Blk 38 (w.alloc (.cells Try.zeroCells38 38)) w.heap.size zst := by rw [zcSt]; exact Blk.new w _ _
  have hbel : Below w.heap.size w (w.alloc (.cells Try.zeroCells38 38)) := (Below.refl _ _).alloc (Nat.le_refl _) _
  have hlt0 := hz.lt
  have cc := fun u (hu : Bytes u (.slice a L c) b) => decode_any a L c b hL hLs u hu
  rw [hE] at cc
  have C := Lib.hid cc
  have Hpost := Lib.hid hpost
  have Hbad := Lib.hid hbad
  have hl204 := zst_len
  clear cc hE hbad hL hLs hpost
  go_enter Try.func20, Try.ntmps20
  go_wp2_with (first
    | (go_at_call 74; (with_reducible refine (C.out _ (h.alloc _)).mono ?_); rintro e w1 ⟨it, rfl, b1, hF, hbare, he, _⟩; have hz1 := hz.kept b1; have hbel1 := Below.then hbel b1; have hs1 := Nat.lt_of_lt_of_le hlt0 b1.size; obtain ⟨l, tv, t, kv, ks⟩ := it; have hkk := (kids_of hbare he).1; obtain ⟨ta, tc, rfl, _, _⟩ := hF.is.inv.1.form; obtain ⟨ka, kc, rfl, _, _⟩ := hF.is.inv.2.1.form; obtain ⟨kn, hkn⟩ : ∃ kn, kn = ks.length := ⟨_, rfl⟩; change ks.length = _ at hkk; rw [← hkn] at hkk; have hne : ((kn : Int) != 3) = true := (by rw [bne_iff_ne]; intro e; exact Hbad.out (by omega)); rw [← hkn]; clear hF hbare he hkk hkn; simp only [icells])
    | ((with_reducible show wpList _ _ _ (⟨none, Op.store _ _ (Operand.tmp 11), _, _, _, _⟩ :: _) _ _); refine wpList_storeA (o := ⟨none, _, _, _, _, _⟩) (by rfl) 128 (.tmp 4) (.tmp 11) (by rfl) w1.heap.size [.bool l, .slice ta t.length tc, .slice ka kn kc] (by rfl) (by rfl) aggItem (Blk.new w1 128 [.bool false, .slice none 0 0, .slice none 0 0]) (by rfl) (by rfl) (by intro u hu; simp at hu; rcases hu with rfl | rfl | rfl <;> rfl) (((Below.refl w1.heap.size w1).alloc (Nat.le_refl _) (.cells #[.bool false, .slice none 0 0, .slice none 0 0] 128))) (Nat.le_refl _) ?_; intro w4 h4 b4 _; have hz4 := hz1.kept b4; have hbel4 := Below.then hbel1 b4; have c42 : w4.cell? ⟨w1.heap.size, 2, none⟩ = some (.slice ka kn kc) := h4.cell 2)
    | ((with_reducible show wpList _ _ _ (⟨none, Op.store _ _ (Operand.tmp 21), _, _, _, _⟩ :: _) _ _); refine wpList_storeA (o := ⟨none, _, _, _, _, _⟩) (by rfl) 38 (.tmp 2) (.tmp 21) (by rfl) w.heap.size zst (by rfl) (by first | rfl | exact congrArg Value.agg zcSt) aggSt hz4 hl204 hl204 zst_one hbel4 (Nat.le_refl _) ?_; intro w5 hh5 hbel5 _))
  exact bodyPost_ret (v := .tuple #[.agg zst.toArray, .int .i64 1]) (results_blk_tmp rfl _ _ w.heap.size aggSt hh5 hl204 rfl rfl) rfl (Hpost.out _ hbel5)
end Go.Proofs.Ytffkjjpjfehcnaa
