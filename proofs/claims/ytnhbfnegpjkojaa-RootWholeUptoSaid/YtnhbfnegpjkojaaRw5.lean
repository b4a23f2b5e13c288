/- The reference's treeCodes: roads and forks (not finished). -/
import Derived.Test.YtnhbfnegpjkojaaRw4
set_option linter.unusedSimpArgs false
set_option linter.unusedVariables false
namespace Go.Proofs.Ytnhbfnegpjkojaa
open Go.RowKit
theorem smN_le : ∀ (ks : List Nd), ∀ l ∈ smN ks, l.length ≤ 1048576
  | [], l, h => by rw [smN] at h; simp at h
  | k :: ks, l, h => by
    rw [smN] at h
    rcases List.mem_cons.1 h with rfl | h
    · split
      · simp
      · rw [show (sumB (cdN k)).length = 32 from by unfold sumB; rw [outB_len]]; omega
    · exact smN_le ks l h
mutual
theorem alN_len : ∀ (t : Nd), (alN t).length ≤ bulkN t
  | .mk kd pv p vv v kv ks => by
    rw [alN, bulkN, List.length_cons]
    have := alL_len ks
    split
    · simp; omega
    · omega
theorem alL_len : ∀ (ks : List Nd), (alL ks).length ≤ bulkNL ks
  | [] => by rw [alL, bulkNL]; simp
  | k :: ks => by
    rw [alL, bulkNL, List.length_append]
    have h1 := alN_len k
    have h2 := alL_len ks
    split
    · simp; omega
    · omega
end
theorem bulkNL_app : ∀ (a b : List Nd), bulkNL (a ++ b) = bulkNL a + bulkNL b
  | [], b => by rw [List.nil_append, bulkNL]; omega
  | x :: a, b => by rw [List.cons_append, bulkNL, bulkNL, bulkNL_app a b]; omega
theorem bulkNL_pre (ks : List Nd) (k : Nat) : bulkNL (ks.take k) ≤ bulkNL ks := by
  have := bulkNL_app (ks.take k) (ks.drop k)
  rw [List.take_append_drop] at this; omega
theorem cons_of {ps : List (Value × List UInt8)} {c : List UInt8} {l : List (List UInt8)} (h : ps.map (·.2) = c :: l) : ∃ v ps', ps = (v, c) :: ps' ∧ ps'.map (·.2) = l := by
  cases ps with
  | nil => simp at h
  | cons q ps =>
    simp only [List.map_cons, List.cons.injEq] at h
    exact ⟨q.1, ps, by rw [← h.1], h.2⟩
def OneX (v : Value) (t : List UInt8) : Ty := fun u w => ∃ g, u = .slice (some ⟨g, 0, none⟩) 1 1 ∧ RowOf tcell 1 w u [(v, t)]
theorem OneX.mono (v : Value) (t : List UInt8) : Mono (OneX v t) := fun _ _ _ ⟨g, h1, h2⟩ hb => ⟨g, h1, RowOf.kept h2 hb⟩
theorem one_tcell : One tcell (fun q => q.1) := fun _ => rfl
theorem hash_bytes {w : World} {g : Nat} {l : List UInt8} (h : Blk 31 w g (l.map u8v)) (hl : l.length = 32) : Bytes w (.slice (some ⟨g, 0, none⟩) 32 32) l :=
  Blk.row h l 32 32 (fun _ => rfl) hl (fun j u hu => by rw [← hu, one_u8.map]) (Nat.le_refl _) (by unfold maxLen; omega)
set_option maxHeartbeats 4000000 in
set_option maxRecDepth 100000 in
theorem tc_inner (kd : Int) (hkd : kd = 2 ∨ kd = 3) (pa va ka : Option Addr) (pn pc vn vc kn kc : Nat) (p v : List UInt8) (ks : List Nd) (hpn : p.length = pn) (hvn : v.length = vn) (hkn : ks.length = kn) (w : World) (hp : Bytes w (.slice pa pn pc) p) (hv : Bytes w (.slice va vn vc) v) (hk : RowOf ndcells 4 w (.slice ka kn kc) ks) (hP : pn ≤ 1048576) (hV : vn ≤ 1048576) (hK : kn ≤ 1048576)
    (hks : ∀ k ∈ ks, IsNd w k) (hBk : bulkNL ks ≤ 1048576) (ih : ∀ k ∈ ks, k.kd ≠ 0 → ∀ u, Below w.heap.size w u → Calls Try.prog 55 #[.agg (ndcells k).toArray] u (TcPost (alN k) u)) (pv vv kv : Value) :
    Calls Try.prog 55 #[.agg #[.int .i64 kd, .slice pa pn pc, .slice va vn vc, .slice ka kn kc]] w (TcPost (alN (.mk kd pv p vv v kv ks)) w) := by
  obtain ⟨w2, hw2⟩ : ∃ w2, w2 = (w.alloc (.cells #[.int .i64 kd, .slice pa pn pc, .slice va vn vc, .slice ka kn kc] 25)).alloc (.cells #[.int .i64 0, .slice none 0 0, .slice none 0 0, .slice none 0 0] 190) := ⟨_, rfl⟩
  have z1 : Blk 25 w2 w.heap.size [.int .i64 kd, .slice pa pn pc, .slice va vn vc, .slice ka kn kc] := by rw [hw2]; exact (Blk.new w _ _).alloc _
  have z2 : Blk 190 w2 (w.heap.size + 1) [.int .i64 0, .slice none 0 0, .slice none 0 0, .slice none 0 0] := by
    have := Blk.new (w.alloc (.cells #[.int .i64 kd, .slice pa pn pc, .slice va vn vc, .slice ka kn kc] 25)) 190 [.int .i64 0, .slice none 0 0, .slice none 0 0, .slice none 0 0]
    simp only [World.size_alloc] at this
    rw [hw2]; exact this
  have hbel : Below w.heap.size w w2 := by rw [hw2]; exact ((Below.refl _ _).alloc (Nat.le_refl _) _).alloc (by simp) _
  have c0 := z1.cell 0
  have c1 := z1.cell 1
  have c2 := z1.cell 2
  have c3 := z1.cell 3
  have Hw2 := Lib.hid hw2
  have Hbel := Lib.hid hbel
  have Hk := Lib.hid hk
  have Hks := Lib.hid hks
  have IH := Lib.hid ih
  have Hkn := Lib.hid hkn
  have Hp := Lib.hid hp
  have Hv := Lib.hid hv
  have Hpn := Lib.hid hpn
  have Hvn := Lib.hid hvn
  have HBk := Lib.hid hBk
  have n1 : (kd == 1) = false := by rcases hkd with rfl | rfl <;> rfl
  have n2 : (kd == 2) = true ∨ ((kd == 2) = false ∧ (kd == 3) = true) := by rcases hkd with rfl | rfl <;> simp
  clear hw2 hbel hk hks ih hkn hp hv hpn hvn hkd hBk
  rcases n2 with n2 | ⟨n2, n3⟩
  all_goals
    go_enter Try.func55, Try.ntmps55
    go_wp2_with (first
      | (rw [← Hw2.out]; have c0 : w2.cell? ⟨w.heap.size, 0, none⟩ = some (.int .i64 kd) := c0; have c1 : w2.cell? ⟨w.heap.size, 1, none⟩ = some (.slice pa pn pc) := c1; have c2 : w2.cell? ⟨w.heap.size, 2, none⟩ = some (.slice va vn vc) := c2; have c3 : w2.cell? ⟨w.heap.size, 3, none⟩ = some (.slice ka kn kc) := c3)
      | ((with_reducible show wpList _ _ _ (⟨none, Op.store _ _ (Operand.tmp 31), _, _, _, _⟩ :: _) _ _); refine wpList_storeA (o := ⟨none, _, _, _, _, _⟩) (by rfl) 190 (.tmp 3) (.tmp 31) (by rfl) (w.heap.size + 1) [.int .i64 kd, .slice pa pn pc, .slice va vn vc, .slice none 0 0] (by rfl) (by rfl) aggShape z2 (by rfl) (by rfl) (by intro u hu; simp at hu; rcases hu with rfl | rfl | rfl | rfl <;> rfl) Hbel.out (by omega) ?_; intro w3 y3 hbel3 g3; have x1 := z1.grown g3 (by simp); have d3 : w3.cell? ⟨w.heap.size, 3, none⟩ = some (.slice ka kn kc) := x1.cell 3))
    have F : TcW w [.int .i64 kd, .slice pa pn pc, .slice va vn vc, .slice ka kn kc] kd (.slice pa pn pc) (.slice va vn vc) (.slice none 0 0) (.slice none 0 0) [] [] w3 := ⟨hbel3, x1, y3, OwnOf.nil tcell 1 _ _ _, OwnOf.nil tcell 1 _ _ _, fun k hk => by simp [Value.ownBlock] at hk, fun q hq => absurd hq (by simp), fun q hq => absurd hq (by simp)⟩
    clear x1 y3 d3 z1 z2 c0 c1 c2 c3 hbel3 g3
    try simp only [Act.put]
    go_loopw [4, 35] (fun rv ix wr => ∃ (k : Nat) (sv : Value) (sums rest : List (Value × List UInt8)), k ≤ kn ∧ ix = .int .i64 (k : Int) ∧ TcW w [.int .i64 kd, .slice pa pn pc, .slice va vn vc, .slice ka kn kc] kd (.slice pa pn pc) (.slice va vn vc) sv rv sums rest wr ∧ Hid (sums.map (·.2) = smN (ks.take k)) ∧ Hid (rest.map (·.2) = alL (ks.take k))) (fun _ ix _ => kn - (intOf ix).toNat)
    case atStart => exact ⟨0, _, _, _, Nat.zero_le _, rfl, F, Lib.hid (by rw [List.take_zero, smN]; rfl), Lib.hid (by rw [List.take_zero, alL]; rfl)⟩
    case round =>
      clear F
      obtain ⟨k, sv, sums, rest, hk, rfl, F, HS, HR⟩ := hrel
      by_cases hlt : k < kn
      · have hki : (k : Int) < (kn : Int) := by omega
        have hlk : k < ks.length := by rw [Hkn.out]; exact hlt
        obtain ⟨b, off, rfl, hr⟩ := RowOf.range ndcells_len (Hk.out.below F.hb) k hlk
        obtain ⟨x, hx⟩ : ∃ x, ks[k] = x := ⟨_, rfl⟩
        have hxm : x ∈ ks := by rw [← hx]; exact List.getElem_mem hlk
        have HT : Hid (ks.take (k + 1) = ks.take k ++ [x]) := Lib.hid (by rw [List.take_add_one, List.getElem?_eq_getElem hlk, hx]; rfl)
        rw [hx] at hr
        have ihx := Lib.hid (IH.out x hxm)
        obtain ⟨xk, xp, xpb, xv, xvb, xkv, xks⟩ := x
        change wr.rangeAt b (off + k * 4) [.int .i64 xk, xp, xv, xkv] at hr
        obtain ⟨i1, i2, i3, _⟩ := (Hks.out _ hxm).inv
        obtain ⟨xpa, xpc, rfl, _⟩ := i1.form
        obtain ⟨xva, xvc, rfl, _⟩ := i2.form
        obtain ⟨xka, xkc, rfl, _⟩ := i3.form
        have HSl : sums.length = k := by
          have := congrArg List.length HS.out
          rw [List.length_map, smN_len, List.length_take, Hkn.out] at this; omega
        have hHSl := Lib.hid HSl
        clear hx hxm hlk i1 i2 i3 HSl
        by_cases hx0 : xk = 0
        · subst hx0
          go_wp2_with (first
            | ((with_reducible show wpList _ _ _ (⟨some 38, _, _, _, _, _⟩ :: _) _ _); refine wpList_loadW (o := ⟨some 38, _, _, _, _, _⟩) 25 (.tmp 37) (by rfl) b (off + k * 4) (by rfl) aggNode (by rfl) hr (by rfl) ?_)
            | ((with_reducible show wpList _ _ _ (⟨none, Op.store _ _ (Operand.tmp 38), _, _, _, _⟩ :: _) _ _); refine wpList_storeA (o := ⟨none, _, _, _, _, _⟩) (by rfl) 25 (.tmp 6) (.tmp 38) (by rfl) wr.heap.size [.int .i64 0, .slice xpa xpb.length xpc, .slice xva xvb.length xvc, .slice xka xks.length xkc] (by rfl) (by rfl) aggNode (old := [.int .i64 0, .slice none 0 0, .slice none 0 0, .slice none 0 0]) (Blk.new wr _ _) (by rfl) (by rfl) (by intro u hu; simp at hu; rcases hu with rfl | rfl | rfl | rfl <;> rfl) ((Below.refl wr.heap.size wr).alloc (Nat.le_refl _) _) (Nat.le_refl _) ?_; intro w4 y6 b4 _; have F := F.kept b4; have q0 : w4.cell? ⟨wr.heap.size, 0, none⟩ = some (.int .i64 0) := y6.cell 0; have d3 : w4.cell? ⟨w.heap.size + 1, 3, none⟩ = some sv := F.z2.cell 3)
            | ((with_reducible show wpList _ _ _ (⟨some 44, _, _, _, _, _⟩ :: _) _ _); refine wpList_buildW (o := ⟨some 44, _, _, _, _, _⟩) (by rfl) 26 1 [(0, .const (.slice none 0 0))] (by rfl) elText [(.slice none 0 0, [])] [.slice none 0 0] (by rfl) (by rfl) (by rfl) (by omega) (by omega) ?_; intro w5 _ r5 b5; have F := F.kept b5)
            | ((with_reducible show wpList _ _ _ (⟨some 45, _, _, _, _, _⟩ :: _) _ _); refine wpList_appB (o := ⟨some 45, _, _, _, _, _⟩) (by rfl) (.tmp 43) (.tmp 44) 26 (by rfl) elText (by intro u hu; simp [tcell] at hu; subst hu; rfl) (by rfl) F.oS (by rfl) r5 (by have := F.z2.lt; omega) (by rw [hHSl.out]; simp only [List.length_cons, List.length_nil]; omega) (by rw [hHSl.out]; simp only [List.length_cons, List.length_nil]; unfold maxLen; omega) ?_; intro v6 w6 o6 g6 p6; obtain ⟨a6, c6, rfl, _⟩ := o6.form' (k + 1) (by rw [List.length_append, hHSl.out]; rfl); have y2 := F.z2.grown g6 (F.oS.notT F.z2 (by decide)); obtain ⟨x3, hx3⟩ := y2.has 3 (by simp); have hf3 := y2.free 3; have F := F.grewS g6 o6 p6 (fun q hq => by rw [List.mem_singleton] at hq; subst hq; exact ⟨RowOf.nil b8 1 _, Nat.zero_le _, fun k hk => by simp [Value.ownBlock] at hk⟩)))
          go_roundw
          case rel => exact ⟨k + 1, _, _, rest, by omega, by go_num, F, Lib.hid (by rw [List.map_append, HS.out, HT.out, smN_snoc]; rfl), Lib.hid (by rw [HR.out, HT.out, alL_snoc]; simp [Nd.kd])⟩
          case measure => simp [intOf]; omega
        · have hx0b : (xk == 0) = false := by rw [beq_eq_false_iff_ne]; exact hx0
          obtain ⟨X, hX⟩ : ∃ X, X = Nd.mk xk (.slice xpa xpb.length xpc) xpb (.slice xva xvb.length xvc) xvb (.slice xka xks.length xkc) xks := ⟨_, rfl⟩
          have hXk : X.kd = xk := by rw [hX]; rfl
          have Ihx : Hid (∀ u, Below w.heap.size w u → Calls Try.prog 55 #[.agg #[.int .i64 xk, .slice xpa xpb.length xpc, .slice xva xvb.length xvc, .slice xka xks.length xkc]] u (TcPost (alN X) u)) := Lib.hid fun u hu => by rw [hX]; exact ihx.out hx0 u hu
          obtain ⟨al, hal⟩ := alN_ne X
          have hsm : smN (ks.take (k + 1)) = smN (ks.take k) ++ [sumB (cdN X)] := by rw [HT.out, smN_snoc, ← hX, if_neg (by rw [hXk]; exact hx0)]
          have hall : alL (ks.take (k + 1)) = alL (ks.take k) ++ alN X := by rw [HT.out, alL_snoc, ← hX, if_neg (by rw [hXk]; exact hx0)]
          have hlen1 : rest.length + (alN X).length ≤ 1048576 := by
            have h1 := alL_len (ks.take (k + 1))
            have h2 := bulkNL_pre ks (k + 1)
            have h3 := congrArg List.length HR.out
            have h4 := HBk.out
            rw [List.length_map] at h3
            rw [hall, List.length_append] at h1
            omega
          obtain ⟨SH, hSH⟩ : ∃ SH, SH = (sumB (cdN X)).map u8v := ⟨_, rfl⟩
          have cs := fun (a : Option Addr) (n c : Nat) (hn : (cdN X).length = n) (x : World) (hb : Bytes x (.slice a n c) (cdN X)) (hl : n + 64 ≤ 140737488355328) => ssum_any a n c (cdN X) hn x hb hl
          simp only [← hSH] at cs
          have Cs := Lib.hid cs
          have HSM := Lib.hid hsm
          have HAL := Lib.hid hall
          have Hal := Lib.hid hal
          have HLen := Lib.hid hlen1
          have HSHl : Hid (SH.length = 32) := Lib.hid (by rw [hSH, List.length_map]; exact outB_len _)
          have HSHo : Hid (∀ u ∈ SH, u.oneCell' = true) := Lib.hid (by rw [hSH]; intro u hu; obtain ⟨y, _, rfl⟩ := List.mem_map.1 hu; rfl)
          have HSH := Lib.hid hSH
          clear ihx hX hXk hsm hall hlen1 cs hSH hal hx0 hlt hk
          go_wp2_with (first
            | ((with_reducible show wpList _ _ _ (⟨some 38, _, _, _, _, _⟩ :: _) _ _); refine wpList_loadW (o := ⟨some 38, _, _, _, _, _⟩) 25 (.tmp 37) (by rfl) b (off + k * 4) (by rfl) aggNode (by rfl) hr (by rfl) ?_)
            | ((with_reducible show wpList _ _ _ (⟨none, Op.store _ _ (Operand.tmp 38), _, _, _, _⟩ :: _) _ _); refine wpList_storeA (o := ⟨none, _, _, _, _, _⟩) (by rfl) 25 (.tmp 6) (.tmp 38) (by rfl) wr.heap.size [.int .i64 xk, .slice xpa xpb.length xpc, .slice xva xvb.length xvc, .slice xka xks.length xkc] (by rfl) (by rfl) aggNode (old := [.int .i64 0, .slice none 0 0, .slice none 0 0, .slice none 0 0]) (Blk.new wr _ _) (by rfl) (by rfl) (by intro u hu; simp at hu; rcases hu with rfl | rfl | rfl | rfl <;> rfl) ((Below.refl wr.heap.size wr).alloc (Nat.le_refl _) _) (Nat.le_refl _) ?_; intro w4 y6 b4 _; have F := F.kept b4; have q0 : w4.cell? ⟨wr.heap.size, 0, none⟩ = some (.int .i64 xk) := y6.cell 0)
            | ((with_reducible show wpList _ _ _ (⟨some 47, _, _, _, _, _⟩ :: _) _ _); refine wpList_loadA (o := ⟨some 47, _, _, _, _, _⟩) (by rfl) 25 (.tmp 6) (by rfl) wr.heap.size (by rfl) aggNode y6 (by rfl) ?_)
            | (go_at_call 55; refine (Ihx.out w4 F.hb).mono ?_; rintro e w5 ⟨v5, ps5, rfl, o5, t5, m5, b5⟩; obtain ⟨qv, ps6, rfl, m6⟩ := cons_of (m5.trans Hal.out); obtain ⟨n5, hn5⟩ : ∃ n, n = ps6.length + 1 := ⟨_, rfl⟩; obtain ⟨a5, c5, rfl, _⟩ := o5.form' n5 (by rw [hn5]; rfl); have h05 : (0 : Int) < (n5 : Int) := (by omega); obtain ⟨g5, rfl, hg5, _⟩ := o5.lies (by omega); have k5 := o5.cellAt one_tcell 0 _ rfl; have T : ∀ q ∈ (qv, cdN X) :: ps6, TxG w sv u4 w5 q := fun q hq => ⟨(t5 q hq).1, (t5 q hq).2.1, fun j hj => ⟨Nat.le_trans F.z2.lt ((t5 q hq).2.2 j hj).1, ((t5 q hq).2.2 j hj).2.1, fun e => by have h1 := OwnOf.ltT F.oS j e; have h2 := ((t5 q hq).2.2 j hj).1; omega, fun e => by have h1 := OwnOf.ltT F.oR j e; have h2 := ((t5 q hq).2.2 j hj).1; omega⟩⟩; have s5 : ∀ j, sv.ownBlock = some j → j < g5 := fun j hj => Nat.lt_of_lt_of_le (OwnOf.ltT F.oS j hj) hg5; have z5 := Nat.lt_of_lt_of_le F.z2.lt hg5; have F := F.kept b5; obtain ⟨q1, q2, q3⟩ := t5 _ List.mem_cons_self; dsimp only at k5 q1 q2 q3; obtain ⟨qa, qc, rfl, _⟩ := q1.form; obtain ⟨PS, hPS⟩ : ∃ P, P = (Value.slice qa (cdN X).length qc, cdN X) :: ps6 := ⟨_, rfl⟩; rw [← hPS] at T o5 m5; clear hPS; obtain ⟨qn, hqn⟩ : ∃ n, n = (cdN X).length := ⟨_, rfl⟩; have M5 := Lib.hid m5; clear m6 m5 hn5 t5; rw [← hqn] at k5 q1 q2 q3; have Hqn := Lib.hid hqn; clear hqn)
            | (go_at_call 42; refine (Cs.out qa qn qc Hqn.out.symm _ q1 (by omega)).mono ?_; rintro e w6 ⟨rfl, b6⟩; have F := F.kept b6; have o5 := o5.kept b6; have hn8 := Blk.new w6 31 zh; have ls6 := OwnOf.ltT F.oS; have lr6 := OwnOf.ltT F.oR; have lz6 := F.z2.lt)
            | ((with_reducible show wpList _ _ _ (⟨none, Op.store _ _ (Operand.tmp 52), _, _, _, _⟩ :: _) _ _); refine wpList_storeA (o := ⟨none, _, _, _, _, _⟩) (by rfl) 31 (.tmp 8) (.tmp 52) (by rfl) w6.heap.size SH (by rfl) (by rfl) aggHash' hn8 HSHl.out (by rfl) HSHo.out ((Below.refl w6.heap.size w6).alloc (Nat.le_refl _) _) (Nat.le_refl _) ?_; intro w7 y8 b7 _; have F := F.kept b7; have o5 := o5.kept b7))
          have T : ∀ q ∈ PS, TxG w sv u4 w7 q := fun q hq => ((T q hq).kept b6).kept b7
          have k3 := fun u : Ext w7 => u.cell ((F.z2.cell 3).trans (show _ = some sv from rfl))
          refine wp_region_typed w7 4 (by kernel_rfl) (by kernel_rfl) (Below.refl _ _) ?_; simp only [List.take_succ_cons, List.take_zero, List.take_nil]
          iterate 3 (refine wpX_step (by rfl) (fun K hK => ?_); go_simp; first | (refine hK _ ?_; clear hK K) | (apply Exists.intro; refine ⟨fun _ => ?_, hK _ ?_⟩; fail; clear hK K))
          refine wpX_rel 56 (OneX (.slice (some ⟨w6.heap.size, 0, none⟩) 32 32) (sumB (cdN X))) rfl (of_decide_eq_true rfl) (OneX.mono _ _) (fun w8 hw8 => ?_) ?_
          · change forallRel w8 [] _ _
            simp only [forallRel]
            refine ⟨rfl, ?_⟩
            go_simp
            exact ⟨(Below.refl _ _).alloc (Nat.le_refl _) _, w8.heap.size, rfl, Row.built (f := tcell) (size := 1) (fun _ => rfl) w8 22 [(.slice (some ⟨w6.heap.size, 0, none⟩) 32 32, sumB (cdN X))] 1 rfl (by unfold maxLen; omega)⟩
          refine wpX_nil ?_
          intro u2 hb2 v56 h56
          change wpList _ _ _ [_, _, _] _ _
          obtain ⟨g56, rfl, hr56⟩ := h56
          have F := F.kept hb2
          have o5 := o5.kept hb2
          have hB : Bytes u2 (.slice (some ⟨w6.heap.size, 0, none⟩) 32 32) (sumB (cdN X)) := hash_bytes (by have := y8.kept hb2; rwa [HSH.out] at this) (outB_len _)
          have T : ∀ q ∈ PS, TxG w sv u4 u2 q := fun q hq => (T q hq).kept hb2
          have N : TxG w sv u4 u2 (.slice (some ⟨w6.heap.size, 0, none⟩) 32 32, sumB (cdN X)) := ⟨hB, by rw [show (sumB (cdN X)).length = 32 from outB_len _]; omega, fun j hj => by
            simp only [Value.ownBlock, Option.some.injEq] at hj
            subst hj
            exact ⟨lz6, by have h1 := y8.lt; have h2 := hb2.size; omega, fun e => by have := ls6 _ e; omega, fun e => by have := lr6 _ e; omega⟩⟩
          clear k3 hB
          have hPl : PS.length = (alN X).length := by have := congrArg List.length M5.out; rwa [List.length_map] at this
          have HPl := Lib.hid hPl
          have hz2' := F.z2.lt
          clear hPl
          go_wp2_with (first
            | ((with_reducible show wpList _ _ _ (⟨some 57, _, _, _, _, _⟩ :: _) _ _); refine wpList_appB (o := ⟨some 57, _, _, _, _, _⟩) (by rfl) (.tmp 54) (.tmp 56) 26 (by rfl) elText (texts_one (ps := [(Value.slice (some ⟨w6.heap.size, 0, none⟩) 32 32, sumB (cdN X))]) (fun q hq => by rw [List.mem_singleton] at hq; rw [hq]; exact N.h)) (by rfl) F.oS (by rfl) hr56 (by have := F.z2.lt; omega) (by rw [hHSl.out]; simp only [List.length_cons, List.length_nil]; omega) (by rw [hHSl.out]; simp only [List.length_cons, List.length_nil]; unfold maxLen; omega) ?_; intro v9 w9 o9 g9 p9; obtain ⟨a9, c9, rfl, _⟩ := o9.form' (k + 1) (by rw [List.length_append, hHSl.out]; rfl); have y2 := F.z2.grown g9 (F.oS.notT F.z2 (by decide)); obtain ⟨x3, hx3⟩ := y2.has 3 (by simp); have hf3 := y2.free 3; have T : ∀ q ∈ PS, TxG w (.slice a9 (k + 1) c9) u4 (w9.setCell ⟨w.heap.size + 1, 3, none⟩ (.slice a9 (k + 1) c9)) q := fun q hq => ((T q hq).grewS g9 p9).set 3 _; have o5 := (o5.grown g9 (fun j hj e => by simp only [Value.ownBlock, Option.some.injEq] at e; have := s5 j hj; omega)).grown (gsetT w9 (w.heap.size + 1) 3 (.slice a9 (k + 1) c9)) (fun j hj e => by simp only [Value.ownBlock, Option.some.injEq] at e hj; omega); have F := F.grewS g9 o9 p9 (fun q hq => by rw [List.mem_singleton] at hq; rw [hq]; exact N))
            | ((with_reducible show wpList _ _ _ (⟨some 61, _, _, _, _, _⟩ :: _) _ _); refine wpList_appB (o := ⟨some 61, _, _, _, _, _⟩) (by rfl) (.tmp 59) (.tmp 60) 26 (by rfl) elText (texts_one (fun q hq => (T q hq).h)) (by rfl) F.oR (by rfl) o5.row (by have := F.z2.lt; omega) (by rw [HPl.out]; have := HLen.out; omega) (by rw [HPl.out]; have := HLen.out; unfold maxLen; omega) ?_; intro v10 w10 o10 g10 p10; have F := F.grewR g10 o10 p10 T))
          go_roundw
          case rel => exact ⟨k + 1, _, _, _, by omega, by go_num, F, Lib.hid (by rw [List.map_append, HS.out, HSM.out]; rfl), Lib.hid (by rw [List.map_append, HR.out, HAL.out, M5.out])⟩
          case measure => simp [intOf]; omega
      · obtain rfl : k = kn := by omega
        have hk1 : ¬ kd = 1 := fun e => by rw [e] at n1; simp at n1
        have HSe := HS.out
        have HRe := HR.out
        rw [List.take_of_length_le (by rw [Hkn.out]; exact Nat.le_refl _)] at HSe HRe
        have hSl : sums.length = k := by
          have := congrArg List.length HSe
          rw [List.length_map, smN_len, Hkn.out] at this; exact this
        have hcd : cdN (.mk kd pv p vv v kv ks) = if shOk kd p v (smN ks) = true then shB kd p v (smN ks) else [] := by rw [cdN, if_neg hk1]
        have hal : alN (.mk kd pv p vv v kv ks) = cdN (.mk kd pv p vv v kv ks) :: alL ks := by rw [alN, if_neg hk1]
        obtain ⟨sa, sc, rfl, _⟩ := F.oS.form' k hSl
        obtain ⟨CB, hCB⟩ : ∃ B, B = if shOk kd p v (smN ks) = true then shB kd p v (smN ks) else [] := ⟨_, rfl⟩
        have HalE : Hid (alN (.mk kd pv p vv v kv ks) = CB :: alL ks) := Lib.hid (by rw [hal, hcd, hCB])
        obtain ⟨er', her⟩ : ∃ x : Int, x = if shOk kd p v (smN ks) = true then 0 else 1 := ⟨_, rfl⟩
        have Ci : Hid (∀ x, Below wr.heap.size wr x → Calls Try.prog 118 #[.agg #[.int .i64 kd, .slice pa pn pc, .slice va vn vc, .slice sa k sc]] x fun e w' => ∃ cv, e = .returned (.tuple #[cv, .int .i64 er']) ∧ Bytes w' cv CB ∧ (∀ j, cv.ownBlock = some j → x.heap.size ≤ j ∧ j < w'.heap.size) ∧ Below x.heap.size x w' ∧ CB.length ≤ 1000000000) := Lib.hid fun x hb => by
          have := hcode_own kd pa va sa pn pc vn vc k sc p v sums Hpn.out Hvn.out hSl x ((Hp.out.below F.hb).below hb) ((Hv.out.below F.hb).below hb) ⟨F.oS.row.below hb, fun q hq => (F.tS q hq).h.below hb⟩ (by omega) hV hK (fun q hq => smN_le ks _ (by rw [← HSe]; exact List.mem_map.2 ⟨q, hq, rfl⟩))
          rw [HSe] at this
          rw [hCB, her]; exact this
        have HB := Lib.hid hCB
        have F0 := F.hb
        have HRe' := Lib.hid HRe
        obtain ⟨rn, hrn⟩ : ∃ n, n = rest.length := ⟨_, rfl⟩
        obtain ⟨ra, rc, rfl, _⟩ := F.oR.form' rn hrn.symm
        have hrl : rn ≤ 1048576 := by
          have h1 := alL_len ks
          have h2 := HBk.out
          have h3 := congrArg List.length HRe
          rw [List.length_map] at h3
          omega
        have Hrn := Lib.hid hrn
        clear HS HR hcd hal her hCB hSl hk1 HSe HRe hrn
        go_wp2_with (first
          | ((with_reducible show wpList _ _ _ (⟨some 64, _, _, _, _, _⟩ :: _) _ _); refine wpList_loadA (o := ⟨some 64, _, _, _, _, _⟩) (by rfl) 190 (.tmp 3) (by rfl) (w.heap.size + 1) (by rfl) aggShape F.z2 (by rfl) ?_)
          | (go_at_call 118; refine (Ci.out _ (Below.refl _ _)).mono ?_; rintro e w4 ⟨cv, rfl, hc, fc, b4, lc⟩; obtain ⟨ca, cc, rfl, _⟩ := hc.form; have F := F.kept b4; have lt4 : ∀ q ∈ rest, ∀ k, q.1.ownBlock = some k → k < w4.heap.size := fun q hq k hk => ((F.tR q hq).b k hk).2.1; have gt4 : ∀ k, (Value.slice ca CB.length cc).ownBlock = some k → w.heap.size ≤ k ∧ k < w4.heap.size := fun k hk => ⟨Nat.le_trans F0.size (fc k hk).1, (fc k hk).2⟩)
          | ((with_reducible show wpList _ _ _ (⟨some 69, _, _, _, _, _⟩ :: _) _ _); refine wpList_buildW (o := ⟨some 69, _, _, _, _, _⟩) (by rfl) 26 1 [(0, .tmp 68)] (by rfl) elText [(.slice ca CB.length cc, CB)] [.slice ca CB.length cc] (by rfl) (by rfl) (by rfl) (by omega) (by omega) ?_; intro w5 y5 _ b5; have hw4 := F.hb.size; have o5 := Blk.own (f := tcell) (size := 1) (l := [(Value.slice ca CB.length cc, CB)]) (B := w.heap.size) y5 1 (fun _ => rfl) rfl hw4 (by unfold maxLen; omega); have F := F.kept b5; have hc := hc.kept b5)
          | ((with_reducible show wpList _ _ _ (⟨some 71, _, _, _, _, _⟩ :: _) _ _); refine wpList_appB (o := ⟨some 71, _, _, _, _, _⟩) (by rfl) (.tmp 69) (.tmp 70) 26 (by rfl) elText (texts_one (fun q hq => (F.tR q hq).h)) (by rfl) o5 (by rfl) F.oR.row F.hb.size (by rw [← Hrn.out]; simp only [List.length_cons, List.length_nil]; omega) (by rw [← Hrn.out]; simp only [List.length_cons, List.length_nil]; unfold maxLen; omega) ?_; intro v6 w6 o6 g6 p6))
        go_ret
        refine ⟨v6, _, rfl, o6, fun q hq => ?_, by rw [List.map_append, HRe'.out, HalE.out]; rfl, F.hb.grown g6 F.hb.size (fun k hk => by simp only [Value.ownBlock, Option.some.injEq] at hk; omega)⟩
        have key : ∀ k, k < w4.heap.size → v6.ownBlock ≠ some k := fun k hk e => by
          rcases p6 k e with h | h
          · simp only [Value.ownBlock, Option.some.injEq] at h; omega
          · have := b5.size; omega
        rcases List.mem_append.1 hq with hq | hq
        · rw [List.mem_singleton] at hq
          subst hq
          exact ⟨RowOf.offT hc g6 (fun x hx => Nat.ne_of_lt (gt4 x hx).2), lc, fun k hk => ⟨(gt4 k hk).1, Nat.lt_of_lt_of_le (gt4 k hk).2 (Nat.le_trans b5.size g6.size), key k (gt4 k hk).2⟩⟩
        · have t := F.tR q hq
          exact ⟨RowOf.offT t.h g6 (fun x hx => Nat.ne_of_lt (lt4 q hq x hx)), t.l, fun k hk => ⟨Nat.le_trans (by omega) (t.b k hk).1, Nat.lt_of_lt_of_le (lt4 q hq k hk) (Nat.le_trans b5.size g6.size), key k (lt4 q hq k hk)⟩⟩
end Go.Proofs.Ytnhbfnegpjkojaa
