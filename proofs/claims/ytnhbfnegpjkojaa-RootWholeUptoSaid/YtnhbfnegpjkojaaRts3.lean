/- The reference's routes: a fork; any node. -/
import Derived.Test.YtnhbfnegpjkojaaRts2
set_option linter.unusedSimpArgs false
set_option linter.unusedVariables false
namespace Go.Proofs.Ytnhbfnegpjkojaa
open Go.RowKit
theorem bulkNL_take (ks : List Nd) (i : Nat) : bulkNL (ks.take i) ≤ bulkNL ks := by
  induction ks generalizing i with
  | nil => simp
  | cons k ks ih =>
    cases i with
    | zero => simp [bulkNL]
    | succ i => have := ih i; simp only [List.take_succ_cons, bulkNL]; omega
section
variable (N : Nat) (hN : N ≤ 1000000000) (pa va ka : Option Addr) (pn pc vn vc kc : Nat) (p v : List UInt8) (ks : List Nd) (hpn : p.length = pn) (hvn : v.length = vn) (hkn : ks.length = 16) (q : List UInt8) (w : World)
  (hp : Bytes w (.slice pa pn pc) p) (hv : Bytes w (.slice va vn vc) v) (hk : RowOf ndcells 4 w (.slice ka 16 kc) ks) (hks : ∀ k ∈ ks, IsNd w k)
include hN hpn hvn hkn hp hv hk hks in
set_option maxHeartbeats 2000000 in
set_option maxRecDepth 100000 in
theorem routes_fork (ih : ∀ k ∈ ks, RtsC N k) (hq : q.length + 1 + pn + vn + bulkNL ks ≤ N) : Calls Try.prog 61 #[.agg #[.int .i64 3, .slice pa pn pc, .slice va vn vc, .slice ka 16 kc], .string ⟨q.toArray⟩] w (RtsPost q ((rtsL ks).map fun l => bdP v l) w) := by
  obtain ⟨O, hO⟩ : ∃ O, O = (rtsL ks).map fun l => bdP v l := ⟨_, rfl⟩
  rw [← hO]
  have HO := Lib.hid hO
  clear hO
  obtain ⟨w1, hw1⟩ : ∃ w1, w1 = w.alloc (.cells #[.int .i64 3, .slice pa pn pc, .slice va vn vc, .slice ka 16 kc] 25) := ⟨_, rfl⟩
  have hz : Blk 25 w1 w.heap.size [.int .i64 3, .slice pa pn pc, .slice va vn vc, .slice ka 16 kc] := by rw [hw1]; exact Blk.new w _ _
  have hbel : Below w.heap.size w w1 := by rw [hw1]; exact (Below.refl _ _).alloc (Nat.le_refl _) _
  have k1 := (hz.cell 1).trans (show _ = some (Value.slice pa pn pc) from rfl)
  rw [hw1] at k1
  have Hw1 := Lib.hid hw1
  have Hpn := Lib.hid hpn
  have Hvn := Lib.hid hvn
  have Hkn := Lib.hid hkn
  have Hq := Lib.hid hq
  have hnn : pn ≤ 1000000000 := by omega
  clear hw1 hpn hvn hkn hq
  go_enter Try.func61, Try.ntmps61
  go_wp2_with fail
  rw [← Hw1.out]
  go_loopw [16] (fun ix wr => ∃ k : Nat, k ≤ pn ∧ ix = .int .i64 (k : Int) ∧ Below w.heap.size w wr ∧ Blk 25 wr w.heap.size [.int .i64 3, .slice pa pn pc, .slice va vn vc, .slice ka 16 kc]) (fun ix _ => pn - (intOf ix).toNat)
  case atStart => exact ⟨0, by omega, rfl, hbel, hz⟩
  case round =>
    obtain ⟨k, hkk, rfl, hbr, hzr⟩ := hrel
    have k0 := (hzr.cell 0).trans (show _ = some (Value.int .i64 3) from rfl)
    by_cases hlt : k < pn
    · have hki : (k : Int) < (pn : Int) := by omega
      have hkl : k < p.length := by rw [Hpn.out]; exact hlt
      obtain ⟨b, off, rfl, hc⟩ := Bytes.at (hp.below hbr) k hkl
      go_wp2
      go_roundw
      case rel => exact ⟨k + 1, by omega, by go_num, hbr, hzr⟩
      case measure => simp [intOf]; omega
    · obtain rfl : k = pn := by omega
      have m2 := (hzr.cell 2).trans (show _ = some (Value.slice va vn vc) from rfl)
      have m3 := (hzr.cell 3).trans (show _ = some (Value.slice ka 16 kc) from rfl)
      have c2 := run_str (P := Try.prog) (src := 22) (dst := 9) elU8.ht (by kernel_rfl) (by kernel_rfl) (hv.below hbr)
      clear hlt
      have hval : (v = [] ∧ vn = 0) ∨ (v ≠ [] ∧ 0 < vn) := by
        have := Hvn.out
        cases v with
        | nil => left; exact ⟨rfl, by simpa using this.symm⟩
        | cons x v => right; refine ⟨by simp, ?_⟩; simp at this; omega
      rcases hval with ⟨hv0, hvn0⟩ | ⟨hv0, hvn0⟩
      · have hvi : ((0 : Int) < (vn : Int)) = False := eq_false (by omega)
        have hvi2 : (0 < vn) = False := eq_false (by omega)
        have hown0 : OwnOf rcells 2 116 wr w.heap.size (.slice none 0 0) (pre q (bdP v [])) := by
          have : pre q (bdP v []) = [] := by unfold bdP; rw [if_pos hv0]; rfl
          rw [this]; exact OwnOf.nil _ _ _ _ _
        clear hv0 hvn0
        go_wp2_with fail
        go_loopw [8, 98] (fun av ix wr => ∃ (i : Nat) (ls : List (List Rt)), i ≤ 16 ∧ rtsL (ks.take i) = some ls ∧ OwnOf rcells 2 116 wr w.heap.size av (pre q (bdP v ls)) ∧ ix = .int .i64 (i : Int) ∧ Below w.heap.size w wr) (fun _ ix _ => 16 - (intOf ix).toNat)
        case atStart => exact ⟨0, [], by omega, rfl, hown0, rfl, hbr⟩
        case round =>
          obtain ⟨i, ls, hii, hls, hown, rfl, hba⟩ := hrel
          by_cases hlt : i < 16
          · have hki : (i : Int) < 16 := by omega
            have hil : i < ks.length := by rw [Hkn.out]; exact hlt
            have hlsl : ls.length = i := by rw [(rtsL_at hls).1, List.length_take]; omega
            obtain ⟨bk, ok, rfl, hr⟩ := RowOf.range ndcells_len (hk.below hba) i hil
            have hIs := (hks _ (List.getElem_mem hil)).kept hba
            have hbk := bulkN_mem (List.getElem_mem hil)
            have hbs := rtsL_sum hls
            have hns := rtsL_none (List.getElem_mem hil)
            have hst := fun l => rtsL_step hil (l := l) hls
            have htk : bulkNL (ks.take i) ≤ bulkNL ks := bulkNL_take ks i
            have c3 := fun (u : World) (hu : Below wr.heap.size wr u) => ih _ (List.getElem_mem hil) (q ++ [UInt8.ofNat i]) u (hIs.kept hu) (by have := Hq.out; rw [List.length_append]; simp only [List.length_singleton]; omega)
            have hlb : (pre q (bdP v ls)).length ≤ 1 + bulkNL ks := by
              rw [pre_len]; unfold bdP; rw [List.length_append, cat_len]
              have : (if v = [] then ([] : List Rt) else [([], v)]).length ≤ 1 := by split <;> simp
              omega
            have hrl := fun l (h : rts ks[i] = some l) => rts_len h
            obtain ⟨y, hy⟩ : ∃ y, y = ks[i] := ⟨_, rfl⟩
            rw [← hy] at hr hIs hbk hns
            simp only [← hy] at c3 hst hrl
            have hKl := ndcells_len y
            have hone := hIs.one
            obtain ⟨K, hK⟩ : ∃ K, K = ndcells y := ⟨_, rfl⟩
            simp only [← hK] at hr hKl hone c3
            obtain ⟨S2, hS2⟩ : ∃ S : ByteArray, S = ⟨(q ++ [UInt8.ofNat i]).toArray⟩ := ⟨_, rfl⟩
            simp only [← hS2] at c3
            rw [← ba_add] at hS2
            have hu8 : u8v (UInt8.ofNat i) = .int .u8 (i : Int) := by unfold u8v; rw [ofNat_nat (by omega)]
            have s109 : ∀ u : World, (convert 22 9 (.slice (some ⟨u.heap.size, 0, none⟩) 1 1)).run Try.prog (u.alloc (.cells #[.int .u8 (i : Int)] 5)) = .ok (str [UInt8.ofNat i]) (u.alloc (.cells #[.int .u8 (i : Int)] 5)) := by
              intro u
              have hb : Bytes (u.alloc (.cells #[.int .u8 (i : Int)] 5)) (.slice (some ⟨u.heap.size, 0, none⟩) 1 1) [UInt8.ofNat i] := by
                have := Row.built (f := b8) (size := 1) (fun _ => rfl) u 5 [UInt8.ofNat i] 1 rfl (by unfold maxLen; omega)
                rw [show ([UInt8.ofNat i] : List UInt8).flatMap b8 = [.int .u8 (i : Int)] from by rw [flat_b8]; simp only [List.map_cons, List.map_nil, hu8]] at this
                exact this
              exact run_str (P := Try.prog) (src := 22) (dst := 9) elU8.ht (by kernel_rfl) (by kernel_rfl) hb
            obtain ⟨T1, hT1⟩ : ∃ T : ByteArray, T = ⟨[UInt8.ofNat i].toArray⟩ := ⟨_, rfl⟩
            have hst1 : str [UInt8.ofNat i] = .string T1 := by rw [hT1]; rfl
            rw [hst1] at s109
            have hadd : (⟨q.toArray⟩ ++ T1 : ByteArray) = S2 := by rw [hT1]; exact hS2.symm
            have hT1s : T1.size = 1 := by rw [hT1]; rfl
            have hqs : (⟨q.toArray⟩ : ByteArray).size = q.length := str_size q
            have hwu : IntKind.u8.wrap (i : Int) = (i : Int) := by rw [IntKind.wrap_u8']; omega
            have hsm : ¬ 9223372036854775807 < q.length + 1 := by have := Hq.out; omega
            obtain ⟨av1, ac1, rfl, _⟩ := hown.form
            have hlo := OwnOf.lt hown
            have C3 := Lib.hid c3
            have HKl := Lib.hid hKl
            have Hone := Lib.hid hone
            have Hst := Lib.hid hst
            have Hns := Lib.hid hns
            have Hrl := Lib.hid hrl
            have Hlb := Lib.hid hlb
            have Hbk := Lib.hid hbk
            have Hlsl := Lib.hid hlsl
            obtain ⟨NL, hNL⟩ : ∃ n, n = (pre q (bdP v ls)).length := ⟨_, rfl⟩
            rw [← hNL] at hlb
            simp only [← hNL]
            rw [← hNL] at hown hlo
            have HNL := Lib.hid hNL
            cases hry : rts y with
            | none =>
              have hOn : O = none := by rw [HO.out, Hns.out hry]; rfl
              subst hOn
              rw [hry] at C3
              have C4 := Lib.hid (fun (u : World) (hu : Below wr.heap.size wr u) => (C3.out u hu : Calls Try.prog 61 #[.agg K.toArray, .string S2] u fun e w' => Below u.heap.size u w' ∧ e = .returned (.tuple #[.slice none 0 0, .bool false])))
              clear hIs hbk hy hK hKl hone hns hst hrl hbs htk c3 hlt hS2 hu8 hT1 hst1 hNL hry hls C3
              go_wp2_with (first
                                      | (refine wpList_loadW (o := ⟨some 102, _, _, _, _, _⟩) 25 (.tmp 101) (by rfl) bk (ok + i * 4) (by rfl) aggNode HKl.out hr (by rfl) ?_; have bA : Below wr.heap.size wr (wr.alloc (.cells #[.int .i64 0, .slice none 0 0, .slice none 0 0, .slice none 0 0] 25)) := (Below.refl _ _).alloc (Nat.le_refl _) _)
                                      | ((with_reducible show wpList _ _ _ (⟨none, Op.store _ _ (Operand.tmp 102), _, _, _, _⟩ :: _) _ _); refine wpList_storeA (o := ⟨none, _, _, _, _, _⟩) (by rfl) 25 (.tmp 10) (.tmp 102) (by rfl) wr.heap.size K (by rfl) (by rfl) aggNode (Blk.new wr 25 [.int .i64 0, .slice none 0 0, .slice none 0 0, .slice none 0 0]) HKl.out (by rfl) Hone.out bA (Nat.le_refl _) ?_; intro w5 h7 b5 _; have bb5 := Below.then hba b5)
                                      | (refine wpList_loadA (o := ⟨some 104, _, _, _, _, _⟩) (by rfl) 25 (.tmp 10) (by rfl) wr.heap.size (by rfl) aggNode h7 HKl.out ?_)
                                      | (go_at_call 61; (with_reducible refine (C4.out _ (b5.trans ((Below.refl _ _).alloc (Nat.le_refl _) _ |>.mono b5.size))).mono ?_); rintro e w6 ⟨b6, rfl⟩; have bb6 := Below.then (Below.then bb5 ((Below.refl _ _).alloc (Nat.le_refl _) _)) b6))
              go_ret2
              exact ⟨bb6, rfl⟩
            | some l =>
              have hls' := Hst.out l hry
              have hll := Hrl.out l hry
              rw [hry] at C3
              have C4 := Lib.hid (fun (u : World) (hu : Below wr.heap.size wr u) => (C3.out u hu : Calls Try.prog 61 #[.agg K.toArray, .string S2] u fun e w' => Below u.heap.size u w' ∧ ∃ (a : Option Addr) (n c : Nat), e = .returned (.tuple #[.slice a n c, .bool true]) ∧ RowOf rcells 2 w' (.slice a n c) (pre (q ++ [UInt8.ofNat i]) l)))
              have hbd : pre q (bdP v ls) ++ pre (q ++ [UInt8.ofNat i]) l = pre q (bdP v (ls ++ [l])) := by rw [bd_snoc, pre_app, pre_pre, hlsl]
              have Hbd := Lib.hid hbd
              have hb1 : ((pre q (bdP v ls)).length + (pre (q ++ [UInt8.ofNat i]) l).length) * 32 ≤ 140737488355328 := by rw [pre_len (q ++ _)]; have := Hq.out; have := Hlb.out; omega
              have hb2 : (pre q (bdP v ls)).length + (pre (q ++ [UInt8.ofNat i]) l).length ≤ maxLen := by unfold maxLen; omega
              have Hb1 := Lib.hid hb1
              have Hb2 := Lib.hid hb2
              clear hIs hbk hy hK hKl hone hns hst hrl hbs htk c3 hlt hS2 hu8 hT1 hst1 hNL hry hls C3 hbd hll hb1 hb2 hlb
              go_wp2_with (first
                                      | (refine wpList_loadW (o := ⟨some 102, _, _, _, _, _⟩) 25 (.tmp 101) (by rfl) bk (ok + i * 4) (by rfl) aggNode HKl.out hr (by rfl) ?_; have bA : Below wr.heap.size wr (wr.alloc (.cells #[.int .i64 0, .slice none 0 0, .slice none 0 0, .slice none 0 0] 25)) := (Below.refl _ _).alloc (Nat.le_refl _) _)
                                      | ((with_reducible show wpList _ _ _ (⟨none, Op.store _ _ (Operand.tmp 102), _, _, _, _⟩ :: _) _ _); refine wpList_storeA (o := ⟨none, _, _, _, _, _⟩) (by rfl) 25 (.tmp 10) (.tmp 102) (by rfl) wr.heap.size K (by rfl) (by rfl) aggNode (Blk.new wr 25 [.int .i64 0, .slice none 0 0, .slice none 0 0, .slice none 0 0]) HKl.out (by rfl) Hone.out bA (Nat.le_refl _) ?_; intro w5 h7 b5 _; have bb5 := Below.then hba b5)
                                      | (refine wpList_loadA (o := ⟨some 104, _, _, _, _, _⟩) (by rfl) 25 (.tmp 10) (by rfl) wr.heap.size (by rfl) aggNode h7 HKl.out ?_)
                                      | (go_at_call 61; (with_reducible refine (C4.out _ (b5.trans ((Below.refl _ _).alloc (Nat.le_refl _) _ |>.mono b5.size))).mono ?_); rintro e w6 ⟨b6, a6, n6, c6, rfl, h6⟩; have bb6a := Below.then (Below.then b5 ((Below.refl _ _).alloc (Nat.le_refl _) _)) b6; have bb6 := Below.then hba bb6a; have o6 := hown.kept bb6a)
                                      | (refine wpList_appA (o := ⟨some 118, _, _, _, _, _⟩) (by rfl) (.tmp 116) (.tmp 117) 112 (by rfl) elRt (by rfl) o6 (by rfl) h6 bb6.size Hb1.out Hb2.out ?_; intro v7 w7 o7 g7 _; have b7 := bb6.grown g7 bb6.size hlo; rw [Hbd.out] at o7))
              go_roundw
              case rel => exact ⟨i + 1, ls ++ [l], by omega, hls', o7, by go_num, b7⟩
              case measure => simp [intOf]; omega
          · obtain rfl : i = 16 := by omega
            have htk : ks.take 16 = ks := by rw [← Hkn.out, List.take_length]
            rw [htk] at hls
            have hOn : O = some (bdP v ls) := by rw [HO.out, hls]; rfl
            subst hOn
            obtain ⟨av1, ac1, rfl, _⟩ := hown.form
            have hrowE := hown.row
            clear htk hls hown
            go_wp2_with fail
            go_ret2
            exact ⟨hba, _, _, _, rfl, hrowE⟩
      · have hvi : (0 : Int) < (vn : Int) := by omega
        have hbA : Below w.heap.size w (wr.alloc (.cells #[.string ⟨q.toArray⟩, .string ⟨v.toArray⟩] 116)) := hbr.alloc hbr.size _
        have hrow : RowOf rcells 2 (wr.alloc (.cells #[.string ⟨q.toArray⟩, .string ⟨v.toArray⟩] 116)) (.slice (some ⟨wr.heap.size, 0, none⟩) 1 1) [(q, v)] := Row.built (f := rcells) (size := 2) (fun _ => rfl) wr 116 [(q, v)] 1 rfl (by unfold maxLen; omega)
        have hm0 : OwnOf rcells 2 116 (wr.alloc (.cells #[.string ⟨q.toArray⟩, .string ⟨v.toArray⟩] 116)) w.heap.size (.slice none 0 0) [] := OwnOf.nil _ _ _ _ _
        have hlo := OwnOf.lt hm0
        have e0 : pre q (bdP v []) = [] ++ [(q, v)] := by unfold bdP; rw [if_neg hv0]; simp [pre, cat]
        rw [← List.nil_append [(q, v)]] at hrow
        have hz2 := hzr.alloc (.cells #[.string ⟨q.toArray⟩, .string ⟨v.toArray⟩] 116)
        clear hv0 hvn0
        go_wp2_with (refine wpList_appA (o := ⟨some 94, _, _, _, _, _⟩) (by rfl) (.tmp 87) (.tmp 93) 112 (by rfl) elRt (by rfl) hm0 (by rfl) hrow hbA.size (by simp) (by unfold maxLen; simp) ?_; intro v5 w5 o5 g5 _; have b5 := hbA.grown g5 hbA.size hlo; have hown0 := o5; simp only [List.nil_append] at hown0; rw [← List.nil_append [(q, v)], ← e0] at hown0; obtain ⟨a5, c5, rfl, _⟩ := o5.form' 1 (by simp); have n3 := ((hz2.grown g5 (fun hh => by cases hh)).cell 3).trans (show _ = some (Value.slice ka 16 kc) from rfl))
        go_loopw [8, 98] (fun av ix wr => ∃ (i : Nat) (ls : List (List Rt)), i ≤ 16 ∧ rtsL (ks.take i) = some ls ∧ OwnOf rcells 2 116 wr w.heap.size av (pre q (bdP v ls)) ∧ ix = .int .i64 (i : Int) ∧ Below w.heap.size w wr) (fun _ ix _ => 16 - (intOf ix).toNat)
        case atStart => exact ⟨0, [], by omega, rfl, hown0, rfl, b5⟩
        case round =>
          obtain ⟨i, ls, hii, hls, hown, rfl, hba⟩ := hrel
          by_cases hlt : i < 16
          · have hki : (i : Int) < 16 := by omega
            have hil : i < ks.length := by rw [Hkn.out]; exact hlt
            have hlsl : ls.length = i := by rw [(rtsL_at hls).1, List.length_take]; omega
            obtain ⟨bk, ok, rfl, hr⟩ := RowOf.range ndcells_len (hk.below hba) i hil
            have hIs := (hks _ (List.getElem_mem hil)).kept hba
            have hbk := bulkN_mem (List.getElem_mem hil)
            have hbs := rtsL_sum hls
            have hns := rtsL_none (List.getElem_mem hil)
            have hst := fun l => rtsL_step hil (l := l) hls
            have htk : bulkNL (ks.take i) ≤ bulkNL ks := bulkNL_take ks i
            have c3 := fun (u : World) (hu : Below wr.heap.size wr u) => ih _ (List.getElem_mem hil) (q ++ [UInt8.ofNat i]) u (hIs.kept hu) (by have := Hq.out; rw [List.length_append]; simp only [List.length_singleton]; omega)
            have hlb : (pre q (bdP v ls)).length ≤ 1 + bulkNL ks := by
              rw [pre_len]; unfold bdP; rw [List.length_append, cat_len]
              have : (if v = [] then ([] : List Rt) else [([], v)]).length ≤ 1 := by split <;> simp
              omega
            have hrl := fun l (h : rts ks[i] = some l) => rts_len h
            obtain ⟨y, hy⟩ : ∃ y, y = ks[i] := ⟨_, rfl⟩
            rw [← hy] at hr hIs hbk hns
            simp only [← hy] at c3 hst hrl
            have hKl := ndcells_len y
            have hone := hIs.one
            obtain ⟨K, hK⟩ : ∃ K, K = ndcells y := ⟨_, rfl⟩
            simp only [← hK] at hr hKl hone c3
            obtain ⟨S2, hS2⟩ : ∃ S : ByteArray, S = ⟨(q ++ [UInt8.ofNat i]).toArray⟩ := ⟨_, rfl⟩
            simp only [← hS2] at c3
            rw [← ba_add] at hS2
            have hu8 : u8v (UInt8.ofNat i) = .int .u8 (i : Int) := by unfold u8v; rw [ofNat_nat (by omega)]
            have s109 : ∀ u : World, (convert 22 9 (.slice (some ⟨u.heap.size, 0, none⟩) 1 1)).run Try.prog (u.alloc (.cells #[.int .u8 (i : Int)] 5)) = .ok (str [UInt8.ofNat i]) (u.alloc (.cells #[.int .u8 (i : Int)] 5)) := by
              intro u
              have hb : Bytes (u.alloc (.cells #[.int .u8 (i : Int)] 5)) (.slice (some ⟨u.heap.size, 0, none⟩) 1 1) [UInt8.ofNat i] := by
                have := Row.built (f := b8) (size := 1) (fun _ => rfl) u 5 [UInt8.ofNat i] 1 rfl (by unfold maxLen; omega)
                rw [show ([UInt8.ofNat i] : List UInt8).flatMap b8 = [.int .u8 (i : Int)] from by rw [flat_b8]; simp only [List.map_cons, List.map_nil, hu8]] at this
                exact this
              exact run_str (P := Try.prog) (src := 22) (dst := 9) elU8.ht (by kernel_rfl) (by kernel_rfl) hb
            obtain ⟨T1, hT1⟩ : ∃ T : ByteArray, T = ⟨[UInt8.ofNat i].toArray⟩ := ⟨_, rfl⟩
            have hst1 : str [UInt8.ofNat i] = .string T1 := by rw [hT1]; rfl
            rw [hst1] at s109
            have hadd : (⟨q.toArray⟩ ++ T1 : ByteArray) = S2 := by rw [hT1]; exact hS2.symm
            have hT1s : T1.size = 1 := by rw [hT1]; rfl
            have hqs : (⟨q.toArray⟩ : ByteArray).size = q.length := str_size q
            have hwu : IntKind.u8.wrap (i : Int) = (i : Int) := by rw [IntKind.wrap_u8']; omega
            have hsm : ¬ 9223372036854775807 < q.length + 1 := by have := Hq.out; omega
            obtain ⟨av1, ac1, rfl, _⟩ := hown.form
            have hlo := OwnOf.lt hown
            have C3 := Lib.hid c3
            have HKl := Lib.hid hKl
            have Hone := Lib.hid hone
            have Hst := Lib.hid hst
            have Hns := Lib.hid hns
            have Hrl := Lib.hid hrl
            have Hlb := Lib.hid hlb
            have Hbk := Lib.hid hbk
            have Hlsl := Lib.hid hlsl
            obtain ⟨NL, hNL⟩ : ∃ n, n = (pre q (bdP v ls)).length := ⟨_, rfl⟩
            rw [← hNL] at hlb
            simp only [← hNL]
            rw [← hNL] at hown hlo
            have HNL := Lib.hid hNL
            cases hry : rts y with
            | none =>
              have hOn : O = none := by rw [HO.out, Hns.out hry]; rfl
              subst hOn
              rw [hry] at C3
              have C4 := Lib.hid (fun (u : World) (hu : Below wr.heap.size wr u) => (C3.out u hu : Calls Try.prog 61 #[.agg K.toArray, .string S2] u fun e w' => Below u.heap.size u w' ∧ e = .returned (.tuple #[.slice none 0 0, .bool false])))
              clear hIs hbk hy hK hKl hone hns hst hrl hbs htk c3 hlt hS2 hu8 hT1 hst1 hNL hry hls C3
              go_wp2_with (first
                                      | (refine wpList_loadW (o := ⟨some 102, _, _, _, _, _⟩) 25 (.tmp 101) (by rfl) bk (ok + i * 4) (by rfl) aggNode HKl.out hr (by rfl) ?_; have bA : Below wr.heap.size wr (wr.alloc (.cells #[.int .i64 0, .slice none 0 0, .slice none 0 0, .slice none 0 0] 25)) := (Below.refl _ _).alloc (Nat.le_refl _) _)
                                      | ((with_reducible show wpList _ _ _ (⟨none, Op.store _ _ (Operand.tmp 102), _, _, _, _⟩ :: _) _ _); refine wpList_storeA (o := ⟨none, _, _, _, _, _⟩) (by rfl) 25 (.tmp 10) (.tmp 102) (by rfl) wr.heap.size K (by rfl) (by rfl) aggNode (Blk.new wr 25 [.int .i64 0, .slice none 0 0, .slice none 0 0, .slice none 0 0]) HKl.out (by rfl) Hone.out bA (Nat.le_refl _) ?_; intro w5 h7 b5 _; have bb5 := Below.then hba b5)
                                      | (refine wpList_loadA (o := ⟨some 104, _, _, _, _, _⟩) (by rfl) 25 (.tmp 10) (by rfl) wr.heap.size (by rfl) aggNode h7 HKl.out ?_)
                                      | (go_at_call 61; (with_reducible refine (C4.out _ (b5.trans ((Below.refl _ _).alloc (Nat.le_refl _) _ |>.mono b5.size))).mono ?_); rintro e w6 ⟨b6, rfl⟩; have bb6 := Below.then (Below.then bb5 ((Below.refl _ _).alloc (Nat.le_refl _) _)) b6))
              go_ret2
              exact ⟨bb6, rfl⟩
            | some l =>
              have hls' := Hst.out l hry
              have hll := Hrl.out l hry
              rw [hry] at C3
              have C4 := Lib.hid (fun (u : World) (hu : Below wr.heap.size wr u) => (C3.out u hu : Calls Try.prog 61 #[.agg K.toArray, .string S2] u fun e w' => Below u.heap.size u w' ∧ ∃ (a : Option Addr) (n c : Nat), e = .returned (.tuple #[.slice a n c, .bool true]) ∧ RowOf rcells 2 w' (.slice a n c) (pre (q ++ [UInt8.ofNat i]) l)))
              have hbd : pre q (bdP v ls) ++ pre (q ++ [UInt8.ofNat i]) l = pre q (bdP v (ls ++ [l])) := by rw [bd_snoc, pre_app, pre_pre, hlsl]
              have Hbd := Lib.hid hbd
              have hb1 : ((pre q (bdP v ls)).length + (pre (q ++ [UInt8.ofNat i]) l).length) * 32 ≤ 140737488355328 := by rw [pre_len (q ++ _)]; have := Hq.out; have := Hlb.out; omega
              have hb2 : (pre q (bdP v ls)).length + (pre (q ++ [UInt8.ofNat i]) l).length ≤ maxLen := by unfold maxLen; omega
              have Hb1 := Lib.hid hb1
              have Hb2 := Lib.hid hb2
              clear hIs hbk hy hK hKl hone hns hst hrl hbs htk c3 hlt hS2 hu8 hT1 hst1 hNL hry hls C3 hbd hll hb1 hb2 hlb
              go_wp2_with (first
                                      | (refine wpList_loadW (o := ⟨some 102, _, _, _, _, _⟩) 25 (.tmp 101) (by rfl) bk (ok + i * 4) (by rfl) aggNode HKl.out hr (by rfl) ?_; have bA : Below wr.heap.size wr (wr.alloc (.cells #[.int .i64 0, .slice none 0 0, .slice none 0 0, .slice none 0 0] 25)) := (Below.refl _ _).alloc (Nat.le_refl _) _)
                                      | ((with_reducible show wpList _ _ _ (⟨none, Op.store _ _ (Operand.tmp 102), _, _, _, _⟩ :: _) _ _); refine wpList_storeA (o := ⟨none, _, _, _, _, _⟩) (by rfl) 25 (.tmp 10) (.tmp 102) (by rfl) wr.heap.size K (by rfl) (by rfl) aggNode (Blk.new wr 25 [.int .i64 0, .slice none 0 0, .slice none 0 0, .slice none 0 0]) HKl.out (by rfl) Hone.out bA (Nat.le_refl _) ?_; intro w5 h7 b5 _; have bb5 := Below.then hba b5)
                                      | (refine wpList_loadA (o := ⟨some 104, _, _, _, _, _⟩) (by rfl) 25 (.tmp 10) (by rfl) wr.heap.size (by rfl) aggNode h7 HKl.out ?_)
                                      | (go_at_call 61; (with_reducible refine (C4.out _ (b5.trans ((Below.refl _ _).alloc (Nat.le_refl _) _ |>.mono b5.size))).mono ?_); rintro e w6 ⟨b6, a6, n6, c6, rfl, h6⟩; have bb6a := Below.then (Below.then b5 ((Below.refl _ _).alloc (Nat.le_refl _) _)) b6; have bb6 := Below.then hba bb6a; have o6 := hown.kept bb6a)
                                      | (refine wpList_appA (o := ⟨some 118, _, _, _, _, _⟩) (by rfl) (.tmp 116) (.tmp 117) 112 (by rfl) elRt (by rfl) o6 (by rfl) h6 bb6.size Hb1.out Hb2.out ?_; intro v7 w7 o7 g7 _; have b7 := bb6.grown g7 bb6.size hlo; rw [Hbd.out] at o7))
              go_roundw
              case rel => exact ⟨i + 1, ls ++ [l], by omega, hls', o7, by go_num, b7⟩
              case measure => simp [intOf]; omega
          · obtain rfl : i = 16 := by omega
            have htk : ks.take 16 = ks := by rw [← Hkn.out, List.take_length]
            rw [htk] at hls
            have hOn : O = some (bdP v ls) := by rw [HO.out, hls]; rfl
            subst hOn
            obtain ⟨av1, ac1, rfl, _⟩ := hown.form
            have hrowE := hown.row
            clear htk hls hown
            go_wp2_with fail
            go_ret2
            exact ⟨hba, _, _, _, rfl, hrowE⟩
end
end Go.Proofs.Ytnhbfnegpjkojaa
