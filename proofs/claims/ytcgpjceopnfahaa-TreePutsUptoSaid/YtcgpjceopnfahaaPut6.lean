/- tree.fork's tidy. -/
import Derived.Test.YtcgpjceopnfahaaPut5
set_option linter.unusedSimpArgs false
set_option linter.unusedVariables false
namespace Go.Proofs.Ytcgpjceopnfahaa
open Go.RowKit
theorem IsNv.kd_cl {w : World} {t : Nd} (h : IsNv w t) : (clN t).kd = t.kd := by
  cases h with
  | none pv p vv v kv ks => rfl
  | leaf pv p vv v kv ks hp hv => rfl
  | road pv p vv v kv k hp hk h => rfl
  | fork pv p vv v kv ks hv hl h => rfl
theorem IsNv.val {w : World} {t : Nd} (h : IsNv w t) : (t.kd = 0 ∧ nv t = .nilIface) ∨ (t.kd ≠ 0 ∧ ∃ ty x, nv t = .iface ty x) := by
  cases h with
  | none pv p vv v kv ks => exact .inl ⟨rfl, rfl⟩
  | leaf pv p vv v kv ks hp hv => exact .inr ⟨by simp [Nd.kd], _, _, rfl⟩
  | road pv p vv v kv k hp hk h => exact .inr ⟨by simp [Nd.kd], _, _, rfl⟩
  | fork pv p vv v kv ks hv hl h => exact .inr ⟨by simp [Nd.kd], _, _, rfl⟩
theorem cnt_snoc (l : List Pn) (k : Pn) : cntQ (l ++ [k]) = cntQ l + (if k.kd = 0 then 0 else 1) := by
  induction l with
  | nil => simp [cntQ]
  | cons x l ih => simp only [List.cons_append, cntQ, ih]; omega
theorem last_snoc : ∀ (l : List Pn) (k : Pn) (i a : Nat), lastQ (l ++ [k]) i a = if k.kd = 0 then lastQ l i a else i + l.length
  | [], k, i, a => rfl
  | x :: l, k, i, a => by
    simp only [List.cons_append, lastQ, List.length_cons]
    rw [last_snoc l k (i + 1)]
    split
    · rfl
    · omega
theorem last_lt : ∀ (l : List Pn) (i a : Nat), a < i + l.length ∨ (a = 0 ∧ i = 0 ∧ l = []) → lastQ l i a < i + l.length ∨ (lastQ l i a = a)
  | [], i, a, _ => .inr rfl
  | k :: l, i, a, h => by
    simp only [lastQ, List.length_cons]
    by_cases hk : k.kd = 0
    · rw [if_pos hk]
      by_cases hl : l = []
      · subst hl; exact .inr rfl
      · have := last_lt l (i + 1) a (.inl (by rcases h with h | ⟨_, _, h⟩; simp only [List.length_cons] at h; omega; cases h))
        omega
    · rw [if_neg hk]
      have := last_lt l (i + 1) i (.inl (by omega))
      omega
theorem last16 (l : List Pn) (h : l.length = 16) : lastQ l 0 0 < 16 := by
  have := last_lt l 0 0 (.inl (by omega))
  omega
theorem aggKids : Agg Try.prog 100 16 := ⟨_, Try.underlying100, rfl, by kernel_rfl⟩
theorem index_node (KC : List Value) (i : Nat) (hi : i < 16) (v : Value) (h : KC[i]? = some v) (w : World) : (Instr.index 100 (.agg KC.toArray) (.int .i64 (i : Int))).run Try.prog w = .ok v w := by
  have hsz : (sizeOf 50).run Try.prog w = .ok 1 w := by kernel_rfl
  have hagg : (isAgg 50).run Try.prog w = .ok false w := by kernel_rfl
  have hp : (part 50 KC.toArray i).run Try.prog w = .ok v w := by
    unfold part
    rw [Sem.run_bind, hagg]
    simp [h]
  unfold Instr.index
  simp only [asIntOf, Sem.run_bind, Sem.run_pure, run_underlying (show Try.prog.underlying 100 = some (.array 16 50) from Try.underlying100), Result.andThen_ok]
  rw [if_pos (by omega)]
  simp only [Sem.run_bind, hsz, Result.andThen_ok]
  simpa using hp
section
variable (va : Option Addr) (vn vc : Nat) (u : List UInt8) (ks : List Nd) (w : World)
set_option maxHeartbeats 4000000 in
set_option maxRecDepth 100000 in
theorem tidy_any (hvn : u.length = vn) (hks : ks.length = 16) (hv : Bytes w (.slice va vn vc) u) (hk : ∀ k ∈ ks, IsNv w k) (hpl : ∀ k ∈ ks, k.path.length ≤ 1000000000) :
    Calls Try.prog 46 #[.agg (nvL ks ++ [Value.slice va vn vc]).toArray] w (NvPost (tidyQ u (clNL ks)) w) := by
  obtain ⟨FC, hFC⟩ : ∃ FC, FC = nvL ks ++ [Value.slice va vn vc] := ⟨_, rfl⟩
  have hNl : (nvL ks).length = 16 := by rw [nvL_map]; simp [hks]
  have hat : ∀ i (hi : i < 16), (nvL ks)[i]? = some (nv (ks[i]'(by omega))) := by
    intro i hi
    rw [nvL_map, List.getElem?_map, List.getElem?_eq_getElem (by omega)]; rfl
  have hFl : FC.length = 17 := by rw [hFC]; simp [hNl]
  have h16 : FC[16]? = some (.slice va vn vc) := by rw [hFC, List.getElem?_append_right (by omega), hNl]; rfl
  have hFi : ∀ i (hi : i < 16), FC[i]? = some (nv (ks[i]'(by omega))) := by
    intro i hi
    rw [hFC, List.getElem?_append_left (by omega)]; exact hat i hi
  have hF1 : ∀ x ∈ FC, x.oneCell' = true := by
    rw [hFC]
    intro x hx
    rcases List.mem_append.1 hx with hx | hx
    · exact nvL_one ks x hx
    · rw [List.mem_singleton] at hx; subst hx; rfl
  have hpre : ∀ (j : Nat) v, (nvL ks)[j]? = some v → FC[j]? = some v := by
    intro j v h
    rw [hFC, List.getElem?_append_left (List.getElem?_eq_some_iff.1 h).1]; exact h
  obtain ⟨w1, hw1⟩ : ∃ w1, w1 = w.alloc (.cells FC.toArray 102) := ⟨_, rfl⟩
  have hz : Blk 102 w1 w.heap.size FC := by rw [hw1]; exact Blk.new w _ _
  have hbel : Below w.heap.size w w1 := by rw [hw1]; exact (Below.refl _ _).alloc (Nat.le_refl _) _
  have r16 : w1.rangeAt w.heap.size 0 (nvL ks) := fun j v hv => by rw [Nat.zero_add, hz.cell]; exact hpre j v hv
  have c16 := (hz.cell 16).trans h16
  have c16' := c16
  rw [hw1] at c16'
  obtain ⟨KC, hKC⟩ : ∃ KC, KC = nvL ks := ⟨_, rfl⟩
  have hnf : nv (.mk 3 (.slice none 0 0) [] (.slice va vn vc) u (.slice none 0 0) ks) = .iface 102 (.agg FC.toArray) := by rw [hFC]; rfl
  rw [← hFC]
  rw [← hKC] at r16 hNl
  have Hat : Hid (∀ i < 16, KC[i]? = some (nv (ks.getD i nilN))) := Lib.hid (fun i hi => by rw [hKC, hat i hi, List.getD_eq_getElem?_getD, List.getElem?_eq_getElem (by omega)]; rfl)
  have HFi : Hid (∀ i < 16, FC[i]? = some (nv (ks.getD i nilN))) := Lib.hid (fun i hi => by rw [hFi i hi, List.getD_eq_getElem?_getD, List.getElem?_eq_getElem (by omega)]; rfl)
  have HFl := Lib.hid hFl
  have HF1 := Lib.hid hF1
  have Hw1 := Lib.hid hw1
  have Hnf := Lib.hid hnf
  have Hks := Lib.hid hks
  have Hvn := Lib.hid hvn
  have Hv := Lib.hid hv
  have Hmem : Hid (∀ i < 16, ks.getD i nilN ∈ ks) := Lib.hid (fun i hi => by rw [List.getD_eq_getElem?_getD, List.getElem?_eq_getElem (by omega)]; exact List.getElem_mem _)
  have Hk := Lib.hid hk
  have Hpl := Lib.hid hpl
  have HNl := Lib.hid hNl
  clear hat hFi hF1 hpre hw1 hFC hKC hnf hks hv hk hpl hNl hFl h16 hvn
  obtain ⟨M0, hM0⟩ : ∃ M0, M0 = min vn 1 := ⟨_, rfl⟩
  have HM0 := Lib.hid hM0
  rcases (by omega : (1 : Int) < (vn : Int) ∨ ¬ (1 : Int) < (vn : Int)) with hm | hm
  all_goals
    have hMv : min u.length 1 = M0 := by rw [Hvn.out]; exact HM0.out.symm
    have hM01 : M0 ≤ 1 := by have := HM0.out; omega
    have hMi : (if (1 : Int) < (vn : Int) then 1 else (vn : Int)) = (M0 : Int) := by have := HM0.out; split <;> omega
    have HMv := Lib.hid hMv
    clear hMv hM0
    go_enter Try.func46, Try.ntmps46
    go_wp2_with ((with_reducible show wpList _ _ _ (⟨some 12, _, _, _, _, _⟩ :: _) _ _); refine wpList_loadW (o := ⟨some 12, _, _, _, _, _⟩) 100 (.tmp 11) (by rfl) w.heap.size 0 (by rfl) aggKids HNl.out (by rw [← Hw1.out]; exact r16) (by rfl) ?_)
    rw [show w.alloc (.cells FC.toArray 102) = w1 from Hw1.out.symm]
    go_loopw [3, 4, 13] (fun mx lx ix wr => ∃ i M L : Nat, i ≤ 16 ∧ ix = .int .i64 (i : Int) ∧ mx = .int .i64 (M : Int) ∧ lx = .int .i64 (L : Int) ∧ M = M0 + cntQ ((clNL ks).take i) ∧ M ≤ 1 + i ∧ L = lastQ ((clNL ks).take i) 0 0 ∧ L ≤ 16 ∧ Below w1.heap.size w1 wr) (fun _ _ ix _ => 16 - (intOf ix).toNat)
    case atStart => exact ⟨0, M0, 0, by omega, rfl, by rw [← hMi]; split <;> (first | rfl | (simp; omega)), rfl, rfl, by omega, rfl, by omega, Below.refl _ _⟩
    case round =>
      obtain ⟨i, M, L, hi, rfl, rfl, rfl, hM, hM1, hL, hL16, bwr⟩ := hrel
      have bw := Below.then hbel bwr
      by_cases hlt : i < 16
      · have hz1 : (i : Int) < 16 := by omega
        have hxi := Hat.out i hlt
        have hki := Hk.out _ (Hmem.out i hlt)
        have htk : (clNL ks).take (i + 1) = (clNL ks).take i ++ [clN (ks.getD i nilN)] := by
          have hl : (clNL ks).length = 16 := by rw [clNL_map, List.length_map]; exact Hks.out
          rw [List.take_succ_eq_append_getElem (by omega)]
          congr 2
          have h1 : (clNL ks)[i]? = some (clN (ks.getD i nilN)) := by
            rw [clNL_map, List.getElem?_map, List.getD_eq_getElem?_getD, List.getElem?_eq_getElem (by have := Hks.out; omega)]; rfl
          rw [List.getElem?_eq_getElem (by omega)] at h1
          exact Option.some.inj h1
        have hc := cnt_snoc ((clNL ks).take i) (clN (ks.getD i nilN))
        have hl := last_snoc ((clNL ks).take i) (clN (ks.getD i nilN)) 0 0
        have htl : ((clNL ks).take i).length = i := by rw [List.length_take, clNL_map, List.length_map, Hks.out]; omega
        rw [← htk, hki.kd_cl] at hc hl
        rw [htl] at hl
        have hwM : IntKind.i64.wrap ((M : Int) + 1) = ((M + 1 : Nat) : Int) := by rw [IntWalk.i64_in _ (by omega)]; omega
        have hwi : IntKind.i64.wrap ((i : Int) + 1) = ((i + 1 : Nat) : Int) := by rw [IntWalk.i64_in _ (by omega)]; omega
        rcases hki.val with ⟨h0, hv0⟩ | ⟨h0, ty, x, hvx⟩
        · rw [hv0] at hxi
          have hix := index_node KC i hlt _ hxi
          rw [if_pos h0] at hc hl
          have Hc := Lib.hid hc
          have Hl := Lib.hid hl
          have HM := Lib.hid hM
          have HL := Lib.hid hL
          clear hc hl hv0 h0 htk hM hL htl
          go_wp2_with fail
          go_roundw
          case rel => exact ⟨i + 1, M, L, by omega, by go_num, rfl, rfl, by have := Hc.out; have := HM.out; omega, by omega, by rw [Hl.out, HL.out], hL16, bwr⟩
          case measure => simp [intOf]; omega
        · rw [hvx] at hxi
          have hix := index_node KC i hlt _ hxi
          rw [if_neg h0] at hc hl
          have Hc := Lib.hid hc
          have Hl := Lib.hid hl
          have HM := Lib.hid hM
          have HL := Lib.hid hL
          clear hc hl hvx h0 htk hM hL htl
          go_wp2_with fail
          go_roundw
          case rel => exact ⟨i + 1, M + 1, i, by omega, by go_num, by go_num, rfl, by have := Hc.out; have := HM.out; omega, by omega, by rw [Hl.out, Nat.zero_add], by omega, bwr⟩
          case measure => simp [intOf]; omega
      · obtain rfl : i = 16 := by omega
        have hz1 : ¬ ((16 : Nat) : Int) < 16 := by omega
        have hall : (clNL ks).take 16 = clNL ks := List.take_of_length_le (by rw [clNL_map, List.length_map, Hks.out]; exact Nat.le_refl _)
        rw [hall] at hM hL
        have c16w : wr.cell? ⟨w.heap.size, 16, none⟩ = some (.slice va vn vc) := by rw [bwr.cell (World.block_lt_of_cell? w1 _ c16)]; exact c16
        have hzw := hz.kept bwr
        have hrw := hzw.all0
        have HRes : Hid (tidyQ u (clNL ks) = if 2 ≤ M then .mk 3 [] u (clNL ks) else if M = 0 then nP else if 0 < vn then .mk 1 [] u [] else behindQ [UInt8.ofNat L] ((clNL ks)[L]?.getD nP)) := Lib.hid (by unfold tidyQ; rw [HMv.out, ← hM, ← hL, Hvn.out])
        have hL15 : L < 16 := by rw [hL]; exact last16 _ (by rw [clNL_map, List.length_map]; exact Hks.out)
        by_cases h2 : 2 ≤ M
        · have hz2 : (2 : Int) ≤ (M : Int) := by omega
          clear hM hL
          go_wp2_with ((with_reducible show wpList _ _ _ (⟨some 26, _, _, _, _, _⟩ :: _) _ _); refine wpList_loadW (o := ⟨some 26, _, _, _, _, _⟩) 102 (.tmp 1) (by rfl) w.heap.size 0 (by rfl) aggFork HFl.out hrw (by rfl) ?_)
          go_ret
          exact ⟨.mk 3 (.slice none 0 0) [] (.slice va vn vc) u (.slice none 0 0) ks, congrArg Ending.returned Hnf.out.symm, bw, .fork _ _ _ _ _ _ (Hv.out.below bw) Hks.out (fun k hk => (Hk.out k hk).kept bw), by rw [HRes.out, if_pos h2]; rfl⟩
        · have hz2 : ¬ (2 : Int) ≤ (M : Int) := by omega
          by_cases h0 : M = 0
          · have hz3 : ((M : Int) == 0) = true := beq_iff_eq.2 (by omega)
            clear hM hL
            go_wp2_with fail
            go_ret
            exact ⟨nilN, rfl, bw, IsNv.nil _, by rw [HRes.out, if_neg h2, if_pos h0]; rfl⟩
          · have hz3 : ((M : Int) == 0) = false := beq_eq_false_iff_ne.2 (by omega)
            by_cases hv0 : 0 < vn
            · have hz4 : (0 : Int) < (vn : Int) := by omega
              clear hM hL
              go_wp2_with fail
              go_ret
              exact ⟨.mk 1 (.slice none 0 0) [] (.slice va vn vc) u (.slice none 0 0) [], rfl, bw, .leaf _ _ _ _ _ _ (RowOf.nil b8 1 _) (Hv.out.below bw), by rw [HRes.out, if_neg h2, if_neg h0, if_pos hv0]; rfl⟩
            · have hz4 : ¬ (0 : Int) < (vn : Int) := by omega
              clear hM hL hm hMi
              have hcL : wr.cell? ⟨w.heap.size, L, none⟩ = some (nv (ks.getD L nilN)) := (hzw.cell L).trans (HFi.out L hL15)
              have hkL := Hk.out _ (Hmem.out L hL15)
              have hpL := Hpl.out _ (Hmem.out L hL15)
              have HeL : Hid ((clNL ks)[L]?.getD nP = clN (ks.getD L nilN)) := Lib.hid (by rw [clNL_map, List.getElem?_map, List.getD_eq_getElem?_getD, List.getElem?_eq_getElem (by have := Hks.out; omega)]; rfl)
              have hcv : IntKind.u8.wrap (L : Int) = (L : Int) := IntWalk.u8_in _ ⟨by omega, by omega⟩
              have hLz : (L : Int) < 16 := by omega
              have cb : ∀ (g : Nat) (x : World), Blk 5 x g [.int .u8 (L : Int)] → Below wr.heap.size wr x → Calls Try.prog 76 #[.slice (some ⟨g, 0, none⟩) 1 1, nv (ks.getD L nilN)] x (NvPost (tidyQ u (clNL ks)) x) := fun g x hg hx => by
                rw [HRes.out, if_neg h2, if_neg h0, if_neg hv0, HeL.out]
                refine behind_any (some ⟨g, 0, none⟩) 1 1 [UInt8.ofNat L] rfl (by omega) _ hpL x ?_ (hkL.kept (Below.then bw hx))
                exact Blk.row hg [UInt8.ofNat L] 1 1 (fun _ => rfl) rfl (fun j y hy => by rw [flat_b8] at hy; simp only [List.map_cons, List.map_nil, u8v, ofNat_nat (show L < 256 by omega)] at hy; exact hy) (Nat.le_refl _) (by unfold maxLen; omega)
              have hcL2 : (wr.alloc (.cells #[.int .u8 (L : Int)] 5)).cell? ⟨w.heap.size, L, none⟩ = some (nv (ks.getD L nilN)) := by rw [((Below.refl wr.heap.size wr).alloc (Nat.le_refl _) (.cells #[.int .u8 (L : Int)] 5)).cell (World.block_lt_of_cell? wr _ hcL)]; exact hcL
              obtain ⟨VL, hVL⟩ : ∃ VL, VL = nv (ks.getD L nilN) := ⟨_, rfl⟩
              simp only [← hVL] at hcL hcL2 cb
              have Cb := Lib.hid cb
              clear cb hkL hpL hVL
              go_wp2_with (go_at_call 76; (with_reducible refine (Cb.out _ _ (Blk.new wr _ _) ((Below.refl _ _).alloc (Nat.le_refl _) _)).mono ?_); rintro e w5 ⟨t, rfl, b5, it, ct⟩; obtain ⟨VT, hVT⟩ : ∃ x, x = nv t := ⟨_, rfl⟩; rw [← hVT]; have HVT := Lib.hid hVT; clear hVT; have bA := ((Below.refl wr.heap.size wr).alloc (Nat.le_refl _) (.cells #[.int .u8 (L : Int)] 5)))
              go_ret
              exact ⟨t, by rw [← HVT.out]; rfl, Below.then bw (Below.then bA b5), it, ct⟩
end
end Go.Proofs.Ytcgpjceopnfahaa
