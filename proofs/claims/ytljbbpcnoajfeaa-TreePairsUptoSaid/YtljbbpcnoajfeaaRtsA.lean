/- The reference's routes: what it hands back; a leaf, nothing, something else. | The reference's routes: a road; nothing, something else. | The reference's routes: a fork; any node. | The reference's routes of any node; shorter. -/
import Derived.Test.YtljbbpcnoajfeaaNodeA
import Derived.Test.YtljbbpcnoajfeaaStr
/- (Rts1) The reference's routes: what it hands back; a leaf, nothing, something else. -/
set_option linter.unusedSimpArgs false
set_option linter.unusedVariables false
namespace Go.Proofs.Ytljbbpcnoajfeaa
open Go.RowKit
def rcells (r : Rt) : List Value := [.string ⟨r.1.toArray⟩, .string ⟨r.2.toArray⟩]
theorem elRt : El Try.prog 76 80 (.agg #[.string ByteArray.empty, .string ByteArray.empty]) 2 32 rcells := ⟨by kernel_rfl, by kernel_rfl, rfl, by omega, fun _ => rfl, fun x u hu => by
  simp only [rcells, List.mem_cons, List.not_mem_nil, or_false] at hu
  rcases hu with rfl | rfl <;> rfl⟩
theorem rtsL_len : ∀ {ks : List Nd} {ls : List (List Rt)}, rtsL ks = some ls → ls.length = ks.length := fun h => (rtsL_at h).1
theorem pre_app (q : List UInt8) (l m : List Rt) : pre q (l ++ m) = pre q l ++ pre q m := by unfold pre; rw [List.map_append]
theorem cat_snoc (ls : List (List Rt)) (l : List Rt) : ∀ j, cat j (ls ++ [l]) = cat j ls ++ pre [UInt8.ofNat (j + ls.length)] l := by
  induction ls with
  | nil => intro j; simp [cat]
  | cons x ls ih =>
    intro j
    simp only [List.cons_append, cat, ih, List.length_cons, List.append_assoc]
    rw [Nat.add_right_comm j 1, Nat.add_assoc]
theorem bd_snoc (v : List UInt8) (ls : List (List Rt)) (l : List Rt) : bdP v (ls ++ [l]) = bdP v ls ++ pre [UInt8.ofNat ls.length] l := by
  unfold bdP
  rw [cat_snoc, Nat.zero_add, List.append_assoc]
theorem rtsL_snoc : ∀ {ks : List Nd} {k : Nd} {ls : List (List Rt)} {l : List Rt}, rtsL ks = some ls → rts k = some l → rtsL (ks ++ [k]) = some (ls ++ [l])
  | [], k, ls, l, h, hk => by
    simp only [rtsL, Option.some.injEq] at h
    subst h
    simp [rtsL, hk]
  | x :: ks, k, ls, l, h, hk => by
    unfold rtsL at h
    cases h1 : rts x with
    | none => rw [h1] at h; simp at h
    | some m =>
      rw [h1] at h
      dsimp only at h
      cases h2 : rtsL ks with
      | none => rw [h2] at h; simp at h
      | some ms =>
        rw [h2] at h
        simp only [Option.some.injEq] at h
        subst h
        have := rtsL_snoc (ks := ks) (k := k) h2 hk
        simp [rtsL, h1, this]
theorem rtsL_step {ks : List Nd} {i : Nat} (hi : i < ks.length) {ls : List (List Rt)} {l : List Rt} (h : rtsL (ks.take i) = some ls) (hk : rts ks[i] = some l) : rtsL (ks.take (i + 1)) = some (ls ++ [l]) := by
  rw [List.take_succ_eq_append_getElem hi]
  exact rtsL_snoc h hk
theorem rtsL_none {ks : List Nd} {k : Nd} (hm : k ∈ ks) (hk : rts k = none) : rtsL ks = none := by
  cases h : rtsL ks with
  | none => rfl
  | some ls =>
    obtain ⟨i, hi⟩ := List.getElem?_of_mem hm
    obtain ⟨l, _, h2⟩ := (rtsL_at h).2 i k hi
    rw [hk] at h2
    simp at h2
theorem cat_len (ls : List (List Rt)) : ∀ j, (cat j ls).length = (ls.map List.length).sum := by
  induction ls with
  | nil => intro j; simp [cat]
  | cons l ls ih => intro j; simp only [cat, List.length_append, pre_len, ih, List.map_cons, List.sum_cons]
mutual
theorem rts_len : ∀ {t : Nd} {l : List Rt}, rts t = some l → l.length ≤ bulkN t
  | .mk kd pv p vv v kv ks, l, h => by
    unfold rts at h
    unfold bulkN
    split at h
    · simp at h
    · split at h
      · simp only [Option.some.injEq] at h; subst h; simp
      · split at h
        · simp only [Option.some.injEq] at h; subst h; simp; omega
        · split at h
          · cases hls : rtsL ks with
            | none => rw [hls] at h; simp at h
            | some ls =>
              rw [hls] at h
              simp only [Option.map_some, Option.some.injEq] at h
              subst h
              have := rtsL_sum hls
              rw [pre_len, List.length_flatten]
              omega
          · split at h
            · cases hls : rtsL ks with
              | none => rw [hls] at h; simp at h
              | some ls =>
                rw [hls] at h
                simp only [Option.map_some, Option.some.injEq] at h
                subst h
                have := rtsL_sum hls
                rw [List.length_append, cat_len]
                have : (if v = [] then ([] : List Rt) else [([], v)]).length ≤ 1 := by split <;> simp
                omega
            · simp at h
theorem rtsL_sum : ∀ {ks : List Nd} {ls : List (List Rt)}, rtsL ks = some ls → (ls.map List.length).sum ≤ bulkNL ks
  | [], ls, h => by
    simp only [rtsL, Option.some.injEq] at h
    subst h
    simp
  | k :: ks, ls, h => by
    unfold rtsL at h
    cases h1 : rts k with
    | none => rw [h1] at h; simp at h
    | some m =>
      rw [h1] at h
      dsimp only at h
      cases h2 : rtsL ks with
      | none => rw [h2] at h; simp at h
      | some ms =>
        rw [h2] at h
        simp only [Option.some.injEq] at h
        subst h
        have a := rts_len h1
        have b := rtsL_sum h2
        simp only [List.map_cons, List.sum_cons, bulkNL]
        omega
end
theorem ba_add (q p : List UInt8) : (⟨q.toArray⟩ ++ ⟨p.toArray⟩ : ByteArray) = ⟨(q ++ p).toArray⟩ := by
  apply ba_ext
  simp [ByteArray.data_append]
def RtsPost (q : List UInt8) (o : Option (List Rt)) (w : World) (e : Ending) (w' : World) : Prop :=
  Below w.heap.size w w' ∧ match o with
  | none => e = .returned (.tuple #[.slice none 0 0, .bool false])
  | some l => ∃ (a : Option Addr) (n c : Nat), e = .returned (.tuple #[.slice a n c, .bool true]) ∧ RowOf rcells 2 w' (.slice a n c) (pre q l)
def RtsC (N : Nat) (k : Nd) : Prop := ∀ (q : List UInt8) (u : World), IsNd u k → q.length + bulkN k ≤ N → Calls Try.prog 27 #[.agg (ndcells k).toArray, .string ⟨q.toArray⟩] u (RtsPost q (rts k) u)
section
variable (N : Nat) (hN : N ≤ 100000000000) (pa va ka : Option Addr) (pn pc vn vc kn kc : Nat) (p v : List UInt8) (ks : List Nd) (hpn : p.length = pn) (hvn : v.length = vn) (hkn : ks.length = kn) (q : List UInt8) (w : World)
  (hp : Bytes w (.slice pa pn pc) p) (hv : Bytes w (.slice va vn vc) v) (hk : RowOf ndcells 4 w (.slice ka kn kc) ks) (hks : ∀ k ∈ ks, IsNd w k)
include hN hpn hvn hp hv in
set_option maxHeartbeats 1000000 in
set_option maxRecDepth 100000 in
theorem routes_leaf (hq : q.length + pn + vn ≤ N) : Calls Try.prog 27 #[.agg #[.int .i64 1, .slice pa pn pc, .slice va vn vc, .slice ka kn kc], .string ⟨q.toArray⟩] w (RtsPost q (rts (.mk 1 (.slice pa pn pc) p (.slice va vn vc) v (.slice ka kn kc) ks)) w) := by
  have hR : rts (.mk 1 (.slice pa pn pc) p (.slice va vn vc) v (.slice ka kn kc) ks) = if half p = false then none else some [(p, v)] := by unfold rts; simp
  obtain ⟨O, hO⟩ : ∃ O, O = rts (.mk 1 (.slice pa pn pc) p (.slice va vn vc) v (.slice ka kn kc) ks) := ⟨_, rfl⟩
  rw [← hO]
  rw [hR] at hO
  have HO := Lib.hid hO
  clear hO
  obtain ⟨w1, hw1⟩ : ∃ w1, w1 = w.alloc (.cells #[.int .i64 1, .slice pa pn pc, .slice va vn vc, .slice ka kn kc] 25) := ⟨_, rfl⟩
  have hz : Blk 25 w1 w.heap.size [.int .i64 1, .slice pa pn pc, .slice va vn vc, .slice ka kn kc] := by rw [hw1]; exact Blk.new w _ _
  have hbel : Below w.heap.size w w1 := by rw [hw1]; exact (Below.refl _ _).alloc (Nat.le_refl _) _
  have k1 := (hz.cell 1).trans (show _ = some (Value.slice pa pn pc) from rfl)
  rw [hw1] at k1
  have Hw1 := Lib.hid hw1
  have Hpn := Lib.hid hpn
  have Hq := Lib.hid hq
  clear hw1 hR
  go_enter Try.func27, Try.ntmps27
  go_wp2_with fail
  rw [← Hw1.out]
  go_loopw [16] (fun ix wr => ∃ k : Nat, k ≤ pn ∧ ix = .int .i64 (k : Int) ∧ half (p.take k) = true ∧ Below w.heap.size w wr ∧ Blk 25 wr w.heap.size [.int .i64 1, .slice pa pn pc, .slice va vn vc, .slice ka kn kc]) (fun ix _ => pn - (intOf ix).toNat)
  case atStart => exact ⟨0, by omega, rfl, rfl, hbel, hz⟩
  case round =>
    obtain ⟨k, hkk, rfl, hall, hbr, hzr⟩ := hrel
    have k0 := (hzr.cell 0).trans (show _ = some (Value.int .i64 1) from rfl)
    by_cases hlt : k < pn
    · have hki : (k : Int) < (pn : Int) := by omega
      have hkl : k < p.length := by rw [Hpn.out]; exact hlt
      obtain ⟨b, off, rfl, hc⟩ := Bytes.at (hp.below hbr) k hkl
      obtain ⟨x, hx⟩ : ∃ x, x = p[k] := ⟨_, rfl⟩
      rw [← hx] at hc
      have hst := half_step p k hkl
      rw [hall, ← hx, Bool.true_and] at hst
      have Hx := Lib.hid hx
      by_cases h15 : x.toNat ≤ 15
      · have hi15 : (x.toNat : Int) ≤ 15 := by omega
        rw [decide_eq_true h15] at hst
        clear hx hall
        go_wp2
        go_roundw
        case rel => exact ⟨k + 1, by omega, by go_num, hst, hbr, hzr⟩
        case measure => simp [intOf]; omega
      · have hi15 : (15 : Int) < (x.toNat : Int) := by omega
        have hRf : half p = false := half_not hkl (by rw [← Hx.out]; exact h15)
        have hOn : O = none := by rw [HO.out, if_pos hRf]
        subst hOn
        clear hx hall hst hRf
        go_wp2
        go_ret2
        exact ⟨hbr, rfl⟩
    · obtain rfl : k = pn := by omega
      have hRt : ¬ half p = false := by rw [← Hpn.out, List.take_length] at hall; rw [hall]; simp
      have hOn : O = some [(p, v)] := by rw [HO.out, if_neg hRt]
      subst hOn
      clear hRt
      have k1 := (hzr.cell 1).trans (show _ = some (Value.slice pa k pc) from rfl)
      have k2 := (hzr.cell 2).trans (show _ = some (Value.slice va vn vc) from rfl)
      have c1 := run_str (P := Try.prog) (src := 22) (dst := 9) elU8.ht (by kernel_rfl) (by kernel_rfl) (hp.below hbr)
      have c2 := run_str (P := Try.prog) (src := 22) (dst := 9) elU8.ht (by kernel_rfl) (by kernel_rfl) (hv.below hbr)
      obtain ⟨S1, hS1⟩ : ∃ S : ByteArray, S = ⟨q.toArray⟩ ++ ⟨p.toArray⟩ := ⟨_, rfl⟩
      have hrow := Row.built (f := rcells) (size := 2) (fun _ => rfl) wr 80 [(q ++ p, v)] 1 rfl (by unfold maxLen; omega)
      rw [show ([(q ++ p, v)] : List Rt).flatMap rcells = [.string S1, .string ⟨v.toArray⟩] from by rw [hS1, ba_add]; rfl] at hrow
      rw [hS1] at hrow
      have Hrow := Lib.hid hrow
      clear hall hlt hS1 hrow
      go_wp2
      go_ret2
      exact ⟨hbr.alloc hbr.size _, _, _, _, rfl, Hrow.out⟩
end
end Go.Proofs.Ytljbbpcnoajfeaa
/- (Rts2) The reference's routes: a road; nothing, something else. -/
namespace Go.Proofs.Ytljbbpcnoajfeaa
open Go.RowKit
def RtT (l : List Rt) : Ty := fun v w => ∃ (a : Option Addr) (n c : Nat), v = .slice a n c ∧ RowOf rcells 2 w (.slice a n c) l
theorem RtT.mono (l : List Rt) : Mono (RtT l) := fun _ _ _ ⟨a, n, c, h, h2⟩ hb => ⟨a, n, c, h, h2.below hb⟩
def RtTup (l : List Rt) : Ty := fun v w => ∃ (a : Option Addr) (n c : Nat), v = .tuple #[.slice a n c, .bool true] ∧ RowOf rcells 2 w (.slice a n c) l
theorem RtTup.mono (l : List Rt) : Mono (RtTup l) := fun _ _ _ ⟨a, n, c, h, h2⟩ hb => ⟨a, n, c, h, h2.below hb⟩
section
variable (N : Nat) (hN : N ≤ 100000000000) (pa va ka : Option Addr) (pn pc vn vc kn kc : Nat) (p v : List UInt8) (ks : List Nd) (hpn : p.length = pn) (hvn : v.length = vn) (hkn : ks.length = kn) (q : List UInt8) (w : World)
  (hp : Bytes w (.slice pa pn pc) p) (hv : Bytes w (.slice va vn vc) v) (hk : RowOf ndcells 4 w (.slice ka kn kc) ks) (hks : ∀ k ∈ ks, IsNd w k)
include hN hpn hkn hp hk hks in
set_option maxHeartbeats 2000000 in
set_option maxRecDepth 100000 in
theorem routes_road (ih : ∀ k ∈ ks, RtsC N k) (hq : q.length + 1 + pn + bulkNL ks ≤ N) : Calls Try.prog 27 #[.agg #[.int .i64 2, .slice pa pn pc, .slice va vn vc, .slice ka kn kc], .string ⟨q.toArray⟩] w (RtsPost q (rts (.mk 2 (.slice pa pn pc) p (.slice va vn vc) v (.slice ka kn kc) ks)) w) := by
  have hR : rts (.mk 2 (.slice pa pn pc) p (.slice va vn vc) v (.slice ka kn kc) ks) = if half p = false then none else if kn = 1 then (rtsL ks).map fun l => pre p l.flatten else none := by unfold rts; rw [hkn]; simp
  obtain ⟨O, hO⟩ : ∃ O, O = rts (.mk 2 (.slice pa pn pc) p (.slice va vn vc) v (.slice ka kn kc) ks) := ⟨_, rfl⟩
  rw [← hO]
  rw [hR] at hO
  have HO := Lib.hid hO
  clear hO
  obtain ⟨w1, hw1⟩ : ∃ w1, w1 = w.alloc (.cells #[.int .i64 2, .slice pa pn pc, .slice va vn vc, .slice ka kn kc] 25) := ⟨_, rfl⟩
  have hz : Blk 25 w1 w.heap.size [.int .i64 2, .slice pa pn pc, .slice va vn vc, .slice ka kn kc] := by rw [hw1]; exact Blk.new w _ _
  have hbel : Below w.heap.size w w1 := by rw [hw1]; exact (Below.refl _ _).alloc (Nat.le_refl _) _
  have k1 := (hz.cell 1).trans (show _ = some (Value.slice pa pn pc) from rfl)
  rw [hw1] at k1
  have Hw1 := Lib.hid hw1
  have Hpn := Lib.hid hpn
  have Hkn := Lib.hid hkn
  have Hq := Lib.hid hq
  clear hw1 hR
  go_enter Try.func27, Try.ntmps27
  go_wp2_with fail
  rw [← Hw1.out]
  go_loopw [16] (fun ix wr => ∃ k : Nat, k ≤ pn ∧ ix = .int .i64 (k : Int) ∧ half (p.take k) = true ∧ Below w.heap.size w wr ∧ Blk 25 wr w.heap.size [.int .i64 2, .slice pa pn pc, .slice va vn vc, .slice ka kn kc]) (fun ix _ => pn - (intOf ix).toNat)
  case atStart => exact ⟨0, by omega, rfl, rfl, hbel, hz⟩
  case round =>
    obtain ⟨k, hkk, rfl, hall, hbr, hzr⟩ := hrel
    have k0 := (hzr.cell 0).trans (show _ = some (Value.int .i64 2) from rfl)
    by_cases hlt : k < pn
    · have hki : (k : Int) < (pn : Int) := by omega
      have hkl : k < p.length := by rw [Hpn.out]; exact hlt
      obtain ⟨b, off, rfl, hc⟩ := Bytes.at (hp.below hbr) k hkl
      obtain ⟨x, hx⟩ : ∃ x, x = p[k] := ⟨_, rfl⟩
      rw [← hx] at hc
      have hst := half_step p k hkl
      rw [hall, ← hx, Bool.true_and] at hst
      have Hx := Lib.hid hx
      by_cases h15 : x.toNat ≤ 15
      · have hi15 : (x.toNat : Int) ≤ 15 := by omega
        rw [decide_eq_true h15] at hst
        clear hx hall
        go_wp2
        go_roundw
        case rel => exact ⟨k + 1, by omega, by go_num, hst, hbr, hzr⟩
        case measure => simp [intOf]; omega
      · have hi15 : (15 : Int) < (x.toNat : Int) := by omega
        have hRf : half p = false := half_not hkl (by rw [← Hx.out]; exact h15)
        have hOn : O = none := by rw [HO.out, if_pos hRf]
        subst hOn
        clear hx hall hst hRf
        go_wp2
        go_ret2
        exact ⟨hbr, rfl⟩
    · obtain rfl : k = pn := by omega
      have hRt : ¬ half p = false := by rw [← Hpn.out, List.take_length] at hall; rw [hall]; simp
      have hO2 : O = if kn = 1 then (rtsL ks).map fun l => pre p l.flatten else none := by rw [HO.out, if_neg hRt]
      have HO2 := Lib.hid hO2
      have m1 := (hzr.cell 1).trans (show _ = some (Value.slice pa k pc) from rfl)
      have m3 := (hzr.cell 3).trans (show _ = some (Value.slice ka kn kc) from rfl)
      clear hRt hO2 HO hall hlt hkn
      by_cases h1 : kn = 1
      · subst h1
        obtain ⟨y, rfl⟩ := List.length_eq_one_iff.1 Hkn.out
        obtain ⟨bk, ok, rfl, hr⟩ := RowOf.range ndcells_len (hk.below hbr) 0 (by simp)
        simp only [List.getElem_cons_zero, Nat.zero_mul, Nat.add_zero] at hr
        have hIs := (hks y List.mem_cons_self).kept hbr
        have hbk : bulkNL [y] = bulkN y := by simp [bulkNL]
        have c2 := fun (u : Ext wr) => ih y List.mem_cons_self (q ++ p) u.val (u.nd hIs) (by rw [hbk] at hq; rw [List.length_append, Hpn.out]; omega)
        have c1 := fun u : Ext wr => run_str (P := Try.prog) (src := 22) (dst := 9) elU8.ht (by kernel_rfl) (by kernel_rfl) (u.row (hp.below hbr))
        obtain ⟨S1, hS1⟩ : ∃ S : ByteArray, S = ⟨(q ++ p).toArray⟩ := ⟨_, rfl⟩
        simp only [← hS1] at c2
        rw [← ba_add] at hS1
        have hsm : ¬ 9223372036854775807 < q.length + k := by have := Hq.out; omega
        have hadd : (⟨q.toArray⟩ ++ ⟨p.toArray⟩ : ByteArray) = S1 := hS1.symm
        have hKl := ndcells_len y
        obtain ⟨K, hK⟩ : ∃ K, K = ndcells y := ⟨_, rfl⟩
        simp only [← hK] at hr hKl c2
        have j1 := fun u : Ext wr => u.cell m1
        have j3 := fun u : Ext wr => u.cell m3
        have HKl := Lib.hid hKl
        have Hr := Lib.hid hr
        cases hy : rts y with
        | none =>
          have hOn : O = none := by rw [HO2.out, if_pos rfl, rtsL_none List.mem_cons_self hy]; rfl
          subst hOn
          rw [hy] at c2
          have c4 : ∀ u : Ext wr, Calls Try.prog 27 #[.agg K.toArray, .string S1] u.val fun e w' => e = .returned (.tuple #[.slice none 0 0, .bool false]) ∧ Below u.val.heap.size u.val w' := fun u => (c2 u).mono fun _ _ h => ⟨h.2, h.1⟩
          have C4 := Lib.hid c4
          clear hS1 hK hIs hbk hq hr hKl c2 c4 hy hk hks ih
          go_wp2_with fail
          clear m1 m3
          refine wp_region_typed wr 12 (by kernel_rfl) (by kernel_rfl) (Below.refl _ _) ?_; simp only [List.take_succ_cons, List.take_zero, List.take_nil]
          iterate 3 (refine wpX_step (by rfl) (fun K hK => ?_); go_simp; first | (refine hK _ ?_; clear hK K) | (apply Exists.intro; refine ⟨fun _ => ?_, hK _ ?_⟩; fail; clear hK K))
          (refine wpX_step (by rfl) (fun K hK => ?_); rw [if_pos (by rfl)]; refine ⟨_, fun u => const_loadm _ (.tmp 63) (by rfl) _ _ (by rfl) aggNode HKl.out (rangeAt.ext Hr.out u), hK _ ?_⟩; clear hK K; simp only [Act.put, List.setIfInBounds_toArray, List.set_cons_zero, List.set_cons_succ])
          iterate 5 (refine wpX_step (by rfl) (fun K hK => ?_); go_simp; first | (refine hK _ ?_; clear hK K) | (apply Exists.intro; refine ⟨fun _ => ?_, hK _ ?_⟩; fail; clear hK K))
          (refine wpX_step (by rfl) (fun K hK => ?_); go_simp; first | (refine hK _ ?_; clear hK K) | (apply Exists.intro; refine ⟨fun _ => ?_, hK _ ?_⟩; exact C4.out _; clear hK K))
          iterate 2 (refine wpX_step (by rfl) (fun K hK => ?_); go_simp; first | (refine hK _ ?_; clear hK K) | (apply Exists.intro; refine ⟨fun _ => ?_, hK _ ?_⟩; fail; clear hK K))
          refine wpX_nil ?_
          intro u2 hb2
          simp only [List.reverse_nil, forallRel]
          change wpList _ _ _ [_, _] _ _
          go_wp2_with fail
          go_ret2
          exact ⟨Below.then hbr hb2, rfl⟩
        | some l =>
          have hOn : O = some (pre p l) := by rw [HO2.out, if_pos rfl]; simp [rtsL, hy]
          subst hOn
          rw [hy] at c2
          have C2 := Lib.hid c2
          clear hS1 hK hIs hbk hq hr hKl c2 hy hk hks ih
          go_wp2_with fail
          clear m1 m3
          refine wp_region_typed wr 12 (by kernel_rfl) (by kernel_rfl) (Below.refl _ _) ?_; simp only [List.take_succ_cons, List.take_zero, List.take_nil]
          iterate 3 (refine wpX_step (by rfl) (fun K hK => ?_); go_simp; first | (refine hK _ ?_; clear hK K) | (apply Exists.intro; refine ⟨fun _ => ?_, hK _ ?_⟩; fail; clear hK K))
          (refine wpX_step (by rfl) (fun K hK => ?_); rw [if_pos (by rfl)]; refine ⟨_, fun u => const_loadm _ (.tmp 63) (by rfl) _ _ (by rfl) aggNode HKl.out (rangeAt.ext Hr.out u), hK _ ?_⟩; clear hK K; simp only [Act.put, List.setIfInBounds_toArray, List.set_cons_zero, List.set_cons_succ])
          iterate 5 (refine wpX_step (by rfl) (fun K hK => ?_); go_simp; first | (refine hK _ ?_; clear hK K) | (apply Exists.intro; refine ⟨fun _ => ?_, hK _ ?_⟩; fail; clear hK K))
          refine wpX_rel 70 (RtTup (pre (q ++ p) l)) rfl (of_decide_eq_true rfl) (RtTup.mono _) (fun w6 hw6 => ?_) ?_
          · simp only [relOf, List.filter_nil, forallRel]
            refine ⟨rfl, ?_⟩
            go_simp
            refine (C2.out ⟨w6, hw6⟩).mono ?_
            rintro e w7 ⟨b7, a, n, c, rfl, h7⟩
            exact ⟨_, rfl, ⟨a, n, c, rfl, h7⟩, b7⟩
          refine wpX_rel 71 (RtT (pre (q ++ p) l)) rfl (of_decide_eq_true rfl) (RtT.mono _) (fun w6 hw6 => ?_) ?_
          · change forallRel w6 [(70, _)] _ _
            rintro v73 ⟨a, n, c, rfl, h7⟩
            simp only [forallRel]
            refine ⟨rfl, ?_⟩
            go_simp
            exact ⟨Below.refl _ _, a, n, c, rfl, h7⟩
          refine wpX_eq (.bool true) (fun w6 hw6 => ?_) ?_
          · change forallRel w6 [(70, _)] _ _
            rintro v73 ⟨a, n, c, rfl, h7⟩
            simp only [forallRel]
            refine ⟨rfl, ?_⟩
            go_simp
            exact Below.refl _ _
          refine wpX_nil ?_
          intro u2 hb2 v70 _ v71 h71
          change wpList _ _ _ [_, _] _ _
          obtain ⟨a, n, c, rfl, h7⟩ := h71
          go_wp2_with fail
          go_ret2
          exact ⟨Below.then hbr hb2, a, n, c, rfl, by rw [pre_pre]; exact h7⟩
      · have h1i : ((kn : Int) == 1) = false := by rw [beq_eq_false_iff_ne]; omega
        have hOn : O = none := by rw [HO2.out, if_neg h1]
        subst hOn
        go_wp2_with fail
        go_ret2
        exact ⟨hbr, rfl⟩
include hpn hp in
set_option maxHeartbeats 2000000 in
set_option maxRecDepth 100000 in
theorem routes_odd (kd : Int) (h1 : kd ≠ 1) (h2 : kd ≠ 2) (h3 : kd = 3 → kn ≠ 16) : Calls Try.prog 27 #[.agg #[.int .i64 kd, .slice pa pn pc, .slice va vn vc, .slice ka kn kc], .string ⟨q.toArray⟩] w (RtsPost q (if kd = 0 then some [] else none) w) := by
  obtain ⟨O, hO⟩ : ∃ O : Option (List Rt), O = if kd = 0 then some [] else none := ⟨_, rfl⟩
  rw [← hO]
  have HO := Lib.hid hO
  have H3 := Lib.hid h3
  have e1 : (kd == 1) = false := by rw [beq_eq_false_iff_ne]; exact h1
  have e2 : (kd == 2) = false := by rw [beq_eq_false_iff_ne]; exact h2
  obtain ⟨w1, hw1⟩ : ∃ w1, w1 = w.alloc (.cells #[.int .i64 kd, .slice pa pn pc, .slice va vn vc, .slice ka kn kc] 25) := ⟨_, rfl⟩
  have hz : Blk 25 w1 w.heap.size [.int .i64 kd, .slice pa pn pc, .slice va vn vc, .slice ka kn kc] := by rw [hw1]; exact Blk.new w _ _
  have hbel : Below w.heap.size w w1 := by rw [hw1]; exact (Below.refl _ _).alloc (Nat.le_refl _) _
  have k1 := (hz.cell 1).trans (show _ = some (Value.slice pa pn pc) from rfl)
  rw [hw1] at k1
  have hnn : pn ≤ 9223372036854775807 := by have h1 := hp.fits.2.1; have h2 := hp.fits.2.2; unfold maxLen at h2; omega
  have Hw1 := Lib.hid hw1
  have Hpn := Lib.hid hpn
  clear hw1 hO h1 h2 h3
  go_enter Try.func27, Try.ntmps27
  go_wp2_with fail
  rw [← Hw1.out]
  go_loopw [16] (fun ix wr => ∃ k : Nat, k ≤ pn ∧ ix = .int .i64 (k : Int) ∧ Below w.heap.size w wr ∧ Blk 25 wr w.heap.size [.int .i64 kd, .slice pa pn pc, .slice va vn vc, .slice ka kn kc]) (fun ix _ => pn - (intOf ix).toNat)
  case atStart => exact ⟨0, by omega, rfl, hbel, hz⟩
  case round =>
    obtain ⟨k, hkk, rfl, hbr, hzr⟩ := hrel
    have k0 := (hzr.cell 0).trans (show _ = some (Value.int .i64 kd) from rfl)
    by_cases hlt : k < pn
    · have hki : (k : Int) < (pn : Int) := by omega
      have hkl : k < p.length := by rw [Hpn.out]; exact hlt
      obtain ⟨b, off, rfl, hc⟩ := Bytes.at (hp.below hbr) k hkl
      go_wp2
      go_roundw
      case rel => exact ⟨k + 1, by omega, by go_num, hbr, hzr⟩
      case measure => simp [intOf]; omega
    · obtain rfl : k = pn := by omega
      have k3 := (hzr.cell 3).trans (show _ = some (Value.slice ka kn kc) from rfl)
      by_cases h0 : kd = 0
      · have hOn : O = some [] := by rw [HO.out, if_pos h0]
        subst hOn
        subst h0
        go_wp2
        go_ret2
        exact ⟨hbr, none, 0, 0, rfl, RowOf.nil rcells 2 _⟩
      · have hOn : O = none := by rw [HO.out, if_neg h0]
        subst hOn
        have e0 : (kd == 0) = false := by rw [beq_eq_false_iff_ne]; exact h0
        by_cases h3 : kd = 3
        · have h16 := H3.out h3
          have h16i : ((kn : Int) == 16) = false := by rw [beq_eq_false_iff_ne]; omega
          subst h3
          clear h16
          go_wp2
          go_ret2
          exact ⟨hbr, rfl⟩
        · have e3 : (kd == 3) = false := by rw [beq_eq_false_iff_ne]; exact h3
          clear h0 h3
          go_wp2
          go_ret2
          exact ⟨hbr, rfl⟩
end
end Go.Proofs.Ytljbbpcnoajfeaa
/- (Rts3) The reference's routes: a fork; any node. -/
namespace Go.Proofs.Ytljbbpcnoajfeaa
open Go.RowKit
theorem bulkNL_take (ks : List Nd) (i : Nat) : bulkNL (ks.take i) ≤ bulkNL ks := by
  induction ks generalizing i with
  | nil => simp
  | cons k ks ih =>
    cases i with
    | zero => simp [bulkNL]
    | succ i => have := ih i; simp only [List.take_succ_cons, bulkNL]; omega
section
variable (N : Nat) (hN : N ≤ 100000000000) (pa va ka : Option Addr) (pn pc vn vc kc : Nat) (p v : List UInt8) (ks : List Nd) (hpn : p.length = pn) (hvn : v.length = vn) (hkn : ks.length = 16) (q : List UInt8) (w : World)
  (hp : Bytes w (.slice pa pn pc) p) (hv : Bytes w (.slice va vn vc) v) (hk : RowOf ndcells 4 w (.slice ka 16 kc) ks) (hks : ∀ k ∈ ks, IsNd w k)
include hN hpn hvn hkn hp hv hk hks in
set_option maxHeartbeats 2000000 in
set_option maxRecDepth 100000 in
theorem routes_fork (ih : ∀ k ∈ ks, RtsC N k) (hq : q.length + 1 + pn + vn + bulkNL ks ≤ N) : Calls Try.prog 27 #[.agg #[.int .i64 3, .slice pa pn pc, .slice va vn vc, .slice ka 16 kc], .string ⟨q.toArray⟩] w (RtsPost q ((rtsL ks).map fun l => bdP v l) w) := by
  obtain ⟨O, hO⟩ : ∃ O, O = (rtsL ks).map fun l => bdP v l := ⟨_, rfl⟩
  rw [← hO]
  have HO := Lib.hid hO
  clear hO
  obtain ⟨w1, hw1⟩ : ∃ w1, w1 = w.alloc (.cells #[.int .i64 3, .slice pa pn pc, .slice va vn vc, .slice ka 16 kc] 25) := ⟨_, rfl⟩
  have hz : Blk 25 w1 w.heap.size [.int .i64 3, .slice pa pn pc, .slice va vn vc, .slice ka 16 kc] := by rw [hw1]; exact Blk.new w _ _
  have hbel : Below w.heap.size w w1 := by rw [hw1]; exact (Below.refl _ _).alloc (Nat.le_refl _) _
  have k1 := (hz.cell 1).trans (show _ = some (Value.slice pa pn pc) from rfl)
  rw [hw1] at k1
  have Hw1 := Lib.hid hw1
  have Hpn := Lib.hid hpn
  have Hvn := Lib.hid hvn
  have Hkn := Lib.hid hkn
  have Hq := Lib.hid hq
  have hnn : pn ≤ 100000000000 := by omega
  clear hw1 hpn hvn hkn hq
  go_enter Try.func27, Try.ntmps27
  go_wp2_with fail
  rw [← Hw1.out]
  go_loopw [16] (fun ix wr => ∃ k : Nat, k ≤ pn ∧ ix = .int .i64 (k : Int) ∧ Below w.heap.size w wr ∧ Blk 25 wr w.heap.size [.int .i64 3, .slice pa pn pc, .slice va vn vc, .slice ka 16 kc]) (fun ix _ => pn - (intOf ix).toNat)
  case atStart => exact ⟨0, by omega, rfl, hbel, hz⟩
  case round =>
    obtain ⟨k, hkk, rfl, hbr, hzr⟩ := hrel
    have k0 := (hzr.cell 0).trans (show _ = some (Value.int .i64 3) from rfl)
    by_cases hlt : k < pn
    · have hki : (k : Int) < (pn : Int) := by omega
      have hkl : k < p.length := by rw [Hpn.out]; exact hlt
      obtain ⟨b, off, rfl, hc⟩ := Bytes.at (hp.below hbr) k hkl
      go_wp2
      go_roundw
      case rel => exact ⟨k + 1, by omega, by go_num, hbr, hzr⟩
      case measure => simp [intOf]; omega
    · obtain rfl : k = pn := by omega
      have m2 := (hzr.cell 2).trans (show _ = some (Value.slice va vn vc) from rfl)
      have m3 := (hzr.cell 3).trans (show _ = some (Value.slice ka 16 kc) from rfl)
      have c2 := run_str (P := Try.prog) (src := 22) (dst := 9) elU8.ht (by kernel_rfl) (by kernel_rfl) (hv.below hbr)
      clear hlt
      have hval : (v = [] ∧ vn = 0) ∨ (v ≠ [] ∧ 0 < vn) := by
        have := Hvn.out
        cases v with
        | nil => left; exact ⟨rfl, by simpa using this.symm⟩
        | cons x v => right; refine ⟨by simp, ?_⟩; simp at this; omega
      rcases hval with ⟨hv0, hvn0⟩ | ⟨hv0, hvn0⟩
      · have hvi : ((0 : Int) < (vn : Int)) = False := eq_false (by omega)
        have hvi2 : (0 < vn) = False := eq_false (by omega)
        have hown0 : OwnOf rcells 2 80 wr w.heap.size (.slice none 0 0) (pre q (bdP v [])) := by
          have : pre q (bdP v []) = [] := by unfold bdP; rw [if_pos hv0]; rfl
          rw [this]; exact OwnOf.nil _ _ _ _ _
        clear hv0 hvn0
        go_wp2_with fail
        go_loopw [8, 98] (fun av ix wr => ∃ (i : Nat) (ls : List (List Rt)), i ≤ 16 ∧ rtsL (ks.take i) = some ls ∧ OwnOf rcells 2 80 wr w.heap.size av (pre q (bdP v ls)) ∧ ix = .int .i64 (i : Int) ∧ Below w.heap.size w wr) (fun _ ix _ => 16 - (intOf ix).toNat)
        case atStart => exact ⟨0, [], by omega, rfl, hown0, rfl, hbr⟩
        case round =>
          obtain ⟨i, ls, hii, hls, hown, rfl, hba⟩ := hrel
          by_cases hlt : i < 16
          · have hki : (i : Int) < 16 := by omega
            have hil : i < ks.length := by rw [Hkn.out]; exact hlt
            have hlsl : ls.length = i := by rw [(rtsL_at hls).1, List.length_take]; omega
            obtain ⟨bk, ok, rfl, hr⟩ := RowOf.range ndcells_len (hk.below hba) i hil
            have hIs := (hks _ (List.getElem_mem hil)).kept hba
            have hbk := bulkN_mem (List.getElem_mem hil)
            have hbs := rtsL_sum hls
            have hns := rtsL_none (List.getElem_mem hil)
            have hst := fun l => rtsL_step hil (l := l) hls
            have htk : bulkNL (ks.take i) ≤ bulkNL ks := bulkNL_take ks i
            have c3 := fun (u : World) (hu : Below wr.heap.size wr u) => ih _ (List.getElem_mem hil) (q ++ [UInt8.ofNat i]) u (hIs.kept hu) (by have := Hq.out; rw [List.length_append]; simp only [List.length_singleton]; omega)
            have hlb : (pre q (bdP v ls)).length ≤ 1 + bulkNL ks := by
              rw [pre_len]; unfold bdP; rw [List.length_append, cat_len]
              have : (if v = [] then ([] : List Rt) else [([], v)]).length ≤ 1 := by split <;> simp
              omega
            have hrl := fun l (h : rts ks[i] = some l) => rts_len h
            obtain ⟨y, hy⟩ : ∃ y, y = ks[i] := ⟨_, rfl⟩
            rw [← hy] at hr hIs hbk hns
            simp only [← hy] at c3 hst hrl
            have hKl := ndcells_len y
            have hone := hIs.one
            obtain ⟨K, hK⟩ : ∃ K, K = ndcells y := ⟨_, rfl⟩
            simp only [← hK] at hr hKl hone c3
            obtain ⟨S2, hS2⟩ : ∃ S : ByteArray, S = ⟨(q ++ [UInt8.ofNat i]).toArray⟩ := ⟨_, rfl⟩
            simp only [← hS2] at c3
            rw [← ba_add] at hS2
            have hu8 : u8v (UInt8.ofNat i) = .int .u8 (i : Int) := by unfold u8v; rw [ofNat_nat (by omega)]
            have s109 : ∀ u : World, (convert 22 9 (.slice (some ⟨u.heap.size, 0, none⟩) 1 1)).run Try.prog (u.alloc (.cells #[.int .u8 (i : Int)] 5)) = .ok (str [UInt8.ofNat i]) (u.alloc (.cells #[.int .u8 (i : Int)] 5)) := by
              intro u
              have hb : Bytes (u.alloc (.cells #[.int .u8 (i : Int)] 5)) (.slice (some ⟨u.heap.size, 0, none⟩) 1 1) [UInt8.ofNat i] := by
                have := Row.built (f := b8) (size := 1) (fun _ => rfl) u 5 [UInt8.ofNat i] 1 rfl (by unfold maxLen; omega)
                rw [show ([UInt8.ofNat i] : List UInt8).flatMap b8 = [.int .u8 (i : Int)] from by rw [flat_b8]; simp only [List.map_cons, List.map_nil, hu8]] at this
                exact this
              exact run_str (P := Try.prog) (src := 22) (dst := 9) elU8.ht (by kernel_rfl) (by kernel_rfl) hb
            obtain ⟨T1, hT1⟩ : ∃ T : ByteArray, T = ⟨[UInt8.ofNat i].toArray⟩ := ⟨_, rfl⟩
            have hst1 : str [UInt8.ofNat i] = .string T1 := by rw [hT1]; rfl
            rw [hst1] at s109
            have hadd : (⟨q.toArray⟩ ++ T1 : ByteArray) = S2 := by rw [hT1]; exact hS2.symm
            have hT1s : T1.size = 1 := by rw [hT1]; rfl
            have hqs : (⟨q.toArray⟩ : ByteArray).size = q.length := str_size q
            have hwu : IntKind.u8.wrap (i : Int) = (i : Int) := by rw [IntKind.wrap_u8']; omega
            have hsm : ¬ 9223372036854775807 < q.length + 1 := by have := Hq.out; omega
            obtain ⟨av1, ac1, rfl, _⟩ := hown.form
            have hlo := OwnOf.lt hown
            have C3 := Lib.hid c3
            have HKl := Lib.hid hKl
            have Hone := Lib.hid hone
            have Hst := Lib.hid hst
            have Hns := Lib.hid hns
            have Hrl := Lib.hid hrl
            have Hlb := Lib.hid hlb
            have Hbk := Lib.hid hbk
            have Hlsl := Lib.hid hlsl
            obtain ⟨NL, hNL⟩ : ∃ n, n = (pre q (bdP v ls)).length := ⟨_, rfl⟩
            rw [← hNL] at hlb
            simp only [← hNL]
            rw [← hNL] at hown hlo
            have HNL := Lib.hid hNL
            cases hry : rts y with
            | none =>
              have hOn : O = none := by rw [HO.out, Hns.out hry]; rfl
              subst hOn
              rw [hry] at C3
              have C4 := Lib.hid (fun (u : World) (hu : Below wr.heap.size wr u) => (C3.out u hu : Calls Try.prog 27 #[.agg K.toArray, .string S2] u fun e w' => Below u.heap.size u w' ∧ e = .returned (.tuple #[.slice none 0 0, .bool false])))
              clear hIs hbk hy hK hKl hone hns hst hrl hbs htk c3 hlt hS2 hu8 hT1 hst1 hNL hry hls C3
              go_wp2_with (first
                                      | (refine wpList_loadW (o := ⟨some 102, _, _, _, _, _⟩) 25 (.tmp 101) (by rfl) bk (ok + i * 4) (by rfl) aggNode HKl.out hr (by rfl) ?_; have bA : Below wr.heap.size wr (wr.alloc (.cells #[.int .i64 0, .slice none 0 0, .slice none 0 0, .slice none 0 0] 25)) := (Below.refl _ _).alloc (Nat.le_refl _) _)
                                      | ((with_reducible show wpList _ _ _ (⟨none, Op.store _ _ (Operand.tmp 102), _, _, _, _⟩ :: _) _ _); refine wpList_storeA (o := ⟨none, _, _, _, _, _⟩) (by rfl) 25 (.tmp 10) (.tmp 102) (by rfl) wr.heap.size K (by rfl) (by rfl) aggNode (Blk.new wr 25 [.int .i64 0, .slice none 0 0, .slice none 0 0, .slice none 0 0]) HKl.out (by rfl) Hone.out bA (Nat.le_refl _) ?_; intro w5 h7 b5 _; have bb5 := Below.then hba b5)
                                      | (refine wpList_loadA (o := ⟨some 104, _, _, _, _, _⟩) (by rfl) 25 (.tmp 10) (by rfl) wr.heap.size (by rfl) aggNode h7 HKl.out ?_)
                                      | (go_at_call 27; (with_reducible refine (C4.out _ (b5.trans ((Below.refl _ _).alloc (Nat.le_refl _) _ |>.mono b5.size))).mono ?_); rintro e w6 ⟨b6, rfl⟩; have bb6 := Below.then (Below.then bb5 ((Below.refl _ _).alloc (Nat.le_refl _) _)) b6))
              go_ret2
              exact ⟨bb6, rfl⟩
            | some l =>
              have hls' := Hst.out l hry
              have hll := Hrl.out l hry
              rw [hry] at C3
              have C4 := Lib.hid (fun (u : World) (hu : Below wr.heap.size wr u) => (C3.out u hu : Calls Try.prog 27 #[.agg K.toArray, .string S2] u fun e w' => Below u.heap.size u w' ∧ ∃ (a : Option Addr) (n c : Nat), e = .returned (.tuple #[.slice a n c, .bool true]) ∧ RowOf rcells 2 w' (.slice a n c) (pre (q ++ [UInt8.ofNat i]) l)))
              have hbd : pre q (bdP v ls) ++ pre (q ++ [UInt8.ofNat i]) l = pre q (bdP v (ls ++ [l])) := by rw [bd_snoc, pre_app, pre_pre, hlsl]
              have Hbd := Lib.hid hbd
              have hb1 : ((pre q (bdP v ls)).length + (pre (q ++ [UInt8.ofNat i]) l).length) * 32 ≤ 140737488355328 := by rw [pre_len (q ++ _)]; have := Hq.out; have := Hlb.out; omega
              have hb2 : (pre q (bdP v ls)).length + (pre (q ++ [UInt8.ofNat i]) l).length ≤ maxLen := by unfold maxLen; omega
              have Hb1 := Lib.hid hb1
              have Hb2 := Lib.hid hb2
              clear hIs hbk hy hK hKl hone hns hst hrl hbs htk c3 hlt hS2 hu8 hT1 hst1 hNL hry hls C3 hbd hll hb1 hb2 hlb
              go_wp2_with (first
                                      | (refine wpList_loadW (o := ⟨some 102, _, _, _, _, _⟩) 25 (.tmp 101) (by rfl) bk (ok + i * 4) (by rfl) aggNode HKl.out hr (by rfl) ?_; have bA : Below wr.heap.size wr (wr.alloc (.cells #[.int .i64 0, .slice none 0 0, .slice none 0 0, .slice none 0 0] 25)) := (Below.refl _ _).alloc (Nat.le_refl _) _)
                                      | ((with_reducible show wpList _ _ _ (⟨none, Op.store _ _ (Operand.tmp 102), _, _, _, _⟩ :: _) _ _); refine wpList_storeA (o := ⟨none, _, _, _, _, _⟩) (by rfl) 25 (.tmp 10) (.tmp 102) (by rfl) wr.heap.size K (by rfl) (by rfl) aggNode (Blk.new wr 25 [.int .i64 0, .slice none 0 0, .slice none 0 0, .slice none 0 0]) HKl.out (by rfl) Hone.out bA (Nat.le_refl _) ?_; intro w5 h7 b5 _; have bb5 := Below.then hba b5)
                                      | (refine wpList_loadA (o := ⟨some 104, _, _, _, _, _⟩) (by rfl) 25 (.tmp 10) (by rfl) wr.heap.size (by rfl) aggNode h7 HKl.out ?_)
                                      | (go_at_call 27; (with_reducible refine (C4.out _ (b5.trans ((Below.refl _ _).alloc (Nat.le_refl _) _ |>.mono b5.size))).mono ?_); rintro e w6 ⟨b6, a6, n6, c6, rfl, h6⟩; have bb6a := Below.then (Below.then b5 ((Below.refl _ _).alloc (Nat.le_refl _) _)) b6; have bb6 := Below.then hba bb6a; have o6 := hown.kept bb6a)
                                      | (refine wpList_appA (o := ⟨some 118, _, _, _, _, _⟩) (by rfl) (.tmp 116) (.tmp 117) 76 (by rfl) elRt (by rfl) o6 (by rfl) h6 bb6.size Hb1.out Hb2.out ?_; intro v7 w7 o7 g7 _; have b7 := bb6.grown g7 bb6.size hlo; rw [Hbd.out] at o7))
              go_roundw
              case rel => exact ⟨i + 1, ls ++ [l], by omega, hls', o7, by go_num, b7⟩
              case measure => simp [intOf]; omega
          · obtain rfl : i = 16 := by omega
            have htk : ks.take 16 = ks := by rw [← Hkn.out, List.take_length]
            rw [htk] at hls
            have hOn : O = some (bdP v ls) := by rw [HO.out, hls]; rfl
            subst hOn
            obtain ⟨av1, ac1, rfl, _⟩ := hown.form
            have hrowE := hown.row
            clear htk hls hown
            go_wp2_with fail
            go_ret2
            exact ⟨hba, _, _, _, rfl, hrowE⟩
      · have hvi : (0 : Int) < (vn : Int) := by omega
        have hbA : Below w.heap.size w (wr.alloc (.cells #[.string ⟨q.toArray⟩, .string ⟨v.toArray⟩] 80)) := hbr.alloc hbr.size _
        have hrow : RowOf rcells 2 (wr.alloc (.cells #[.string ⟨q.toArray⟩, .string ⟨v.toArray⟩] 80)) (.slice (some ⟨wr.heap.size, 0, none⟩) 1 1) [(q, v)] := Row.built (f := rcells) (size := 2) (fun _ => rfl) wr 80 [(q, v)] 1 rfl (by unfold maxLen; omega)
        have hm0 : OwnOf rcells 2 80 (wr.alloc (.cells #[.string ⟨q.toArray⟩, .string ⟨v.toArray⟩] 80)) w.heap.size (.slice none 0 0) [] := OwnOf.nil _ _ _ _ _
        have hlo := OwnOf.lt hm0
        have e0 : pre q (bdP v []) = [] ++ [(q, v)] := by unfold bdP; rw [if_neg hv0]; simp [pre, cat]
        rw [← List.nil_append [(q, v)]] at hrow
        have hz2 := hzr.alloc (.cells #[.string ⟨q.toArray⟩, .string ⟨v.toArray⟩] 80)
        clear hv0 hvn0
        go_wp2_with (refine wpList_appA (o := ⟨some 94, _, _, _, _, _⟩) (by rfl) (.tmp 87) (.tmp 93) 76 (by rfl) elRt (by rfl) hm0 (by rfl) hrow hbA.size (by simp) (by unfold maxLen; simp) ?_; intro v5 w5 o5 g5 _; have b5 := hbA.grown g5 hbA.size hlo; have hown0 := o5; simp only [List.nil_append] at hown0; rw [← List.nil_append [(q, v)], ← e0] at hown0; obtain ⟨a5, c5, rfl, _⟩ := o5.form' 1 (by simp); have n3 := ((hz2.grown g5 (fun hh => by cases hh)).cell 3).trans (show _ = some (Value.slice ka 16 kc) from rfl))
        go_loopw [8, 98] (fun av ix wr => ∃ (i : Nat) (ls : List (List Rt)), i ≤ 16 ∧ rtsL (ks.take i) = some ls ∧ OwnOf rcells 2 80 wr w.heap.size av (pre q (bdP v ls)) ∧ ix = .int .i64 (i : Int) ∧ Below w.heap.size w wr) (fun _ ix _ => 16 - (intOf ix).toNat)
        case atStart => exact ⟨0, [], by omega, rfl, hown0, rfl, b5⟩
        case round =>
          obtain ⟨i, ls, hii, hls, hown, rfl, hba⟩ := hrel
          by_cases hlt : i < 16
          · have hki : (i : Int) < 16 := by omega
            have hil : i < ks.length := by rw [Hkn.out]; exact hlt
            have hlsl : ls.length = i := by rw [(rtsL_at hls).1, List.length_take]; omega
            obtain ⟨bk, ok, rfl, hr⟩ := RowOf.range ndcells_len (hk.below hba) i hil
            have hIs := (hks _ (List.getElem_mem hil)).kept hba
            have hbk := bulkN_mem (List.getElem_mem hil)
            have hbs := rtsL_sum hls
            have hns := rtsL_none (List.getElem_mem hil)
            have hst := fun l => rtsL_step hil (l := l) hls
            have htk : bulkNL (ks.take i) ≤ bulkNL ks := bulkNL_take ks i
            have c3 := fun (u : World) (hu : Below wr.heap.size wr u) => ih _ (List.getElem_mem hil) (q ++ [UInt8.ofNat i]) u (hIs.kept hu) (by have := Hq.out; rw [List.length_append]; simp only [List.length_singleton]; omega)
            have hlb : (pre q (bdP v ls)).length ≤ 1 + bulkNL ks := by
              rw [pre_len]; unfold bdP; rw [List.length_append, cat_len]
              have : (if v = [] then ([] : List Rt) else [([], v)]).length ≤ 1 := by split <;> simp
              omega
            have hrl := fun l (h : rts ks[i] = some l) => rts_len h
            obtain ⟨y, hy⟩ : ∃ y, y = ks[i] := ⟨_, rfl⟩
            rw [← hy] at hr hIs hbk hns
            simp only [← hy] at c3 hst hrl
            have hKl := ndcells_len y
            have hone := hIs.one
            obtain ⟨K, hK⟩ : ∃ K, K = ndcells y := ⟨_, rfl⟩
            simp only [← hK] at hr hKl hone c3
            obtain ⟨S2, hS2⟩ : ∃ S : ByteArray, S = ⟨(q ++ [UInt8.ofNat i]).toArray⟩ := ⟨_, rfl⟩
            simp only [← hS2] at c3
            rw [← ba_add] at hS2
            have hu8 : u8v (UInt8.ofNat i) = .int .u8 (i : Int) := by unfold u8v; rw [ofNat_nat (by omega)]
            have s109 : ∀ u : World, (convert 22 9 (.slice (some ⟨u.heap.size, 0, none⟩) 1 1)).run Try.prog (u.alloc (.cells #[.int .u8 (i : Int)] 5)) = .ok (str [UInt8.ofNat i]) (u.alloc (.cells #[.int .u8 (i : Int)] 5)) := by
              intro u
              have hb : Bytes (u.alloc (.cells #[.int .u8 (i : Int)] 5)) (.slice (some ⟨u.heap.size, 0, none⟩) 1 1) [UInt8.ofNat i] := by
                have := Row.built (f := b8) (size := 1) (fun _ => rfl) u 5 [UInt8.ofNat i] 1 rfl (by unfold maxLen; omega)
                rw [show ([UInt8.ofNat i] : List UInt8).flatMap b8 = [.int .u8 (i : Int)] from by rw [flat_b8]; simp only [List.map_cons, List.map_nil, hu8]] at this
                exact this
              exact run_str (P := Try.prog) (src := 22) (dst := 9) elU8.ht (by kernel_rfl) (by kernel_rfl) hb
            obtain ⟨T1, hT1⟩ : ∃ T : ByteArray, T = ⟨[UInt8.ofNat i].toArray⟩ := ⟨_, rfl⟩
            have hst1 : str [UInt8.ofNat i] = .string T1 := by rw [hT1]; rfl
            rw [hst1] at s109
            have hadd : (⟨q.toArray⟩ ++ T1 : ByteArray) = S2 := by rw [hT1]; exact hS2.symm
            have hT1s : T1.size = 1 := by rw [hT1]; rfl
            have hqs : (⟨q.toArray⟩ : ByteArray).size = q.length := str_size q
            have hwu : IntKind.u8.wrap (i : Int) = (i : Int) := by rw [IntKind.wrap_u8']; omega
            have hsm : ¬ 9223372036854775807 < q.length + 1 := by have := Hq.out; omega
            obtain ⟨av1, ac1, rfl, _⟩ := hown.form
            have hlo := OwnOf.lt hown
            have C3 := Lib.hid c3
            have HKl := Lib.hid hKl
            have Hone := Lib.hid hone
            have Hst := Lib.hid hst
            have Hns := Lib.hid hns
            have Hrl := Lib.hid hrl
            have Hlb := Lib.hid hlb
            have Hbk := Lib.hid hbk
            have Hlsl := Lib.hid hlsl
            obtain ⟨NL, hNL⟩ : ∃ n, n = (pre q (bdP v ls)).length := ⟨_, rfl⟩
            rw [← hNL] at hlb
            simp only [← hNL]
            rw [← hNL] at hown hlo
            have HNL := Lib.hid hNL
            cases hry : rts y with
            | none =>
              have hOn : O = none := by rw [HO.out, Hns.out hry]; rfl
              subst hOn
              rw [hry] at C3
              have C4 := Lib.hid (fun (u : World) (hu : Below wr.heap.size wr u) => (C3.out u hu : Calls Try.prog 27 #[.agg K.toArray, .string S2] u fun e w' => Below u.heap.size u w' ∧ e = .returned (.tuple #[.slice none 0 0, .bool false])))
              clear hIs hbk hy hK hKl hone hns hst hrl hbs htk c3 hlt hS2 hu8 hT1 hst1 hNL hry hls C3
              go_wp2_with (first
                                      | (refine wpList_loadW (o := ⟨some 102, _, _, _, _, _⟩) 25 (.tmp 101) (by rfl) bk (ok + i * 4) (by rfl) aggNode HKl.out hr (by rfl) ?_; have bA : Below wr.heap.size wr (wr.alloc (.cells #[.int .i64 0, .slice none 0 0, .slice none 0 0, .slice none 0 0] 25)) := (Below.refl _ _).alloc (Nat.le_refl _) _)
                                      | ((with_reducible show wpList _ _ _ (⟨none, Op.store _ _ (Operand.tmp 102), _, _, _, _⟩ :: _) _ _); refine wpList_storeA (o := ⟨none, _, _, _, _, _⟩) (by rfl) 25 (.tmp 10) (.tmp 102) (by rfl) wr.heap.size K (by rfl) (by rfl) aggNode (Blk.new wr 25 [.int .i64 0, .slice none 0 0, .slice none 0 0, .slice none 0 0]) HKl.out (by rfl) Hone.out bA (Nat.le_refl _) ?_; intro w5 h7 b5 _; have bb5 := Below.then hba b5)
                                      | (refine wpList_loadA (o := ⟨some 104, _, _, _, _, _⟩) (by rfl) 25 (.tmp 10) (by rfl) wr.heap.size (by rfl) aggNode h7 HKl.out ?_)
                                      | (go_at_call 27; (with_reducible refine (C4.out _ (b5.trans ((Below.refl _ _).alloc (Nat.le_refl _) _ |>.mono b5.size))).mono ?_); rintro e w6 ⟨b6, rfl⟩; have bb6 := Below.then (Below.then bb5 ((Below.refl _ _).alloc (Nat.le_refl _) _)) b6))
              go_ret2
              exact ⟨bb6, rfl⟩
            | some l =>
              have hls' := Hst.out l hry
              have hll := Hrl.out l hry
              rw [hry] at C3
              have C4 := Lib.hid (fun (u : World) (hu : Below wr.heap.size wr u) => (C3.out u hu : Calls Try.prog 27 #[.agg K.toArray, .string S2] u fun e w' => Below u.heap.size u w' ∧ ∃ (a : Option Addr) (n c : Nat), e = .returned (.tuple #[.slice a n c, .bool true]) ∧ RowOf rcells 2 w' (.slice a n c) (pre (q ++ [UInt8.ofNat i]) l)))
              have hbd : pre q (bdP v ls) ++ pre (q ++ [UInt8.ofNat i]) l = pre q (bdP v (ls ++ [l])) := by rw [bd_snoc, pre_app, pre_pre, hlsl]
              have Hbd := Lib.hid hbd
              have hb1 : ((pre q (bdP v ls)).length + (pre (q ++ [UInt8.ofNat i]) l).length) * 32 ≤ 140737488355328 := by rw [pre_len (q ++ _)]; have := Hq.out; have := Hlb.out; omega
              have hb2 : (pre q (bdP v ls)).length + (pre (q ++ [UInt8.ofNat i]) l).length ≤ maxLen := by unfold maxLen; omega
              have Hb1 := Lib.hid hb1
              have Hb2 := Lib.hid hb2
              clear hIs hbk hy hK hKl hone hns hst hrl hbs htk c3 hlt hS2 hu8 hT1 hst1 hNL hry hls C3 hbd hll hb1 hb2 hlb
              go_wp2_with (first
                                      | (refine wpList_loadW (o := ⟨some 102, _, _, _, _, _⟩) 25 (.tmp 101) (by rfl) bk (ok + i * 4) (by rfl) aggNode HKl.out hr (by rfl) ?_; have bA : Below wr.heap.size wr (wr.alloc (.cells #[.int .i64 0, .slice none 0 0, .slice none 0 0, .slice none 0 0] 25)) := (Below.refl _ _).alloc (Nat.le_refl _) _)
                                      | ((with_reducible show wpList _ _ _ (⟨none, Op.store _ _ (Operand.tmp 102), _, _, _, _⟩ :: _) _ _); refine wpList_storeA (o := ⟨none, _, _, _, _, _⟩) (by rfl) 25 (.tmp 10) (.tmp 102) (by rfl) wr.heap.size K (by rfl) (by rfl) aggNode (Blk.new wr 25 [.int .i64 0, .slice none 0 0, .slice none 0 0, .slice none 0 0]) HKl.out (by rfl) Hone.out bA (Nat.le_refl _) ?_; intro w5 h7 b5 _; have bb5 := Below.then hba b5)
                                      | (refine wpList_loadA (o := ⟨some 104, _, _, _, _, _⟩) (by rfl) 25 (.tmp 10) (by rfl) wr.heap.size (by rfl) aggNode h7 HKl.out ?_)
                                      | (go_at_call 27; (with_reducible refine (C4.out _ (b5.trans ((Below.refl _ _).alloc (Nat.le_refl _) _ |>.mono b5.size))).mono ?_); rintro e w6 ⟨b6, a6, n6, c6, rfl, h6⟩; have bb6a := Below.then (Below.then b5 ((Below.refl _ _).alloc (Nat.le_refl _) _)) b6; have bb6 := Below.then hba bb6a; have o6 := hown.kept bb6a)
                                      | (refine wpList_appA (o := ⟨some 118, _, _, _, _, _⟩) (by rfl) (.tmp 116) (.tmp 117) 76 (by rfl) elRt (by rfl) o6 (by rfl) h6 bb6.size Hb1.out Hb2.out ?_; intro v7 w7 o7 g7 _; have b7 := bb6.grown g7 bb6.size hlo; rw [Hbd.out] at o7))
              go_roundw
              case rel => exact ⟨i + 1, ls ++ [l], by omega, hls', o7, by go_num, b7⟩
              case measure => simp [intOf]; omega
          · obtain rfl : i = 16 := by omega
            have htk : ks.take 16 = ks := by rw [← Hkn.out, List.take_length]
            rw [htk] at hls
            have hOn : O = some (bdP v ls) := by rw [HO.out, hls]; rfl
            subst hOn
            obtain ⟨av1, ac1, rfl, _⟩ := hown.form
            have hrowE := hown.row
            clear htk hls hown
            go_wp2_with fail
            go_ret2
            exact ⟨hba, _, _, _, rfl, hrowE⟩
end
end Go.Proofs.Ytljbbpcnoajfeaa
/- (Rts4) The reference's routes of any node; shorter. -/
namespace Go.Proofs.Ytljbbpcnoajfeaa
open Go.RowKit
theorem routes_any (N : Nat) (hN : N ≤ 100000000000) : ∀ (n : Nat) (t : Nd), SizeOf.sizeOf t ≤ n → RtsC N t
  | 0, .mk kd pv p vv v kv ks, h => by simp at h
  | n + 1, .mk kd pv p vv v kv ks, h => by
    intro q w hI hd
    have hks : ∀ k ∈ ks, RtsC N k := by
      intro k hk
      refine routes_any N hN n k ?_
      have := List.sizeOf_lt_of_mem hk
      simp only [Nd.mk.sizeOf_spec] at h
      omega
    obtain ⟨hp, hv, hk, hall⟩ := hI.inv
    obtain ⟨pa, pc, rfl, _, _⟩ := hp.form
    obtain ⟨va, vc, rfl, _, _⟩ := hv.form
    obtain ⟨ka, kc, rfl, _, _⟩ := hk.form
    simp only [bulkN] at hd
    by_cases h1 : kd = 1
    · subst h1
      exact routes_leaf N hN pa va ka p.length pc v.length vc ks.length kc p v ks rfl rfl q w hp hv (by omega)
    · by_cases h2 : kd = 2
      · subst h2
        exact routes_road N hN pa va ka p.length pc v.length vc ks.length kc p v ks rfl rfl q w hp hk hall hks (by omega)
      · by_cases h3 : kd = 3 ∧ ks.length = 16
        · obtain ⟨rfl, h16⟩ := h3
          have hR : rts (.mk 3 (.slice pa p.length pc) p (.slice va v.length vc) v (.slice ka ks.length kc) ks) = (rtsL ks).map fun l => bdP v l := by
            unfold rts; simp [h16, bdP]
          rw [hR]
          have := routes_fork N hN pa va ka p.length pc v.length vc kc p v ks rfl rfl h16 q w hp hv (by rw [← h16]; exact hk) hall hks (by omega)
          rw [← h16] at this
          exact this
        · have hR : rts (.mk kd (.slice pa p.length pc) p (.slice va v.length vc) v (.slice ka ks.length kc) ks) = if kd = 0 then some [] else none := by
            unfold rts
            rw [if_neg (fun e => e.1.elim h1 h2)]
            by_cases h0 : kd = 0
            · rw [if_pos h0, if_pos h0]
            · rw [if_neg h0, if_neg h1, if_neg (fun e => h2 e.1), if_neg h3, if_neg h0]
          rw [hR]
          exact routes_odd pa va ka p.length pc v.length vc ks.length kc p rfl q w hp kd h1 h2 (fun e h => h3 ⟨e, h⟩)
def OneR (r : Rt) : Ty := fun u w => ∃ g : Nat, u = .slice (some ⟨g, 0, none⟩) 1 1 ∧ RowOf rcells 2 w u [r]
theorem OneR.mono (r : Rt) : Mono (OneR r) := fun _ _ _ ⟨g, h, h2⟩ hb => ⟨g, h, h2.below hb⟩
theorem aggRoute : Agg Try.prog 80 2 := ⟨_, Try.underlying80, rfl, by kernel_rfl⟩
theorem shorter_take (c : Nat) (l : List Rt) (k : Nat) (hk : k < l.length) : shorterP c (l.take (k + 1)) = shorterP c (l.take k) ++ [(l[k].1.drop c, l[k].2)] := by
  unfold shorterP
  rw [List.take_succ_eq_append_getElem hk, List.map_append]
  rfl
set_option maxHeartbeats 2000000 in
set_option maxRecDepth 100000 in
theorem shorter_any (a : Option Addr) (n cap : Nat) (l : List Rt) (hn : l.length = n) (c : Nat) (hc : ∀ r ∈ l, c ≤ r.1.length) (hN : n ≤ 1000000000) (hcN : c ≤ 1000000000) (w : World) (h : RowOf rcells 2 w (.slice a n cap) l) :
    Calls Try.prog 93 #[.slice a n cap, .int .i64 (c : Int)] w fun e w' => ∃ (a' : Option Addr) (c' : Nat), e = .returned (.slice a' n c') ∧ Below w.heap.size w w' ∧ RowOf rcells 2 w' (.slice a' n c') (shorterP c l) := by
  have Hn := Lib.hid hn
  have Hc := Lib.hid hc
  clear hn hc
  go_enter Try.func93, Try.ntmps93
  go_wp2
  go_loopw [5, 10] (fun av ix wr => ∃ k : Nat, k ≤ n ∧ OwnOf rcells 2 80 wr w.heap.size av (shorterP c (l.take k)) ∧ ix = .int .i64 (k : Int) ∧ Below w.heap.size w wr) (fun _ ix _ => n - (intOf ix).toNat)
  case atStart => exact ⟨0, by omega, OwnOf.nil _ _ _ _ _, rfl, Below.refl _ _⟩
  case round =>
    obtain ⟨k, hkk, hown, rfl, hbr⟩ := hrel
    have hol : (shorterP c (l.take k)).length = k := by unfold shorterP; rw [List.length_map, List.length_take]; have := Hn.out; omega
    obtain ⟨av1, ac1, rfl, _⟩ := hown.form' k hol
    by_cases hlt : k < n
    · have hki : (k : Int) < (n : Int) := by omega
      have hkl : k < l.length := by rw [Hn.out]; exact hlt
      obtain ⟨b, off, rfl, hr⟩ := RowOf.range (f := rcells) (size := 2) (fun _ => rfl) (h.below hbr) k hkl
      have hst := shorter_take c l k hkl
      have hcl := Hc.out _ (List.getElem_mem hkl)
      obtain ⟨y, hy⟩ : ∃ y, y = l[k] := ⟨_, rfl⟩
      rw [← hy] at hr hst hcl
      obtain ⟨y1, y2⟩ := y
      dsimp only at hst hcl
      have hr2 : wr.rangeAt b (off + k * 2) [.string ⟨y1.toArray⟩, .string ⟨y2.toArray⟩] := hr
      have s1 := str_from (P := Try.prog) (t := 9) (by kernel_rfl) y1 c (c : Int) rfl hcl
      have hlo := OwnOf.lt hown
      have n0 : ∀ (g : Nat) (u : World), Blk 80 u g [.string ⟨y1.toArray⟩, .string ⟨y2.toArray⟩] → u.cell? ⟨g, 0, none⟩ = some (.string ⟨y1.toArray⟩) ∧ u.cell? ⟨g, 1, none⟩ = some (.string ⟨y2.toArray⟩) := fun g u hb => ⟨(hb.cell 0).trans rfl, (hb.cell 1).trans rfl⟩
      have hb1 : ((shorterP c (l.take k)).length + [(y1.drop c, y2)].length) * 32 ≤ 140737488355328 := by rw [hol]; simp only [List.length_singleton]; omega
      have hb2 : (shorterP c (l.take k)).length + [(y1.drop c, y2)].length ≤ maxLen := by rw [hol]; unfold maxLen; simp only [List.length_singleton]; omega
      have Hst := Lib.hid hst
      have N0 := Lib.hid n0
      have Hb1 := Lib.hid hb1
      have Hb2 := Lib.hid hb2
      clear hst n0 hy hr hol hcl hlt hb1 hb2
      have bA : Below wr.heap.size wr (wr.alloc (.cells #[.string ByteArray.empty, .string ByteArray.empty] 80)) := (Below.refl _ _).alloc (Nat.le_refl _) _
      go_wp2_with (first
        | (refine wpList_loadW (o := ⟨some 13, _, _, _, _, _⟩) 80 (.tmp 12) (by rfl) b (off + k * 2) (by rfl) aggRoute (by rfl) hr2 (by rfl) ?_)
        | ((with_reducible show wpList _ _ _ (⟨none, Op.store _ _ (Operand.tmp 13), _, _, _, _⟩ :: _) _ _); refine wpList_storeA (o := ⟨none, _, _, _, _, _⟩) (by rfl) 80 (.tmp 7) (.tmp 13) (by rfl) wr.heap.size [.string ⟨y1.toArray⟩, .string ⟨y2.toArray⟩] (by rfl) (by rfl) aggRoute (Blk.new wr 80 [.string ByteArray.empty, .string ByteArray.empty]) (by rfl) (by rfl) (by intro u hu; simp at hu; rcases hu with rfl | rfl <;> rfl) bA (Nat.le_refl _) ?_; intro w5 h7 b5 _; have bb5 := Below.then hbr b5; have o5 := hown.kept b5; obtain ⟨i0, i1⟩ := N0.out _ _ h7; have j0 := fun u : Ext w5 => u.cell i0; have j1 := fun u : Ext w5 => u.cell i1))
      refine wp_region_typed w5 9 (by kernel_rfl) (by kernel_rfl) (Below.refl _ _) ?_; simp only [List.take_succ_cons, List.take_zero, List.take_nil]
      iterate 8 (refine wpX_step (by rfl) (fun K hK => ?_); go_simp; first | (refine hK _ ?_; clear hK K) | (apply Exists.intro; refine ⟨fun _ => ?_, hK _ ?_⟩; fail; clear hK K))
      refine wpX_rel 22 (OneR (y1.drop c, y2)) rfl (of_decide_eq_true rfl) (OneR.mono _) (fun w6 hw6 => ?_) ?_
      · change forallRel w6 [] _ _
        simp only [forallRel]
        refine ⟨rfl, ?_⟩
        go_simp
        exact ⟨(Below.refl _ _).alloc (Nat.le_refl _) _, w6.heap.size, rfl, Row.built (f := rcells) (size := 2) (fun _ => rfl) w6 80 [(y1.drop c, y2)] 1 rfl (by unfold maxLen; omega)⟩
      refine wpX_nil ?_
      intro u2 hb2 v22 h22
      change wpList _ _ _ [_, _] _ _
      obtain ⟨g22, rfl, hr22⟩ := h22
      have o2 := o5.kept hb2
      have bb2 := Below.then bb5 hb2
      clear j0 j1 i0 i1
      go_wp2_with (refine wpList_appA (o := ⟨some 23, _, _, _, _, _⟩) (by rfl) (.tmp 14) (.tmp 22) 76 (by rfl) elRt (by rfl) o2 (by rfl) hr22 bb2.size Hb1.out Hb2.out ?_; intro v7 w7 o7 g7 _; have b7 := bb2.grown g7 bb2.size hlo; rw [← Hst.out] at o7)
      go_roundw
      case rel => exact ⟨k + 1, by omega, o7, by go_num, b7⟩
      case measure => simp [intOf]; omega
    · obtain rfl : k = n := by omega
      have htk : l.take k = l := by rw [← Hn.out, List.take_length]
      rw [htk] at hown
      have hrow := hown.row
      clear hown hol htk
      go_wp2
      go_ret
      exact ⟨_, _, rfl, hbr, hrow⟩
end Go.Proofs.Ytljbbpcnoajfeaa
