/- The reference's routes: what it hands back; a leaf, nothing, something else. -/
import Derived.Test.YtnhbfnegpjkojaaNode5
import Derived.Test.YtnhbfnegpjkojaaStr
set_option linter.unusedSimpArgs false
set_option linter.unusedVariables false
namespace Go.Proofs.Ytnhbfnegpjkojaa
open Go.RowKit
def rcells (r : Rt) : List Value := [.string ⟨r.1.toArray⟩, .string ⟨r.2.toArray⟩]
theorem elRt : El Try.prog 112 116 (.agg #[.string ByteArray.empty, .string ByteArray.empty]) 2 32 rcells := ⟨by kernel_rfl, by kernel_rfl, rfl, by omega, fun _ => rfl, fun x u hu => by
  simp only [rcells, List.mem_cons, List.not_mem_nil, or_false] at hu
  rcases hu with rfl | rfl <;> rfl⟩
theorem rtsL_len : ∀ {ks : List Nd} {ls : List (List Rt)}, rtsL ks = some ls → ls.length = ks.length := fun h => (rtsL_at h).1
theorem pre_app (q : List UInt8) (l m : List Rt) : pre q (l ++ m) = pre q l ++ pre q m := by unfold pre; rw [List.map_append]
theorem cat_snoc (ls : List (List Rt)) (l : List Rt) : ∀ j, cat j (ls ++ [l]) = cat j ls ++ pre [UInt8.ofNat (j + ls.length)] l := by
  induction ls with
  | nil => intro j; simp [cat]
  | cons x ls ih =>
    intro j
    simp only [List.cons_append, cat, ih, List.length_cons, List.append_assoc]
    rw [Nat.add_right_comm j 1, Nat.add_assoc]
theorem bd_snoc (v : List UInt8) (ls : List (List Rt)) (l : List Rt) : bdP v (ls ++ [l]) = bdP v ls ++ pre [UInt8.ofNat ls.length] l := by
  unfold bdP
  rw [cat_snoc, Nat.zero_add, List.append_assoc]
theorem rtsL_snoc : ∀ {ks : List Nd} {k : Nd} {ls : List (List Rt)} {l : List Rt}, rtsL ks = some ls → rts k = some l → rtsL (ks ++ [k]) = some (ls ++ [l])
  | [], k, ls, l, h, hk => by
    simp only [rtsL, Option.some.injEq] at h
    subst h
    simp [rtsL, hk]
  | x :: ks, k, ls, l, h, hk => by
    unfold rtsL at h
    cases h1 : rts x with
    | none => rw [h1] at h; simp at h
    | some m =>
      rw [h1] at h
      dsimp only at h
      cases h2 : rtsL ks with
      | none => rw [h2] at h; simp at h
      | some ms =>
        rw [h2] at h
        simp only [Option.some.injEq] at h
        subst h
        have := rtsL_snoc (ks := ks) (k := k) h2 hk
        simp [rtsL, h1, this]
theorem rtsL_step {ks : List Nd} {i : Nat} (hi : i < ks.length) {ls : List (List Rt)} {l : List Rt} (h : rtsL (ks.take i) = some ls) (hk : rts ks[i] = some l) : rtsL (ks.take (i + 1)) = some (ls ++ [l]) := by
  rw [List.take_succ_eq_append_getElem hi]
  exact rtsL_snoc h hk
theorem rtsL_none {ks : List Nd} {k : Nd} (hm : k ∈ ks) (hk : rts k = none) : rtsL ks = none := by
  cases h : rtsL ks with
  | none => rfl
  | some ls =>
    obtain ⟨i, hi⟩ := List.getElem?_of_mem hm
    obtain ⟨l, _, h2⟩ := (rtsL_at h).2 i k hi
    rw [hk] at h2
    simp at h2
theorem cat_len (ls : List (List Rt)) : ∀ j, (cat j ls).length = (ls.map List.length).sum := by
  induction ls with
  | nil => intro j; simp [cat]
  | cons l ls ih => intro j; simp only [cat, List.length_append, pre_len, ih, List.map_cons, List.sum_cons]
mutual
theorem rts_len : ∀ {t : Nd} {l : List Rt}, rts t = some l → l.length ≤ bulkN t
  | .mk kd pv p vv v kv ks, l, h => by
    unfold rts at h
    unfold bulkN
    split at h
    · simp at h
    · split at h
      · simp only [Option.some.injEq] at h; subst h; simp
      · split at h
        · simp only [Option.some.injEq] at h; subst h; simp; omega
        · split at h
          · cases hls : rtsL ks with
            | none => rw [hls] at h; simp at h
            | some ls =>
              rw [hls] at h
              simp only [Option.map_some, Option.some.injEq] at h
              subst h
              have := rtsL_sum hls
              rw [pre_len, List.length_flatten]
              omega
          · split at h
            · cases hls : rtsL ks with
              | none => rw [hls] at h; simp at h
              | some ls =>
                rw [hls] at h
                simp only [Option.map_some, Option.some.injEq] at h
                subst h
                have := rtsL_sum hls
                rw [List.length_append, cat_len]
                have : (if v = [] then ([] : List Rt) else [([], v)]).length ≤ 1 := by split <;> simp
                omega
            · simp at h
theorem rtsL_sum : ∀ {ks : List Nd} {ls : List (List Rt)}, rtsL ks = some ls → (ls.map List.length).sum ≤ bulkNL ks
  | [], ls, h => by
    simp only [rtsL, Option.some.injEq] at h
    subst h
    simp
  | k :: ks, ls, h => by
    unfold rtsL at h
    cases h1 : rts k with
    | none => rw [h1] at h; simp at h
    | some m =>
      rw [h1] at h
      dsimp only at h
      cases h2 : rtsL ks with
      | none => rw [h2] at h; simp at h
      | some ms =>
        rw [h2] at h
        simp only [Option.some.injEq] at h
        subst h
        have a := rts_len h1
        have b := rtsL_sum h2
        simp only [List.map_cons, List.sum_cons, bulkNL]
        omega
end
theorem ba_add (q p : List UInt8) : (⟨q.toArray⟩ ++ ⟨p.toArray⟩ : ByteArray) = ⟨(q ++ p).toArray⟩ := by
  apply ba_ext
  simp [ByteArray.data_append]
def RtsPost (q : List UInt8) (o : Option (List Rt)) (w : World) (e : Ending) (w' : World) : Prop :=
  Below w.heap.size w w' ∧ match o with
  | none => e = .returned (.tuple #[.slice none 0 0, .bool false])
  | some l => ∃ (a : Option Addr) (n c : Nat), e = .returned (.tuple #[.slice a n c, .bool true]) ∧ RowOf rcells 2 w' (.slice a n c) (pre q l)
def RtsC (N : Nat) (k : Nd) : Prop := ∀ (q : List UInt8) (u : World), IsNd u k → q.length + bulkN k ≤ N → Calls Try.prog 61 #[.agg (ndcells k).toArray, .string ⟨q.toArray⟩] u (RtsPost q (rts k) u)
section
variable (N : Nat) (hN : N ≤ 1000000000) (pa va ka : Option Addr) (pn pc vn vc kn kc : Nat) (p v : List UInt8) (ks : List Nd) (hpn : p.length = pn) (hvn : v.length = vn) (hkn : ks.length = kn) (q : List UInt8) (w : World)
  (hp : Bytes w (.slice pa pn pc) p) (hv : Bytes w (.slice va vn vc) v) (hk : RowOf ndcells 4 w (.slice ka kn kc) ks) (hks : ∀ k ∈ ks, IsNd w k)
include hN hpn hvn hp hv in
set_option maxHeartbeats 1000000 in
set_option maxRecDepth 100000 in
theorem routes_leaf (hq : q.length + pn + vn ≤ N) : Calls Try.prog 61 #[.agg #[.int .i64 1, .slice pa pn pc, .slice va vn vc, .slice ka kn kc], .string ⟨q.toArray⟩] w (RtsPost q (rts (.mk 1 (.slice pa pn pc) p (.slice va vn vc) v (.slice ka kn kc) ks)) w) := by
  have hR : rts (.mk 1 (.slice pa pn pc) p (.slice va vn vc) v (.slice ka kn kc) ks) = if half p = false then none else some [(p, v)] := by unfold rts; simp
  obtain ⟨O, hO⟩ : ∃ O, O = rts (.mk 1 (.slice pa pn pc) p (.slice va vn vc) v (.slice ka kn kc) ks) := ⟨_, rfl⟩
  rw [← hO]
  rw [hR] at hO
  have HO := Lib.hid hO
  clear hO
  obtain ⟨w1, hw1⟩ : ∃ w1, w1 = w.alloc (.cells #[.int .i64 1, .slice pa pn pc, .slice va vn vc, .slice ka kn kc] 25) := ⟨_, rfl⟩
  have hz : Blk 25 w1 w.heap.size [.int .i64 1, .slice pa pn pc, .slice va vn vc, .slice ka kn kc] := by rw [hw1]; exact Blk.new w _ _
  have hbel : Below w.heap.size w w1 := by rw [hw1]; exact (Below.refl _ _).alloc (Nat.le_refl _) _
  have k1 := (hz.cell 1).trans (show _ = some (Value.slice pa pn pc) from rfl)
  rw [hw1] at k1
  have Hw1 := Lib.hid hw1
  have Hpn := Lib.hid hpn
  have Hq := Lib.hid hq
  clear hw1 hR
  go_enter Try.func61, Try.ntmps61
  go_wp2_with fail
  rw [← Hw1.out]
  go_loopw [16] (fun ix wr => ∃ k : Nat, k ≤ pn ∧ ix = .int .i64 (k : Int) ∧ half (p.take k) = true ∧ Below w.heap.size w wr ∧ Blk 25 wr w.heap.size [.int .i64 1, .slice pa pn pc, .slice va vn vc, .slice ka kn kc]) (fun ix _ => pn - (intOf ix).toNat)
  case atStart => exact ⟨0, by omega, rfl, rfl, hbel, hz⟩
  case round =>
    obtain ⟨k, hkk, rfl, hall, hbr, hzr⟩ := hrel
    have k0 := (hzr.cell 0).trans (show _ = some (Value.int .i64 1) from rfl)
    by_cases hlt : k < pn
    · have hki : (k : Int) < (pn : Int) := by omega
      have hkl : k < p.length := by rw [Hpn.out]; exact hlt
      obtain ⟨b, off, rfl, hc⟩ := Bytes.at (hp.below hbr) k hkl
      obtain ⟨x, hx⟩ : ∃ x, x = p[k] := ⟨_, rfl⟩
      rw [← hx] at hc
      have hst := half_step p k hkl
      rw [hall, ← hx, Bool.true_and] at hst
      have Hx := Lib.hid hx
      by_cases h15 : x.toNat ≤ 15
      · have hi15 : (x.toNat : Int) ≤ 15 := by omega
        rw [decide_eq_true h15] at hst
        clear hx hall
        go_wp2
        go_roundw
        case rel => exact ⟨k + 1, by omega, by go_num, hst, hbr, hzr⟩
        case measure => simp [intOf]; omega
      · have hi15 : (15 : Int) < (x.toNat : Int) := by omega
        have hRf : half p = false := half_not hkl (by rw [← Hx.out]; exact h15)
        have hOn : O = none := by rw [HO.out, if_pos hRf]
        subst hOn
        clear hx hall hst hRf
        go_wp2
        go_ret2
        exact ⟨hbr, rfl⟩
    · obtain rfl : k = pn := by omega
      have hRt : ¬ half p = false := by rw [← Hpn.out, List.take_length] at hall; rw [hall]; simp
      have hOn : O = some [(p, v)] := by rw [HO.out, if_neg hRt]
      subst hOn
      clear hRt
      have k1 := (hzr.cell 1).trans (show _ = some (Value.slice pa k pc) from rfl)
      have k2 := (hzr.cell 2).trans (show _ = some (Value.slice va vn vc) from rfl)
      have c1 := run_str (P := Try.prog) (src := 22) (dst := 9) elU8.ht (by kernel_rfl) (by kernel_rfl) (hp.below hbr)
      have c2 := run_str (P := Try.prog) (src := 22) (dst := 9) elU8.ht (by kernel_rfl) (by kernel_rfl) (hv.below hbr)
      obtain ⟨S1, hS1⟩ : ∃ S : ByteArray, S = ⟨q.toArray⟩ ++ ⟨p.toArray⟩ := ⟨_, rfl⟩
      have hrow := Row.built (f := rcells) (size := 2) (fun _ => rfl) wr 116 [(q ++ p, v)] 1 rfl (by unfold maxLen; omega)
      rw [show ([(q ++ p, v)] : List Rt).flatMap rcells = [.string S1, .string ⟨v.toArray⟩] from by rw [hS1, ba_add]; rfl] at hrow
      rw [hS1] at hrow
      have Hrow := Lib.hid hrow
      clear hall hlt hS1 hrow
      go_wp2
      go_ret2
      exact ⟨hbr.alloc hbr.size _, _, _, _, rfl, Hrow.out⟩
end
end Go.Proofs.Ytnhbfnegpjkojaa
