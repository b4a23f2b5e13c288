/- The value of a key in a right tree: plain Lean. | tree.inner of a right tree. | tree.inner of a right tree; tree.get. | tree.get of any right tree. -/
import Derived.Test.YtljbbpcnoajfeaaTreeP
import Derived.Test.YtljbbpcnoajfeaaNodeA
import Derived.Test.YtljbbpcnoajfeaaNib1
/- (Get1) The value of a key in a right tree: plain Lean. -/
set_option linter.unusedSimpArgs false
set_option linter.unusedVariables false
namespace Go.Proofs.Ytljbbpcnoajfeaa
open Go.RowKit
mutual
def getP : Nd → List UInt8 → List UInt8
  | .mk kd _ p _ v _ ks, q =>
    if kd = 1 then (if p = q then v else [])
    else if kd = 2 then (if com p q = p.length then getL ks 0 (q.drop p.length) else [])
    else if kd = 3 then (match q with
      | [] => v
      | x :: q => getL ks x.toNat q)
    else []
def getL : List Nd → Nat → List UInt8 → List UInt8
  | [], _, _ => []
  | k :: _, 0, q => getP k q
  | _ :: ks, i + 1, q => getL ks i q
end
theorem getL_at : ∀ {ks : List Nd} {i : Nat} {k : Nd} {q : List UInt8}, ks[i]? = some k → getL ks i q = getP k q
  | [], i, k, q, h => by simp at h
  | a :: ks, 0, k, q, h => by simp only [List.getElem?_cons_zero, Option.some.injEq] at h; subst h; rfl
  | a :: ks, i + 1, k, q, h => by simp only [List.getElem?_cons_succ] at h; unfold getL; exact getL_at h
def fd (l : List Rt) (q : List UInt8) : Option (List UInt8) := (l.find? fun r => r.1 == q).map (·.2)
theorem fd_app (l m : List Rt) (q : List UInt8) : fd (l ++ m) q = (fd l q).or (fd m q) := by
  unfold fd
  rw [List.find?_append]
  cases l.find? fun r => r.1 == q <;> rfl
theorem fd_pre (p : List UInt8) (l : List Rt) (q : List UInt8) : fd (pre p l) (p ++ q) = fd l q := by
  induction l with
  | nil => rfl
  | cons r l ih =>
    unfold fd at ih ⊢
    simp only [pre, List.map_cons, List.find?_cons]
    by_cases h : r.1 = q
    · have h1 : (r.1 == q) = true := by rw [beq_iff_eq]; exact h
      have h2 : (p ++ r.1 == p ++ q) = true := by rw [beq_iff_eq, h]
      rw [h1, h2]; rfl
    · have h1 : (r.1 == q) = false := by rw [beq_eq_false_iff_ne]; exact h
      have h2 : (p ++ r.1 == p ++ q) = false := by rw [beq_eq_false_iff_ne]; exact fun e => h (List.append_cancel_left e)
      rw [h1, h2]; exact ih
theorem fd_none {l : List Rt} {q : List UInt8} (h : ∀ r ∈ l, r.1 ≠ q) : fd l q = none := by
  unfold fd
  have : (l.find? fun r => r.1 == q) = none := by
    rw [List.find?_eq_none]
    intro r hr
    simpa using h r hr
  rw [this]; rfl
theorem fd_cat {ls : List (List Rt)} : ∀ {i : Nat} (x : UInt8) (q : List UInt8), i + ls.length ≤ 256 → i ≤ x.toNat → fd (cat i ls) (x :: q) = fd (ls[x.toNat - i]?.getD []) q := by
  induction ls with
  | nil => intro i x q _ _; simp [cat, fd]
  | cons l ls ih =>
    intro i x q hi hx
    simp only [List.length_cons] at hi
    rw [cat, fd_app]
    by_cases h : i = x.toNat
    · have hxe : UInt8.ofNat i = x := by rw [h]; simp
      have h0 : x.toNat - i = 0 := by omega
      rw [h0, hxe]
      have h1 : fd (cat (i + 1) ls) (x :: q) = none := fd_none (fun r hr => by
        obtain ⟨j, m, hj, s, _, rfl⟩ := cat_mem hr
        have hj1 := (List.getElem?_eq_some_iff.1 hj).1
        intro e
        have := congrArg UInt8.toNat (List.cons.inj e).1
        rw [ofNat_nat (by omega)] at this
        omega)
      have h2 := fd_pre [x] l q
      change fd (pre [x] l) (x :: q) = fd l q at h2
      rw [h1, h2]
      simp
    · have h1 : fd (pre [UInt8.ofNat i] l) (x :: q) = none := fd_none (fun r hr => by
        obtain ⟨s, _, rfl⟩ := pre_mem hr
        intro e
        have := congrArg UInt8.toNat (List.cons.inj e).1
        rw [ofNat_nat (by omega)] at this
        omega)
      rw [h1, ih x q (by omega) (by omega)]
      have h2 : x.toNat - i = (x.toNat - (i + 1)) + 1 := by omega
      rw [h2]
      simp
theorem com_full {p q : List UInt8} (h : com p q = p.length) : q = p ++ q.drop p.length := by
  obtain ⟨h1, _, _⟩ := com_take (p := p) (q := q) (c := p.length) (by omega)
  rw [List.take_length] at h1
  conv => lhs; rw [← List.take_append_drop p.length q]
  rw [h1]
theorem com_pre_eq (p s : List UInt8) : com p (p ++ s) = p.length := by
  have := com_app p [] s
  rw [List.append_nil, com_nil] at this
  exact this
theorem get_rts : ∀ (n : Nat) (t : Nd), SizeOf.sizeOf t ≤ n → ∀ d, rgt d t = true → ∀ l, rts t = some l → ∀ q : List UInt8, (∀ x ∈ q, x.toNat < 16) → getP t q = (fd l q).getD []
  | 0, .mk kd pv p vv v kv ks, h, d, _, l, _, q, _ => by simp at h
  | n + 1, .mk kd pv p vv v kv ks, h, d, hr, l, hl, q, hq => by
    have hks : ∀ k ∈ ks, SizeOf.sizeOf k ≤ n := by
      intro k hk
      have := List.sizeOf_lt_of_mem hk
      simp only [Nd.mk.sizeOf_spec] at h
      omega
    unfold rgt at hr
    unfold rts at hl
    unfold getP
    by_cases h0 : kd = 0
    · subst h0
      simp at hl
      subst hl
      simp [fd]
    · rw [if_neg h0] at hr
      by_cases hh : (kd = 1 ∨ kd = 2) ∧ half p = false
      · rw [if_pos hh] at hl; simp at hl
      · rw [if_neg hh, if_neg h0] at hl
        by_cases h1 : kd = 1
        · subst h1
          rw [if_pos rfl] at hl ⊢
          simp only [Option.some.injEq] at hl
          subst hl
          by_cases he : p = q
          · rw [if_pos he]; simp [fd, he]
          · have : (p == q) = false := by rw [beq_eq_false_iff_ne]; exact he
            rw [if_neg he]; simp [fd, this]
        · rw [if_neg h1] at hr hl ⊢
          by_cases h2 : kd = 2
          · subst h2
            rw [if_pos rfl] at hr ⊢
            simp only [Bool.and_eq_true, decide_eq_true_eq] at hr
            obtain ⟨⟨⟨⟨hp, _⟩, hl1⟩, _⟩, hrk⟩ := hr
            rw [if_pos ⟨rfl, hl1⟩] at hl
            obtain ⟨k, rfl⟩ := List.length_eq_one_iff.1 hl1
            rw [rgtL_iff] at hrk
            cases hk : rts k with
            | none => simp [rtsL, hk] at hl
            | some m =>
              simp only [rtsL, hk, Option.map_some, List.flatten_cons, List.flatten_nil, List.append_nil, Option.some.injEq] at hl
              subst hl
              by_cases hc : com p q = p.length
              · rw [if_pos hc]
                have hqe := com_full hc
                have := fd_pre p m (q.drop p.length)
                rw [← hqe] at this
                rw [this]
                exact get_rts n k (hks k (List.mem_singleton.2 rfl)) _ (hrk k (List.mem_singleton.2 rfl)) m hk _ (fun x hx => hq x (List.mem_of_mem_drop hx))
              · rw [if_neg hc]
                have : fd (pre p m) q = none := fd_none (fun r hr => by
                  obtain ⟨s, _, rfl⟩ := pre_mem hr
                  intro e
                  dsimp only at e
                  rw [← e] at hc
                  exact hc (com_pre_eq p s.1))
                rw [this]; rfl
          · rw [if_neg h2] at hr ⊢
            by_cases h3 : kd = 3
            · subst h3
              rw [if_pos rfl] at hr ⊢
              simp only [Bool.and_eq_true, decide_eq_true_eq] at hr
              obtain ⟨⟨⟨⟨hl1, _⟩, _⟩, hrk⟩, _⟩ := hr
              rw [if_neg (fun e => h2 e.1), if_pos ⟨rfl, hl1⟩] at hl
              rw [rgtL_iff] at hrk
              cases hls : rtsL ks with
              | none => rw [hls] at hl; simp at hl
              | some ls =>
                rw [hls] at hl
                simp only [Option.map_some, Option.some.injEq] at hl
                subst hl
                obtain ⟨hll, hat⟩ := rtsL_at hls
                rw [fd_app]
                cases q with
                | nil =>
                  dsimp only
                  have hn : fd (cat 0 ls) [] = none := fd_none (fun r hr => by
                    obtain ⟨j, m, hj, s, _, rfl⟩ := cat_mem hr
                    simp)
                  rw [hn]
                  by_cases hv : v = []
                  · rw [if_pos hv]; simp [fd, hv]
                  · rw [if_neg hv]; simp [fd]
                | cons x q =>
                  dsimp only
                  have hx := hq x List.mem_cons_self
                  have hn : fd (if v = [] then [] else [([], v)]) (x :: q) = none := fd_none (fun r hr => by
                    split at hr
                    · simp at hr
                    · rw [List.mem_singleton] at hr; subst hr; simp)
                  rw [hn, fd_cat x q (by omega) (Nat.zero_le _), Nat.sub_zero]
                  have hk : ks[x.toNat]? = some (ks[x.toNat]'(by omega)) := List.getElem?_eq_getElem (by omega)
                  obtain ⟨m, hm, hkm⟩ := hat _ _ hk
                  rw [getL_at hk, hm]
                  simp only [Option.none_or, Option.getD_some]
                  exact get_rts n _ (hks _ (List.getElem_mem _)) _ (hrk _ (List.getElem_mem _)) m hkm q (fun y hy => hq y (List.mem_cons_of_mem _ hy))
            · rw [if_neg h3] at hr
              simp at hr
end Go.Proofs.Ytljbbpcnoajfeaa
/- (Get2) tree.inner of a right tree. -/
namespace Go.Proofs.Ytljbbpcnoajfeaa
open Go.RowKit
mutual
/-- a right tree's inner node as a value -/
def nv : Nd → Value
  | .mk kd pv _ vv _ _ ks => if kd = 1 then .iface 128 (.agg #[pv, vv]) else if kd = 2 then .iface 131 (.agg #[pv, (nvL ks).headD .nilIface]) else if kd = 3 then .iface 134 (.agg (nvL ks ++ [vv]).toArray) else .nilIface
def nvL : List Nd → List Value
  | [] => []
  | k :: ks => nv k :: nvL ks
end
theorem nvL_map (ks : List Nd) : nvL ks = ks.map nv := by
  induction ks with
  | nil => rfl
  | cons k ks ih => simp [nvL, ih]
theorem nv_shape (t : Nd) : nv t = .nilIface ∨ ∃ ty x, nv t = .iface ty x := by
  obtain ⟨kd, pv, p, vv, v, kv, ks⟩ := t
  unfold nv
  split
  · exact .inr ⟨_, _, rfl⟩
  · split
    · exact .inr ⟨_, _, rfl⟩
    · split
      · exact .inr ⟨_, _, rfl⟩
      · exact .inl rfl
theorem nv_fork {t : Nd} (h : t.kd = 3) : ∃ x, nv t = .iface 134 x := by
  obtain ⟨kd, pv, p, vv, v, kv, ks⟩ := t
  change kd = 3 at h
  subst h
  exact ⟨_, by unfold nv; rfl⟩
def nfill (ks : List Nd) (vv : Value) (i : Nat) : List Value := nvL (ks.take i) ++ (List.replicate (16 - i) .nilIface ++ [vv])
theorem nfill_len (ks : List Nd) (vv : Value) (i : Nat) (hl : ks.length = 16) (hi : i ≤ 16) : (nfill ks vv i).length = 17 := by
  unfold nfill
  rw [nvL_map]
  simp only [List.length_append, List.length_map, List.length_take, List.length_replicate, List.length_singleton]
  omega
theorem nfill_set (ks : List Nd) (vv : Value) (i : Nat) (hl : ks.length = 16) (hi : i < 16) : (nfill ks vv i).set i (nv (ks[i]'(by omega))) = nfill ks vv (i + 1) := by
  unfold nfill
  rw [nvL_map, nvL_map, List.take_succ_eq_append_getElem (by omega), List.map_append]
  have h1 : ((ks.take i).map nv).length = i := by simp; omega
  have h2 : 16 - i = (16 - (i + 1)) + 1 := by omega
  rw [List.set_append_right _ _ (by omega), h1, Nat.sub_self, h2, List.replicate_succ, List.cons_append, List.set_cons_zero]
  simp
theorem aggFork : Agg Try.prog 134 17 := ⟨_, Try.underlying134, rfl, by kernel_rfl⟩
def InC (k : Nd) : Prop := ∀ (d : Nat) (u : World), IsNd u k → rgt d k = true → Calls Try.prog 23 #[.agg (ndcells k).toArray] u fun e w' => e = .returned (nv k) ∧ Below u.heap.size u w'
section
variable (pa va ka : Option Addr) (pn pc vn vc kn kc : Nat) (p v : List UInt8) (ks : List Nd) (w : World)
set_option maxHeartbeats 1000000 in
set_option maxRecDepth 100000 in
theorem inner_leaf : Calls Try.prog 23 #[.agg #[.int .i64 1, .slice pa pn pc, .slice va vn vc, .slice ka kn kc]] w fun e w' => e = .returned (.iface 128 (.agg #[.slice pa pn pc, .slice va vn vc])) ∧ Below w.heap.size w w' := by
  have hz := Blk.new w 25 [.int .i64 1, .slice pa pn pc, .slice va vn vc, .slice ka kn kc]
  have hbel : Below w.heap.size w (w.alloc (.cells #[.int .i64 1, .slice pa pn pc, .slice va vn vc, .slice ka kn kc] 25)) := (Below.refl _ _).alloc (Nat.le_refl _) _
  have k0 := (hz.cell 0).trans (show _ = some (Value.int .i64 1) from rfl)
  have k1 := (hz.cell 1).trans (show _ = some (Value.slice pa pn pc) from rfl)
  have k2 := (hz.cell 2).trans (show _ = some (Value.slice va vn vc) from rfl)
  have hcon : Try.prog.concrete 128 = true := by kernel_rfl
  go_enter Try.func23, Try.ntmps23
  go_wp2_with fail
  go_ret
  exact ⟨rfl, hbel⟩
set_option maxHeartbeats 1000000 in
set_option maxRecDepth 100000 in
theorem inner_none : Calls Try.prog 23 #[.agg #[.int .i64 0, .slice pa pn pc, .slice va vn vc, .slice ka kn kc]] w fun e w' => e = .returned .nilIface ∧ Below w.heap.size w w' := by
  have hz := Blk.new w 25 [.int .i64 0, .slice pa pn pc, .slice va vn vc, .slice ka kn kc]
  have hbel : Below w.heap.size w (w.alloc (.cells #[.int .i64 0, .slice pa pn pc, .slice va vn vc, .slice ka kn kc] 25)) := (Below.refl _ _).alloc (Nat.le_refl _) _
  have k0 := (hz.cell 0).trans (show _ = some (Value.int .i64 0) from rfl)
  go_enter Try.func23, Try.ntmps23
  go_wp2_with fail
  go_ret
  exact ⟨rfl, hbel⟩
set_option maxHeartbeats 1000000 in
set_option maxRecDepth 100000 in
theorem inner_road (k : Nd) (hk3 : k.kd = 3) (d : Nat) (hr : rgt d k = true) (hk : RowOf ndcells 4 w (.slice ka 1 kc) [k]) (hI : IsNd w k) (ih : InC k) :
    Calls Try.prog 23 #[.agg #[.int .i64 2, .slice pa pn pc, .slice va vn vc, .slice ka 1 kc]] w fun e w' => e = .returned (.iface 131 (.agg #[.slice pa pn pc, nv k])) ∧ Below w.heap.size w w' := by
  obtain ⟨w1, hw1⟩ : ∃ w1, w1 = w.alloc (.cells #[.int .i64 2, .slice pa pn pc, .slice va vn vc, .slice ka 1 kc] 25) := ⟨_, rfl⟩
  have hz : Blk 25 w1 w.heap.size [.int .i64 2, .slice pa pn pc, .slice va vn vc, .slice ka 1 kc] := by rw [hw1]; exact Blk.new w _ _
  have hbel : Below w.heap.size w w1 := by rw [hw1]; exact (Below.refl _ _).alloc (Nat.le_refl _) _
  have m0 := (hz.cell 0).trans (show _ = some (Value.int .i64 2) from rfl)
  rw [hw1] at m0
  obtain ⟨b, off, rfl, hrr⟩ := RowOf.range ndcells_len (hk.below hbel) 0 (by simp)
  simp only [List.getElem_cons_zero, Nat.zero_mul, Nat.add_zero] at hrr
  have k1 := fun u : Ext w1 => u.cell ((hz.cell 1).trans (show _ = some (Value.slice pa pn pc) from rfl))
  have k3 := fun u : Ext w1 => u.cell ((hz.cell 3).trans (show _ = some (Value.slice (some ⟨b, off, none⟩) 1 kc) from rfl))
  have c1 := fun (u : Ext w1) => ih d u.val (u.nd (hI.kept hbel)) hr
  have hKl := ndcells_len k
  obtain ⟨x, hx⟩ := nv_fork hk3
  rw [hx] at c1 ⊢
  obtain ⟨K, hK⟩ : ∃ K, K = ndcells k := ⟨_, rfl⟩
  simp only [← hK] at c1 hKl hrr
  have hcon : Try.prog.concrete 131 = true := by kernel_rfl
  have Hw1 := Lib.hid hw1
  have C1 := Lib.hid c1
  have HKl := Lib.hid hKl
  have Hrr := Lib.hid hrr
  clear hw1 c1 hKl hrr hK hx hI ih hk hz
  go_enter Try.func23, Try.ntmps23
  go_wp2_with fail
  rw [← Hw1.out]
  refine wp_region_typed w1 9 (by kernel_rfl) (by kernel_rfl) (Below.refl _ _) ?_; simp only [List.take_succ_cons, List.take_zero, List.take_nil]
  iterate 5 (refine wpX_step (by rfl) (fun K hK => ?_); go_simp; first | (refine hK _ ?_; clear hK K) | (apply Exists.intro; refine ⟨fun _ => ?_, hK _ ?_⟩; fail; clear hK K))
  (refine wpX_step (by rfl) (fun K hK => ?_); rw [if_pos (by rfl)]; refine ⟨_, fun u => const_loadm _ (.tmp 22) (by rfl) _ _ (by rfl) aggNode HKl.out (rangeAt.ext Hrr.out u), hK _ ?_⟩; clear hK K; simp only [Act.put, List.setIfInBounds_toArray, List.set_cons_zero, List.set_cons_succ])
  (refine wpX_step (by rfl) (fun K hK => ?_); go_simp; first | (refine hK _ ?_; clear hK K) | (apply Exists.intro; refine ⟨fun _ => ?_, hK _ ?_⟩; exact C1.out _; clear hK K))
  iterate 2 (refine wpX_step (by rfl) (fun K hK => ?_); go_simp; first | (refine hK _ ?_; clear hK K) | (apply Exists.intro; refine ⟨fun _ => ?_, hK _ ?_⟩; fail; clear hK K))
  refine wpX_nil ?_
  intro u2 hb2
  simp only [List.reverse_nil, forallRel]
  change wpList _ _ _ [_] _ _
  go_wp2_with fail
  go_ret
  exact ⟨rfl, Below.then hbel hb2⟩
set_option maxHeartbeats 2000000 in
set_option maxRecDepth 100000 in
theorem inner_fork (hkn : ks.length = 16) (d : Nat) (hr : ∀ k ∈ ks, rgt d k = true) (hk : RowOf ndcells 4 w (.slice ka 16 kc) ks) (hI : ∀ k ∈ ks, IsNd w k) (ih : ∀ k ∈ ks, InC k) :
    Calls Try.prog 23 #[.agg #[.int .i64 3, .slice pa pn pc, .slice va vn vc, .slice ka 16 kc]] w fun e w' => e = .returned (.iface 134 (.agg (nvL ks ++ [Value.slice va vn vc]).toArray)) ∧ Below w.heap.size w w' := by
  obtain ⟨w1, hw1⟩ : ∃ w1, w1 = w.alloc (.cells #[.int .i64 3, .slice pa pn pc, .slice va vn vc, .slice ka 16 kc] 25) := ⟨_, rfl⟩
  have hz : Blk 25 w1 w.heap.size [.int .i64 3, .slice pa pn pc, .slice va vn vc, .slice ka 16 kc] := by rw [hw1]; exact Blk.new w _ _
  have hbel : Below w.heap.size w w1 := by rw [hw1]; exact (Below.refl _ _).alloc (Nat.le_refl _) _
  have hsz : w1.heap.size = w.heap.size + 1 := by rw [hw1]; simp
  have m0 := (hz.cell 0).trans (show _ = some (Value.int .i64 3) from rfl)
  have m2 := (hz.cell 2).trans (show _ = some (Value.slice va vn vc) from rfl)
  rw [hw1] at m0 m2
  have Hw1 := Lib.hid hw1
  have Hkn := Lib.hid hkn
  have hcon : Try.prog.concrete 134 = true := by kernel_rfl
  have hf0 : nfill ks (Value.slice va vn vc) 0 = List.replicate 16 Value.nilIface ++ [Value.slice va vn vc] := rfl
  clear hw1 hkn
  go_enter Try.func23, Try.ntmps23
  go_wp2_with fail
  rw [← Hw1.out]
  have h4 : Blk 134 (w1.alloc (.cells #[.nilIface, .nilIface, .nilIface, .nilIface, .nilIface, .nilIface, .nilIface, .nilIface, .nilIface, .nilIface, .nilIface, .nilIface, .nilIface, .nilIface, .nilIface, .nilIface, .slice va vn vc] 134)) (w.heap.size + 1) (nfill ks (Value.slice va vn vc) 0) := by
    have := Blk.new w1 134 (nfill ks (Value.slice va vn vc) 0)
    rw [hsz] at this
    exact this
  have bb4 : Below w.heap.size w (w1.alloc (.cells #[.nilIface, .nilIface, .nilIface, .nilIface, .nilIface, .nilIface, .nilIface, .nilIface, .nilIface, .nilIface, .nilIface, .nilIface, .nilIface, .nilIface, .nilIface, .nilIface, .slice va vn vc] 134)) := hbel.alloc hbel.size _
  obtain ⟨B, hB⟩ : ∃ B, B = w.heap.size + 1 := ⟨_, rfl⟩
  have hwB : w.heap.size ≤ B := by omega
  simp only [← hB] at h4 ⊢
  clear m0 m2 hB hf0
  go_loopw [35] (fun ix wr => ∃ i : Nat, i ≤ 16 ∧ ix = .int .i64 (i : Int) ∧ Below w.heap.size w wr ∧ Blk 134 wr B (nfill ks (Value.slice va vn vc) i)) (fun ix _ => 16 - (intOf ix).toNat)
  case atStart => exact ⟨0, by omega, rfl, bb4, h4⟩
  case round =>
    obtain ⟨i, hii, rfl, hbr, hBr⟩ := hrel
    by_cases hlt : i < 16
    · have hki : (i : Int) < 16 := by omega
      have hil : i < ks.length := by rw [Hkn.out]; exact hlt
      obtain ⟨bk, ok, rfl, hrr⟩ := RowOf.range ndcells_len (hk.below hbr) i hil
      have hIs := (hI _ (List.getElem_mem hil)).kept hbr
      have hse := nfill_set ks (Value.slice va vn vc) i Hkn.out hlt
      have hln := nfill_len ks (Value.slice va vn vc) i Hkn.out hii
      have c3 := fun (u : World) (hu : Below wr.heap.size wr u) => ih _ (List.getElem_mem hil) d u (hIs.kept hu) (hr _ (List.getElem_mem hil))
      have hv1 := nv_shape ks[i]
      have hKl := ndcells_len ks[i]
      have hone := hIs.one
      obtain ⟨V, hV⟩ : ∃ V, V = nv ks[i] := ⟨_, rfl⟩
      obtain ⟨K, hK⟩ : ∃ K, K = ndcells ks[i] := ⟨_, rfl⟩
      simp only [← hV] at c3 hse hv1
      simp only [← hK] at c3 hKl hone hrr
      have C3 := Lib.hid c3
      have HKl := Lib.hid hKl
      have Hone := Lib.hid hone
      have Hrr := Lib.hid hrr
      have Hse := Lib.hid hse
      have Hln := Lib.hid hln
      have bA1 : Below wr.heap.size wr (wr.alloc (.cells #[.int .i64 0, .slice none 0 0, .slice none 0 0, .slice none 0 0] 25)) := (Below.refl _ _).alloc (Nat.le_refl _) _
      clear hIs hse hln c3 hKl hone hV hK hrr hlt
      rcases hv1 with rfl | ⟨ty, xx, rfl⟩
      · go_wp2_with (first
          | (refine wpList_loadW (o := ⟨some 39, _, _, _, _, _⟩) 25 (.tmp 38) (by rfl) bk (ok + i * 4) (by rfl) aggNode HKl.out Hrr.out (by rfl) ?_)
          | ((with_reducible show wpList _ _ _ (⟨none, Op.store _ _ (Operand.tmp 39), _, _, _, _⟩ :: _) _ _); refine wpList_storeA (o := ⟨none, _, _, _, _, _⟩) (by rfl) 25 (.tmp 5) (.tmp 39) (by rfl) wr.heap.size K (by rfl) (by rfl) aggNode (Blk.new wr 25 [.int .i64 0, .slice none 0 0, .slice none 0 0, .slice none 0 0]) HKl.out (by rfl) Hone.out bA1 (Nat.le_refl _) ?_; intro w5 h7 b5 _; have bb5 := Below.then hbr b5)
          | (refine wpList_loadA (o := ⟨some 41, _, _, _, _, _⟩) (by rfl) 25 (.tmp 5) (by rfl) wr.heap.size (by rfl) aggNode h7 HKl.out ?_)
          | (go_at_call 23; (with_reducible refine (C3.out _ b5).mono ?_); rintro e w6 ⟨rfl, b6⟩; have bb6 := Below.then bb5 b6; have hB6 := (hBr.kept b5).kept b6; have hf6 := hB6.free i; have hc6 := hB6.has i (by rw [Hln.out]; omega); obtain ⟨y6, hy6⟩ := hc6; have hB7 := hB6.set i .nilIface; rw [Hse.out] at hB7; have bb7 : Below w.heap.size w (w6.setCell ⟨B, i, none⟩ .nilIface) := bb6.setCell (by show w.heap.size ≤ B; exact hwB) _))
        go_roundw
        case rel => exact ⟨i + 1, by omega, by go_num, bb7, hB7⟩
        case measure => simp [intOf]; omega
      · go_wp2_with (first
          | (refine wpList_loadW (o := ⟨some 39, _, _, _, _, _⟩) 25 (.tmp 38) (by rfl) bk (ok + i * 4) (by rfl) aggNode HKl.out Hrr.out (by rfl) ?_)
          | ((with_reducible show wpList _ _ _ (⟨none, Op.store _ _ (Operand.tmp 39), _, _, _, _⟩ :: _) _ _); refine wpList_storeA (o := ⟨none, _, _, _, _, _⟩) (by rfl) 25 (.tmp 5) (.tmp 39) (by rfl) wr.heap.size K (by rfl) (by rfl) aggNode (Blk.new wr 25 [.int .i64 0, .slice none 0 0, .slice none 0 0, .slice none 0 0]) HKl.out (by rfl) Hone.out bA1 (Nat.le_refl _) ?_; intro w5 h7 b5 _; have bb5 := Below.then hbr b5)
          | (refine wpList_loadA (o := ⟨some 41, _, _, _, _, _⟩) (by rfl) 25 (.tmp 5) (by rfl) wr.heap.size (by rfl) aggNode h7 HKl.out ?_)
          | (go_at_call 23; (with_reducible refine (C3.out _ b5).mono ?_); rintro e w6 ⟨rfl, b6⟩; have bb6 := Below.then bb5 b6; have hB6 := (hBr.kept b5).kept b6; have hf6 := hB6.free i; have hc6 := hB6.has i (by rw [Hln.out]; omega); obtain ⟨y6, hy6⟩ := hc6; have hB7 := hB6.set i (.iface ty xx); rw [Hse.out] at hB7; have bb7 : Below w.heap.size w (w6.setCell ⟨B, i, none⟩ (.iface ty xx)) := bb6.setCell (by show w.heap.size ≤ B; exact hwB) _))
        go_roundw
        case rel => exact ⟨i + 1, by omega, by go_num, bb7, hB7⟩
        case measure => simp [intOf]; omega
    · obtain rfl : i = 16 := by omega
      have hf16 : nfill ks (Value.slice va vn vc) 16 = nvL ks ++ [Value.slice va vn vc] := by
        unfold nfill
        rw [← Hkn.out, List.take_length]; simp
      have hln := nfill_len ks (Value.slice va vn vc) 16 Hkn.out (Nat.le_refl _)
      rw [hf16] at hBr hln
      clear hf16 hlt
      go_wp2_with (refine wpList_loadA (o := ⟨some 46, _, _, _, _, _⟩) (by rfl) 134 (.tmp 3) (by rfl) B (by rfl) aggFork hBr hln ?_)
      go_ret
      exact ⟨rfl, hbr⟩
end
end Go.Proofs.Ytljbbpcnoajfeaa
/- (Get3) tree.inner of a right tree; tree.get. -/
namespace Go.Proofs.Ytljbbpcnoajfeaa
open Go.RowKit
theorem inner_any : ∀ (n : Nat) (t : Nd), SizeOf.sizeOf t ≤ n → InC t
  | 0, .mk kd pv p vv v kv ks, h => by simp at h
  | n + 1, .mk kd pv p vv v kv ks, h => by
    intro d w hI hr
    have hks : ∀ k ∈ ks, InC k := by
      intro k hk
      refine inner_any n k ?_
      have := List.sizeOf_lt_of_mem hk
      simp only [Nd.mk.sizeOf_spec] at h
      omega
    obtain ⟨hp, hv, hk, hall⟩ := hI.inv
    obtain ⟨pa, pc, rfl, _, _⟩ := hp.form
    obtain ⟨va, vc, rfl, _, _⟩ := hv.form
    obtain ⟨ka, kc, rfl, _, _⟩ := hk.form
    unfold rgt at hr
    unfold nv
    by_cases h0 : kd = 0
    · subst h0
      exact inner_none pa va ka _ pc _ vc _ kc w
    · rw [if_neg h0] at hr
      by_cases h1 : kd = 1
      · subst h1
        exact inner_leaf pa va ka _ pc _ vc _ kc w
      · rw [if_neg h1] at hr ⊢
        by_cases h2 : kd = 2
        · subst h2
          rw [if_pos rfl] at hr ⊢
          simp only [Bool.and_eq_true, decide_eq_true_eq] at hr
          obtain ⟨⟨⟨⟨_, _⟩, hl⟩, hk3⟩, hrk⟩ := hr
          obtain ⟨k, rfl⟩ := List.length_eq_one_iff.1 hl
          simp only [List.getElem?_cons_zero, Option.map_some, Option.getD_some] at hk3
          rw [rgtL_iff] at hrk
          exact inner_road pa va ka _ pc _ vc kc w k hk3 _ (hrk k (List.mem_singleton.2 rfl)) hk (hall k (List.mem_singleton.2 rfl)) (hks k (List.mem_singleton.2 rfl))
        · rw [if_neg h2] at hr ⊢
          by_cases h3 : kd = 3
          · subst h3
            rw [if_pos rfl] at hr ⊢
            simp only [Bool.and_eq_true, decide_eq_true_eq] at hr
            obtain ⟨⟨⟨⟨hl, _⟩, _⟩, hrk⟩, _⟩ := hr
            rw [rgtL_iff] at hrk
            have := inner_fork pa va ka p.length pc v.length vc kc ks w hl _ hrk (by rw [← hl]; exact hk) hall hks
            rw [← hl] at this
            exact this
          · rw [if_neg h3] at hr
            simp at hr
theorem as1_1 (x : Value) (W : World) : (Instr.typeAssert (.iface 128 x) 69 128 true).run Try.prog W = .ok (.tuple #[x, .bool true]) W := by kernel_rfl
theorem as2_1 (x : Value) (W : World) : (Instr.typeAssert (.iface 131 x) 69 128 true).run Try.prog W = .ok (.tuple #[.agg #[.slice none 0 0, .slice none 0 0], .bool false]) W := by kernel_rfl
theorem as3_1 (x : Value) (W : World) : (Instr.typeAssert (.iface 134 x) 69 128 true).run Try.prog W = .ok (.tuple #[.agg #[.slice none 0 0, .slice none 0 0], .bool false]) W := by kernel_rfl
theorem as0_1 (W : World) : (Instr.typeAssert .nilIface 69 128 true).run Try.prog W = .ok (.tuple #[.agg #[.slice none 0 0, .slice none 0 0], .bool false]) W := by kernel_rfl
theorem as2_2 (x : Value) (W : World) : (Instr.typeAssert (.iface 131 x) 69 131 true).run Try.prog W = .ok (.tuple #[x, .bool true]) W := by kernel_rfl
theorem as3_2 (x : Value) (W : World) : (Instr.typeAssert (.iface 134 x) 69 131 true).run Try.prog W = .ok (.tuple #[.agg #[.slice none 0 0, .nilIface], .bool false]) W := by kernel_rfl
theorem as0_2 (W : World) : (Instr.typeAssert .nilIface 69 131 true).run Try.prog W = .ok (.tuple #[.agg #[.slice none 0 0, .nilIface], .bool false]) W := by kernel_rfl
theorem as3_3 (x : Value) (W : World) : (Instr.typeAssert (.iface 134 x) 69 134 true).run Try.prog W = .ok (.tuple #[x, .bool true]) W := by kernel_rfl
def GtPost (v : List UInt8) (w : World) (e : Ending) (w' : World) : Prop := ∃ (a : Option Addr) (n c : Nat), e = .returned (.slice a n c) ∧ Below w.heap.size w w' ∧ Bytes w' (.slice a n c) v
section
variable (pa va qa : Option Addr) (pn pc vn vc qn qc : Nat) (p v q : List UInt8) (w : World)
end
end Go.Proofs.Ytljbbpcnoajfeaa
/- (Get4) tree.get of any right tree. -/
namespace Go.Proofs.Ytljbbpcnoajfeaa
open Go.RowKit
def SlG (l : List UInt8) : Ty := fun v w => ∃ (a : Option Addr) (n c : Nat), v = .slice a n c ∧ Bytes w (.slice a n c) l
theorem SlG.mono (l : List UInt8) : Mono (SlG l) := fun _ _ _ ⟨a, n, c, h, h2⟩ hb => ⟨a, n, c, h, h2.below hb⟩
def getF (v : List UInt8) (ks : List Nd) : List UInt8 → List UInt8
  | [] => v
  | x :: q => getL ks x.toNat q
theorem below_dr {B : Nat} {a w : World} (h : Below B a w) (n : Nat) : Below B a (w.drewN n) := h.trans ⟨rfl, rfl, rfl, Nat.le_refl _, fun _ _ => rfl⟩
section
variable (pa va qa : Option Addr) (pn pc vn vc qn qc : Nat) (p v q : List UInt8) (w : World)
end
end Go.Proofs.Ytljbbpcnoajfeaa
