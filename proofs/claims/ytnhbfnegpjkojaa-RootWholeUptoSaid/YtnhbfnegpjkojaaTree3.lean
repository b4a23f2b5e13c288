/- A right tree is what grows of its routes, and the other way. -/
import Derived.Test.YtnhbfnegpjkojaaTree2
set_option linter.unusedSimpArgs false
set_option linter.unusedVariables false
namespace Go.Proofs.Ytnhbfnegpjkojaa
open Go.RowKit
theorem rtsL_at : ∀ {ks : List Nd} {ls : List (List Rt)}, rtsL ks = some ls → ls.length = ks.length ∧ ∀ (i : Nat) (k : Nd), ks[i]? = some k → ∃ l, ls[i]? = some l ∧ rts k = some l
  | [], ls, h => by
    simp only [rtsL, Option.some.injEq] at h
    subst h
    exact ⟨rfl, fun i k h => by simp at h⟩
  | k :: ks, ls, h => by
    unfold rtsL at h
    cases h1 : rts k with
    | none => rw [h1] at h; simp at h
    | some l =>
      rw [h1] at h
      dsimp only at h
      cases h2 : rtsL ks with
      | none => rw [h2] at h; simp at h
      | some ls' =>
        rw [h2] at h
        simp only [Option.some.injEq] at h
        subst h
        obtain ⟨h3, h4⟩ := rtsL_at h2
        refine ⟨by simp [h3], fun i k' hi => ?_⟩
        cases i with
        | zero => simp only [List.getElem?_cons_zero, Option.some.injEq] at hi; subst hi; exact ⟨l, rfl, h1⟩
        | succ i => simp only [List.getElem?_cons_succ] at hi; exact h4 i k' hi
theorem rtsL_all : ∀ {ks : List Nd}, (∀ k ∈ ks, ∃ l, rts k = some l) → ∃ ls, rtsL ks = some ls
  | [], _ => ⟨[], rfl⟩
  | k :: ks, h => by
    obtain ⟨l, hl⟩ := h k List.mem_cons_self
    obtain ⟨ls, hls⟩ := rtsL_all (ks := ks) (fun k' hk => h k' (List.mem_cons_of_mem _ hk))
    exact ⟨l :: ls, by unfold rtsL; rw [hl, hls]⟩
theorem rgtL_iff (d : Nat) : ∀ {ks : List Nd}, rgtL d ks = true ↔ ∀ k ∈ ks, rgt d k = true
  | [] => by simp [rgtL]
  | k :: ks => by simp [rgtL, rgtL_iff d (ks := ks)]
theorem sameL_iff : ∀ {ks : List Nd} {ks' : List Pn}, sameL ks ks' = true ↔ ks.length = ks'.length ∧ ∀ (i : Nat) k k', ks[i]? = some k → ks'[i]? = some k' → sameP k k' = true
  | [], [] => by simp [sameL]
  | [], _ :: _ => by simp [sameL]
  | _ :: _, [] => by simp [sameL]
  | k :: ks, k' :: ks' => by
    simp only [sameL, Bool.and_eq_true, sameL_iff (ks := ks) (ks' := ks'), List.length_cons, Nat.add_right_cancel_iff]
    constructor
    · rintro ⟨h1, h2, h3⟩
      refine ⟨h2, fun i a b ha hb => ?_⟩
      cases i with
      | zero => simp only [List.getElem?_cons_zero, Option.some.injEq] at ha hb; subst ha; subst hb; exact h1
      | succ i => simp only [List.getElem?_cons_succ] at ha hb; exact h3 i a b ha hb
    · rintro ⟨h2, h3⟩
      exact ⟨h3 0 k k' rfl rfl, h2, fun i a b ha hb => h3 (i + 1) a b (by simpa using ha) (by simpa using hb)⟩
theorem many_one : ∀ {ks : List Nd}, 1 ≤ manyP ks ↔ ∃ (j : Nat) (a : Nd), ks[j]? = some a ∧ a.kd ≠ 0
  | [] => by simp [manyP]
  | k :: ks => by
    have ih := many_one (ks := ks)
    unfold manyP
    by_cases h : k.kd = 0
    · rw [if_pos h, Nat.zero_add, ih]
      constructor
      · rintro ⟨j, a, h1, h2⟩; exact ⟨j + 1, a, by simpa using h1, h2⟩
      · rintro ⟨j, a, h1, h2⟩
        cases j with
        | zero => simp only [List.getElem?_cons_zero, Option.some.injEq] at h1; subst h1; exact absurd h h2
        | succ j => exact ⟨j, a, by simpa using h1, h2⟩
    · rw [if_neg h]
      exact ⟨fun _ => ⟨0, k, rfl, h⟩, fun _ => by omega⟩
theorem many_two : ∀ {ks : List Nd}, 2 ≤ manyP ks ↔ ∃ (i j : Nat) (a b : Nd), i < j ∧ ks[i]? = some a ∧ a.kd ≠ 0 ∧ ks[j]? = some b ∧ b.kd ≠ 0
  | [] => by simp [manyP]
  | k :: ks => by
    have ih := many_two (ks := ks)
    have ih1 := many_one (ks := ks)
    unfold manyP
    by_cases h : k.kd = 0
    · rw [if_pos h, Nat.zero_add, ih]
      constructor
      · rintro ⟨i, j, a, b, h0, h1, h2, h3, h4⟩; exact ⟨i + 1, j + 1, a, b, by omega, by simpa using h1, h2, by simpa using h3, h4⟩
      · rintro ⟨i, j, a, b, h0, h1, h2, h3, h4⟩
        cases i with
        | zero => simp only [List.getElem?_cons_zero, Option.some.injEq] at h1; subst h1; exact absurd h h2
        | succ i =>
          cases j with
          | zero => omega
          | succ j => exact ⟨i, j, a, b, by omega, by simpa using h1, h2, by simpa using h3, h4⟩
    · rw [if_neg h]
      constructor
      · intro h2
        obtain ⟨j, a, h3, h4⟩ := ih1.1 (by omega)
        exact ⟨0, j + 1, k, a, by omega, rfl, h, by simpa using h3, h4⟩
      · rintro ⟨i, j, a, b, h0, h1, h2, h3, h4⟩
        cases j with
        | zero => omega
        | succ j =>
          have := ih1.2 ⟨j, b, by simpa using h3, h4⟩
          omega
def hdP (l : List Rt) : Rt := l.head?.getD ([], [])
theorem grw_two (n : Nat) (l : List Rt) (h : 2 ≤ l.length) : grw (n + 1) l = if 0 < fl l then .mk 2 ((hdP l).1.take (fl l)) [] [grw n (shorterP (fl l) l)]
    else .mk 3 [] (if (hdP l).1 = [] then (hdP l).2 else []) ((List.range 16).map fun i => grw n (shorterP 1 (partP i (if (hdP l).1 = [] then l.tail else l)))) := by
  cases l with
  | nil => simp at h
  | cons r l =>
    cases l with
    | nil => simp at h
    | cons r' l' =>
      have hz : fl (r :: r' :: l') = com r.1 ((r' :: l').getLast (by simp)).1 := by
        unfold fl
        have h2 : (r :: r' :: l').getLast? = some ((r' :: l').getLast (by simp)) := by rw [List.getLast?_cons_cons, List.getLast?_eq_some_getLast (by simp)]
        rw [h2]
        rfl
      rw [hz]
      rfl
def bdP (v : List UInt8) (ls : List (List Rt)) : List Rt := (if v = [] then [] else [([], v)]) ++ cat 0 ls
theorem bd_kid {v : List UInt8} {ls : List (List Rt)} (h : bdP v ls ≠ []) : (if (hdP (bdP v ls)).1 = [] then (hdP (bdP v ls)).2 else []) = v ∧ (if (hdP (bdP v ls)).1 = [] then (bdP v ls).tail else bdP v ls) = cat 0 ls := by
  unfold bdP at h ⊢
  by_cases hv : v = []
  · subst hv
    rw [if_pos rfl, List.nil_append] at h ⊢
    cases hc : cat 0 ls with
    | nil => exact absurd hc h
    | cons a l' =>
      obtain ⟨j, lj, hj, s, hs, ha⟩ := cat_mem (i := 0) (ls := ls) (r := a) (by rw [hc]; exact List.mem_cons_self)
      have : (hdP (a :: l')).1 ≠ [] := by show a.1 ≠ []; rw [ha]; simp
      rw [if_neg this, if_neg this]
      exact ⟨rfl, rfl⟩
  · rw [if_neg hv]
    exact ⟨rfl, rfl⟩
theorem fl_bd {v : List UInt8} {ls : List (List Rt)} (hv : v ≠ []) : fl (bdP v ls) = 0 := by
  unfold fl bdP
  rw [if_neg hv]
  exact com_nil _
theorem range16 (f : Nat → Pn) (i : Nat) (x : Pn) (h : ((List.range 16).map f)[i]? = some x) : i < 16 ∧ x = f i := by
  rw [List.getElem?_map] at h
  have hi : i < 16 := by
    rcases Nat.lt_or_ge i 16 with h1 | h1
    · exact h1
    · rw [List.getElem?_eq_none (by simpa using h1)] at h; simp at h
  rw [List.getElem?_range hi] at h
  simp only [Option.map_some, Option.some.injEq] at h
  exact ⟨hi, h.symm⟩
theorem part_bd {ls : List (List Rt)} (hl : ls.length = 16) (i : Nat) : shorterP 1 (partP i (cat 0 ls)) = ls[i]?.getD [] := by
  rw [part_cat ls 0 i (by omega), if_pos (Nat.zero_le _), Nat.sub_zero]
  exact shorter_pre [UInt8.ofNat i] _
theorem grw_nil (m : Nat) : grw m [] = .mk 0 [] [] [] := by cases m <;> rfl
theorem endsP_iff (d : Nat) : endsP d = true ↔ d % 2 = 0 ∧ d ≤ 64 := by unfold endsP; simp
/-- a right tree is what grows of its routes, and these are fine -/
theorem rgt_grw : ∀ (n : Nat) (t : Nd), SizeOf.sizeOf t ≤ n → ∀ d, rgt d t = true → ∃ l, rts t = some l ∧ (∀ r ∈ l, fineP d r) ∧ (t.kd ≠ 0 → l ≠ []) ∧ (t.kd = 3 → 2 ≤ l.length ∧ fl l = 0) ∧ ∀ m, (∀ r ∈ l, r.1.length < m) → sameP t (grw m l) = true
  | 0, .mk kd pv p vv v kv ks, h, d, _ => by simp at h
  | n + 1, .mk kd pv p vv v kv ks, h, d, hr => by
    have hks : ∀ k ∈ ks, SizeOf.sizeOf k ≤ n := by
      intro k hk
      have := List.sizeOf_lt_of_mem hk
      simp only [Nd.mk.sizeOf_spec] at h
      omega
    unfold rgt at hr
    by_cases h0 : kd = 0
    · subst h0
      exact ⟨[], by simp [rts], by simp, fun e => absurd rfl e, fun e => by simp [Nd.kd] at e, fun m _ => by rw [grw_nil]; simp [sameP]⟩
    · rw [if_neg h0] at hr
      by_cases h1 : kd = 1
      · subst h1
        rw [if_pos rfl] at hr
        simp only [Bool.and_eq_true, decide_eq_true_eq, endsP_iff] at hr
        obtain ⟨⟨⟨hh, he1, he2⟩, hv1⟩, hv2⟩ := hr
        refine ⟨[(p, v)], by simp [rts, hh], ?_, by simp, fun e => by simp [Nd.kd] at e, fun m hm => ?_⟩
        · intro r hr
          simp only [List.mem_singleton] at hr
          subst hr
          exact ⟨he1, he2, hv1, hv2⟩
        · cases m with
          | zero => have := hm _ (List.mem_singleton.2 rfl); omega
          | succ m => simp [grw, sameP]
      · rw [if_neg h1] at hr
        by_cases h2 : kd = 2
        · subst h2
          rw [if_pos rfl] at hr
          simp only [Bool.and_eq_true, decide_eq_true_eq] at hr
          obtain ⟨⟨⟨⟨hp, hh⟩, hl⟩, hk3⟩, hrk⟩ := hr
          obtain ⟨k, rfl⟩ := List.length_eq_one_iff.1 hl
          simp only [List.getElem?_cons_zero, Option.map_some, Option.getD_some] at hk3
          rw [rgtL_iff] at hrk
          obtain ⟨l, hl1, hl2, hl3, hl4, hl5⟩ := rgt_grw n k (hks k (List.mem_singleton.2 rfl)) _ (hrk k (List.mem_singleton.2 rfl))
          obtain ⟨h2l, hf⟩ := hl4 hk3
          have hne : l ≠ [] := fun e => by rw [e] at h2l; simp at h2l
          have hr : rts (.mk 2 pv p vv v kv [k]) = some (pre p l) := by
            simp [rts, hh, rtsL, hl1]
          refine ⟨pre p l, hr, ?_, ?_, fun e => by simp [Nd.kd] at e, ?_⟩
          · intro r hr
            obtain ⟨s, hs, rfl⟩ := pre_mem hr
            have := hl2 s hs
            unfold fineP at this ⊢
            simp only [List.length_append, ← Nat.add_assoc]
            exact this
          · intro _ e
            have := congrArg List.length e
            rw [pre_len] at this
            simp at this
            exact hne this
          · intro m hm
            have hs0 : ∀ s ∈ l, p.length + s.1.length < m := fun s hs => by have := hm _ (mem_pre hs); simpa using this
            cases m with
            | zero => obtain ⟨s, hs⟩ := List.exists_mem_of_ne_nil l hne; have := hs0 s hs; omega
            | succ m =>
              have hfl : fl (pre p l) = p.length := by rw [fl_pre p l hne, hf]; rfl
              rw [grw_two m _ (by rw [pre_len]; exact h2l), hfl, if_pos hp, shorter_pre]
              have hhd : (hdP (pre p l)).1.take p.length = p := by
                cases l with
                | nil => exact absurd rfl hne
                | cons a l => simp [hdP, pre]
              rw [hhd]
              have := hl5 m (fun r hr => by have := hs0 r hr; omega)
              simp [sameP, sameL, this]
        · rw [if_neg h2] at hr
          by_cases h3 : kd = 3
          · subst h3
            rw [if_pos rfl] at hr
            simp only [Bool.and_eq_true, decide_eq_true_eq, Bool.or_eq_true, endsP_iff] at hr
            obtain ⟨⟨⟨⟨hl, hv⟩, he⟩, hrk⟩, hm2⟩ := hr
            rw [rgtL_iff] at hrk
            have ih := fun k (hk : k ∈ ks) => rgt_grw n k (hks k hk) _ (hrk k hk)
            obtain ⟨ls, hls⟩ := rtsL_all (fun k hk => (ih k hk).imp fun l hl => hl.1)
            obtain ⟨hll, hat⟩ := rtsL_at hls
            have hr : rts (.mk 3 pv p vv v kv ks) = some (bdP v ls) := by
              simp [rts, hls, hl, bdP]
            have hkid : ∀ (i : Nat) (k : Nd), ks[i]? = some k → ∃ l, ls[i]? = some l ∧ (∀ r ∈ l, fineP (d + 1) r) ∧ (k.kd ≠ 0 → l ≠ []) ∧ ∀ m, (∀ r ∈ l, r.1.length < m) → sameP k (grw m l) = true := by
              intro i k hk
              obtain ⟨l, hl1, hl2⟩ := hat i k hk
              obtain ⟨l', hl1', a, b, _, c⟩ := ih k (List.mem_of_getElem? hk)
              rw [hl2] at hl1'
              cases hl1'
              exact ⟨l, hl1, a, b, c⟩
            have hkat : ∀ (i : Nat) (l : List Rt), ls[i]? = some l → ∃ k, ks[i]? = some k := by
              intro i l hi
              have := (List.getElem?_eq_some_iff.1 hi).1
              exact ⟨ks[i]'(by omega), List.getElem?_eq_getElem (by omega)⟩
            have hfl : fl (bdP v ls) = 0 ∧ 2 ≤ (bdP v ls).length := by
              by_cases hvn : v = []
              · have h2m : 2 ≤ manyP ks := by rw [hvn] at hm2; simp at hm2; exact hm2
                obtain ⟨i, j, a, b, hij, ha, ha0, hb, hb0⟩ := many_two.1 h2m
                obtain ⟨la, hla, _, hna, _⟩ := hkid i a ha
                obtain ⟨lb, hlb, _, hnb, _⟩ := hkid j b hb
                have hf : fl (cat 0 ls) = 0 := cat_fl (by omega) hij hla (hna ha0) hlb (hnb hb0)
                unfold bdP
                rw [if_pos hvn, List.nil_append]
                refine ⟨hf, ?_⟩
                obtain ⟨s, hs⟩ := List.exists_mem_of_ne_nil la (hna ha0)
                have hm1 := mem_cat (i := 0) hla hs
                match hc : cat 0 ls with
                | [] => rw [hc] at hm1; simp at hm1
                | [x] =>
                  rw [hc] at hf
                  obtain ⟨j, lj, hj, s, hs, ha⟩ := cat_mem (i := 0) (ls := ls) (r := x) (by rw [hc]; exact List.mem_cons_self)
                  rw [ha] at hf
                  simp [fl, com] at hf
                | _ :: _ :: _ => simp
              · refine ⟨fl_bd hvn, ?_⟩
                have hvl : 1 ≤ v.length := by cases v with | nil => exact absurd rfl hvn | cons _ _ => simp
                have h1m : 1 ≤ manyP ks := by have : min v.length 1 = 1 := by omega
                                              omega
                obtain ⟨i, a, ha, ha0⟩ := many_one.1 h1m
                obtain ⟨la, hla, _, hna, _⟩ := hkid i a ha
                obtain ⟨s, hs⟩ := List.exists_mem_of_ne_nil la (hna ha0)
                have hm1 := mem_cat (i := 0) hla hs
                have := List.length_pos_of_mem hm1
                unfold bdP
                rw [if_neg hvn, List.length_append]
                simp only [List.length_singleton]
                omega
            obtain ⟨hf, h2l⟩ := hfl
            have hne : bdP v ls ≠ [] := fun e => by rw [e] at h2l; simp at h2l
            refine ⟨bdP v ls, hr, ?_, fun _ => hne, fun _ => ⟨h2l, hf⟩, ?_⟩
            · intro r hr
              unfold bdP at hr
              rw [List.mem_append] at hr
              rcases hr with hr | hr
              · split at hr
                · simp at hr
                · rename_i hvn
                  simp only [List.mem_singleton] at hr
                  subst hr
                  have hvl : v.length ≠ 0 := fun e => hvn (List.eq_nil_of_length_eq_zero e)
                  rcases he with he | he
                  · exact absurd he hvl
                  · exact ⟨by simpa using he.1, by simpa using he.2, by show 0 < v.length; omega, hv⟩
              · obtain ⟨j, l, hj, s, hs, rfl⟩ := cat_mem hr
                obtain ⟨k, hk⟩ := hkat j l hj
                obtain ⟨l', hl1, hl2, _⟩ := hkid j k hk
                rw [hj] at hl1
                cases hl1
                have := hl2 s hs
                unfold fineP at this ⊢
                simp only [List.length_cons]
                obtain ⟨a, b, c, e⟩ := this
                exact ⟨by omega, by omega, c, e⟩
            · intro m hm
              cases m with
              | zero => obtain ⟨s, hs⟩ := List.exists_mem_of_ne_nil _ hne; have := hm s hs; omega
              | succ m =>
                obtain ⟨hb1, hb2⟩ := bd_kid hne
                rw [grw_two m _ h2l, hf, if_neg (by omega), hb1, hb2]
                have : sameL ks ((List.range 16).map fun i => grw m (shorterP 1 (partP i (cat 0 ls)))) = true := by
                  rw [sameL_iff]
                  refine ⟨by simp [hl], fun i k x hk hx => ?_⟩
                  obtain ⟨hi, rfl⟩ := range16 _ i x hx
                  obtain ⟨l, hl1, _, _, hl4⟩ := hkid i k hk
                  rw [part_bd (by omega) i, hl1]
                  refine hl4 m (fun r hr => ?_)
                  have := hm (UInt8.ofNat (0 + i) :: r.1, r.2) (by unfold bdP; rw [List.mem_append]; exact .inr (mem_cat hl1 hr))
                  simp only [List.length_cons] at this
                  omega
                simp [sameP, this]
          · rw [if_neg h3] at hr
            simp at hr
/-- what grows of its fine routes is right -/
theorem grw_rgt : ∀ (n : Nat) (t : Nd), SizeOf.sizeOf t ≤ n → ∀ d l m, rts t = some l → (∀ r ∈ l, fineP d r) → (∀ r ∈ l, r.1.length < m) → sameP t (grw m l) = true → rgt d t = true
  | 0, .mk kd pv p vv v kv ks, h, d, l, m, _, _, _, _ => by simp at h
  | n + 1, .mk kd pv p vv v kv ks, h, d, l, m, hr, hf, hm, hs => by
    have hks : ∀ k ∈ ks, SizeOf.sizeOf k ≤ n := by
      intro k hk
      have := List.sizeOf_lt_of_mem hk
      simp only [Nd.mk.sizeOf_spec] at h
      omega
    unfold rts at hr
    by_cases hh : (kd = 1 ∨ kd = 2) ∧ half p = false
    · rw [if_pos hh] at hr; simp at hr
    · rw [if_neg hh] at hr
      by_cases h0 : kd = 0
      · unfold rgt; rw [if_pos h0]
      · rw [if_neg h0] at hr
        by_cases h1 : kd = 1
        · subst h1
          rw [if_pos rfl] at hr
          simp only [Option.some.injEq] at hr
          subst hr
          obtain ⟨a, b, c, e⟩ := hf _ (List.mem_singleton.2 rfl)
          have hh2 : half p = true := by cases hx : half p with | true => rfl | false => exact absurd ⟨.inl rfl, hx⟩ hh
          unfold rgt
          simp only [Int.reduceEq, reduceIte, Bool.and_eq_true, decide_eq_true_eq, endsP_iff]
          exact ⟨⟨⟨hh2, a, b⟩, c⟩, e⟩
        · rw [if_neg h1] at hr
          by_cases h2 : kd = 2 ∧ ks.length = 1
          · rw [if_pos h2] at hr
            obtain ⟨h2, hl⟩ := h2
            subst h2
            obtain ⟨k, rfl⟩ := List.length_eq_one_iff.1 hl
            have hh2 : half p = true := by cases hx : half p with | true => rfl | false => exact absurd ⟨.inr rfl, hx⟩ hh
            cases hrk : rts k with
            | none => simp [rtsL, hrk] at hr
            | some l' =>
              simp only [rtsL, hrk, Option.map_some, List.flatten_cons, List.flatten_nil, List.append_nil, Option.some.injEq] at hr
              subst hr
              have h2l : 2 ≤ (pre p l').length := by
                match hc : pre p l' with
                | [] => rw [hc, grw_nil] at hs; simp [sameP] at hs
                | [x] => rw [hc] at hs; cases m <;> simp [sameP, grw] at hs
                | _ :: _ :: _ => simp
              cases m with
              | zero => simp [grw, sameP] at hs
              | succ m =>
                rw [grw_two m _ h2l] at hs
                rw [pre_len] at h2l
                have hne : l' ≠ [] := fun e => by rw [e] at h2l; simp at h2l
                have hflp := fl_pre p l' hne
                split at hs
                · rename_i hpos
                  simp only [sameP, sameL, ne_eq, not_true_eq_false, reduceIte, Int.reduceEq, Bool.and_eq_true, beq_iff_eq, and_true] at hs
                  obtain ⟨hs1, hs2⟩ := hs
                  have hcl : fl (pre p l') ≤ (hdP (pre p l')).1.length := by
                    unfold fl hdP
                    cases hc : pre p l' with
                    | nil => simp [com]
                    | cons a q => exact (com_le _ _).1
                  have hpl : p.length = fl (pre p l') := by
                    have := congrArg List.length hs1
                    rw [List.length_take] at this
                    omega
                  have hf0 : fl l' = 0 := by omega
                  rw [← hpl, shorter_pre] at hs2
                  have hmm : ∀ r ∈ l', r.1.length < m := by
                    intro r hr
                    have := hm _ (mem_pre (p := p) hr)
                    simp only [List.length_append] at this
                    omega
                  have hfn : ∀ r ∈ l', fineP (d + p.length) r := by
                    intro r hr
                    have := hf _ (mem_pre (p := p) hr)
                    unfold fineP at this ⊢
                    simp only [List.length_append, ← Nat.add_assoc] at this
                    exact this
                  have hrg := grw_rgt n k (hks k (List.mem_singleton.2 rfl)) _ _ _ hrk hfn hmm hs2
                  have hk3 : k.kd = 3 := by
                    cases m with
                    | zero => obtain ⟨s, hs⟩ := List.exists_mem_of_ne_nil l' hne; have := hmm s hs; omega
                    | succ m =>
                      rw [grw_two m _ h2l, hf0, if_neg (by omega)] at hs2
                      obtain ⟨kd', pv', p', vv', v', kv', ks'⟩ := k
                      unfold sameP at hs2
                      show kd' = 3
                      by_cases hx : kd' = 3
                      · exact hx
                      · rw [if_pos hx] at hs2; simp at hs2
                  unfold rgt
                  simp only [Int.reduceEq, reduceIte, Bool.and_eq_true, decide_eq_true_eq, rgtL, hrg, hh2, List.length_singleton, List.getElem?_cons_zero, Option.map_some, Option.getD_some, hk3, and_true]
                  omega
                · simp [sameP] at hs
          · rw [if_neg h2] at hr
            by_cases h3 : kd = 3 ∧ ks.length = 16
            · rw [if_pos h3] at hr
              obtain ⟨h3, hl⟩ := h3
              subst h3
              cases hls : rtsL ks with
              | none => rw [hls] at hr; simp at hr
              | some ls =>
                rw [hls] at hr
                simp only [Option.map_some, Option.some.injEq] at hr
                change bdP v ls = l at hr
                subst hr
                obtain ⟨hll, hat⟩ := rtsL_at hls
                have h2l : 2 ≤ (bdP v ls).length := by
                  match hc : bdP v ls with
                  | [] => rw [hc, grw_nil] at hs; simp [sameP] at hs
                  | [x] => rw [hc] at hs; cases m <;> simp [sameP, grw] at hs
                  | _ :: _ :: _ => simp
                have hne : bdP v ls ≠ [] := fun e => by rw [e] at h2l; simp at h2l
                cases m with
                | zero => simp [grw, sameP] at hs
                | succ m =>
                  rw [grw_two m _ h2l] at hs
                  split at hs
                  · simp [sameP] at hs
                  · rename_i hpos
                    obtain ⟨hb1, hb2⟩ := bd_kid hne
                    rw [hb1, hb2] at hs
                    simp only [sameP, ne_eq, not_true_eq_false, reduceIte, Int.reduceEq, Bool.and_eq_true, beq_iff_eq, true_and, sameL_iff] at hs
                    obtain ⟨_, hs⟩ := hs
                    have hrk : ∀ k ∈ ks, rgt (d + 1) k = true := by
                      intro k hk
                      obtain ⟨i, hi⟩ := List.getElem?_of_mem hk
                      obtain ⟨li, hli, hrk⟩ := hat i k hi
                      have hi16 : i < 16 := by have := (List.getElem?_eq_some_iff.1 hi).1; omega
                      have hsi := hs i k (grw m (shorterP 1 (partP i (cat 0 ls)))) hi (by rw [List.getElem?_map, List.getElem?_range hi16]; rfl)
                      rw [part_bd (by omega) i, hli] at hsi
                      refine grw_rgt n k (hks k hk) _ _ _ hrk (fun r hr => ?_) (fun r hr => ?_) hsi
                      · have := hf (UInt8.ofNat (0 + i) :: r.1, r.2) (by unfold bdP; rw [List.mem_append]; exact .inr (mem_cat hli hr))
                        unfold fineP at this ⊢
                        simp only [List.length_cons] at this
                        obtain ⟨a, b, c, e⟩ := this
                        exact ⟨by omega, by omega, c, e⟩
                      · have := hm (UInt8.ofNat (0 + i) :: r.1, r.2) (by unfold bdP; rw [List.mem_append]; exact .inr (mem_cat hli hr))
                        simp only [List.length_cons] at this
                        omega
                    have hnon : ∀ (i : Nat) (li : List Rt), ls[i]? = some li → li ≠ [] → ∃ k, ks[i]? = some k ∧ k.kd ≠ 0 := by
                      intro i li hi hn
                      have hi1 := (List.getElem?_eq_some_iff.1 hi).1
                      have hk : ks[i]? = some (ks[i]'(by omega)) := List.getElem?_eq_getElem (by omega)
                      refine ⟨_, hk, fun e => hn ?_⟩
                      obtain ⟨li', h1, h2⟩ := hat i _ hk
                      rw [hi] at h1
                      cases h1
                      revert e h2
                      generalize ks[i]'(by omega) = k
                      intro e h2
                      obtain ⟨kd', pv', p', vv', v', kv', ks'⟩ := k
                      change kd' = 0 at e
                      subst e
                      simp [rts] at h2
                      exact h2
                    have hval : v.length ≤ 1024 ∧ (v.length = 0 ∨ endsP d = true) := by
                      by_cases hvn : v = []
                      · subst hvn; exact ⟨by simp, .inl rfl⟩
                      · obtain ⟨a, b, c, e⟩ := hf ([], v) (by unfold bdP; rw [if_neg hvn]; simp)
                        exact ⟨e, .inr ((endsP_iff d).2 ⟨by simpa using a, by simpa using b⟩)⟩
                    have hmany : 2 ≤ min v.length 1 + manyP ks := by
                      by_cases hvn : v = []
                      · have hbd : bdP v ls = cat 0 ls := by unfold bdP; rw [if_pos hvn]; rfl
                        rw [hbd] at hne hpos
                        obtain ⟨j, k, hjk, ⟨lj, hlj, hnj⟩, lk, hlk, hnk⟩ := fl_cat (i := 0) (ls := ls) (by omega) (by omega) hne
                        obtain ⟨a, ha, ha0⟩ := hnon j lj hlj hnj
                        obtain ⟨b, hb, hb0⟩ := hnon k lk hlk hnk
                        have := many_two.2 ⟨j, k, a, b, hjk, ha, ha0, hb, hb0⟩
                        omega
                      · have hvl : 1 ≤ v.length := by cases v with | nil => exact absurd rfl hvn | cons _ _ => simp
                        have hc : cat 0 ls ≠ [] := by
                          intro e
                          unfold bdP at h2l
                          rw [e, if_neg hvn] at h2l
                          simp at h2l
                        obtain ⟨x, hx⟩ := List.exists_mem_of_ne_nil _ hc
                        obtain ⟨j, lj, hj, s, hs, _⟩ := cat_mem hx
                        obtain ⟨a, ha, ha0⟩ := hnon j lj hj (List.ne_nil_of_mem hs)
                        have := many_one.2 ⟨j, a, ha, ha0⟩
                        have : min v.length 1 = 1 := by omega
                        omega
                    unfold rgt
                    simp only [Int.reduceEq, reduceIte, Bool.and_eq_true, decide_eq_true_eq, Bool.or_eq_true, rgtL_iff]
                    exact ⟨⟨⟨⟨hl, hval.1⟩, hval.2⟩, hrk⟩, hmany⟩
            · rw [if_neg h3] at hr
              simp at hr
/-- the two answers -/
theorem rgt_iff (t : Nd) (m : Nat) (hm : 65 ≤ m) : rgt 0 t = match rts t with | none => false | some l => l.all (fun r => decide (fineP 0 r)) && sameP t (grw m l) := by
  cases hr : rgt 0 t with
  | true =>
    obtain ⟨l, h1, h2, _, _, h3⟩ := rgt_grw (SizeOf.sizeOf t) t (Nat.le_refl _) 0 hr
    rw [h1]
    dsimp only
    have h4 := h3 m (fun r hr => by have := (h2 r hr).2.1; omega)
    rw [h4, Bool.and_true]
    symm
    rw [List.all_eq_true]
    exact fun r hr => decide_eq_true (h2 r hr)
  | false =>
    cases hl : rts t with
    | none => rfl
    | some l =>
      dsimp only
      symm
      rw [← Bool.not_eq_true, Bool.and_eq_true, List.all_eq_true]
      rintro ⟨h1, h2⟩
      have := grw_rgt (SizeOf.sizeOf t) t (Nat.le_refl _) 0 l m hl (fun r hr => of_decide_eq_true (h1 r hr)) (fun r hr => by have := (of_decide_eq_true (h1 r hr)).2.1; omega) h2
      rw [this] at hr
      simp at hr
end Go.Proofs.Ytnhbfnegpjkojaa
