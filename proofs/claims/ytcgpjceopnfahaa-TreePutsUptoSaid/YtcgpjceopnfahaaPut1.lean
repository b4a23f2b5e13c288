/- Putting into a tree of routes: plain Lean. -/
import Derived.Test.YtcgpjceopnfahaaTreeP
set_option linter.unusedSimpArgs false
set_option linter.unusedVariables false
namespace Go.Proofs.Ytcgpjceopnfahaa
open Go.RowKit
def nP : Pn := .mk 0 [] [] []
def Pn.kd : Pn → Int
  | .mk kd _ _ _ => kd
def Pn.val : Pn → List UInt8
  | .mk _ _ v _ => v
def nibs (p : List UInt8) : Prop := ∀ x ∈ p, x.toNat < 16
/-- a node so much deeper -/
def behindQ (p : List UInt8) : Pn → Pn
  | .mk kd q u ks => if p = [] then .mk kd q u ks
    else if kd = 1 then .mk 1 (p ++ q) u []
    else if kd = 2 then .mk 2 (p ++ q) [] ks
    else if kd = 3 then .mk 2 p [] [.mk kd q u ks]
    else nP
def cntQ : List Pn → Nat
  | [] => 0
  | k :: ks => (if k.kd = 0 then 0 else 1) + cntQ ks
def lastQ : List Pn → Nat → Nat → Nat
  | [], _, a => a
  | k :: ks, i, a => lastQ ks (i + 1) (if k.kd = 0 then a else i)
/-- what a fork is with what it has -/
def tidyQ (v : List UInt8) (ks : List Pn) : Pn :=
  if 2 ≤ min v.length 1 + cntQ ks then .mk 3 [] v ks
  else if min v.length 1 + cntQ ks = 0 then nP
  else if 0 < v.length then .mk 1 [] v []
  else behindQ [UInt8.ofNat (lastQ ks 0 0)] (ks[lastQ ks 0 0]?.getD nP)
def withQ (p : List UInt8) (a : Pn) : List UInt8 × List Pn := match p with
  | [] => (if a.kd = 1 then a.val else [], List.replicate 16 nP)
  | x :: r => ([], (List.replicate 16 nP).set x.toNat (behindQ r a))
/-- two that go on unlike behind c halves -/
def partQ (c : Nat) (q : List UInt8) (a : Pn) (p v : List UInt8) : Pn :=
  behindQ (q.take c) (.mk 3 [] (if p.length = c then v else (withQ (q.drop c) a).1) (if p.length = c then (withQ (q.drop c) a).2 else (withQ (q.drop c) a).2.set (p[c]?.getD 0).toNat (.mk 1 (p.drop (c + 1)) v [])))
mutual
def putQ : Pn → List UInt8 → List UInt8 → Pn
  | .mk kd q u ks, p, v =>
    if kd = 1 then
      if com q p = p.length ∧ com q p = q.length then (if v = [] then nP else .mk 1 p v [])
      else if v = [] then .mk 1 q u []
      else partQ (com q p) q (.mk 1 [] u []) p v
    else if kd = 2 then
      if com q p = q.length then behindQ q ((putQL ks 0 (p.drop (com q p)) v)[0]?.getD nP)
      else if v = [] then .mk 2 q [] ks
      else partQ (com q p) q (ks[0]?.getD nP) p v
    else if kd = 3 then (match p with
      | [] => tidyQ v ks
      | x :: p => tidyQ u (putQL ks x.toNat p v))
    else if v = [] then nP else .mk 1 p v []
def putQL : List Pn → Nat → List UInt8 → List UInt8 → List Pn
  | [], _, _, _ => []
  | k :: ks, 0, p, v => putQ k p v :: ks
  | k :: ks, i + 1, p, v => k :: putQL ks i p v
end
theorem putQL_set : ∀ (ks : List Pn) (i : Nat) (p v : List UInt8), putQL ks i p v = ks.set i (putQ (ks[i]?.getD nP) p v)
  | [], i, p, v => by simp [putQL]
  | k :: ks, 0, p, v => by simp [putQL]
  | k :: ks, i + 1, p, v => by simp only [putQL, putQL_set ks i p v]; rfl
/-- what grows of routes -/
inductive Grows : List Rt → Pn → Prop where
  | none : Grows [] nP
  | leaf (p v : List UInt8) (hv : v ≠ []) (hp : nibs p) : Grows [(p, v)] (.mk 1 p v [])
  | road (p : List UInt8) (l : List Rt) (k : Pn) (hp : p ≠ []) (hn : nibs p) (h : Grows l k) (hk : k.kd = 3) : Grows (pre p l) (.mk 2 p [] [k])
  | fork (v : List UInt8) (ls : List (List Rt)) (ks : List Pn) (hl : ls.length = 16) (hk : ks.length = 16) (h : ∀ (i : Nat) (l : List Rt) (k : Pn), ls[i]? = some l → ks[i]? = some k → Grows l k) (hm : 2 ≤ min v.length 1 + cntQ ks) : Grows (bdP v ls) (.mk 3 [] v ks)
theorem cnt_one {ks : List Pn} (h : 1 ≤ cntQ ks) : ∃ (j : Nat) (k : Pn), ks[j]? = some k ∧ k.kd ≠ 0 := by
  induction ks with
  | nil => simp [cntQ] at h
  | cons k ks ih =>
    by_cases hk : k.kd = 0
    · simp only [cntQ, if_pos hk, Nat.zero_add] at h
      obtain ⟨j, a, h1, h2⟩ := ih h
      exact ⟨j + 1, a, h1, h2⟩
    · exact ⟨0, k, rfl, hk⟩
theorem cnt_two {ks : List Pn} (h : 2 ≤ cntQ ks) : ∃ (i j : Nat) (a b : Pn), i < j ∧ ks[i]? = some a ∧ a.kd ≠ 0 ∧ ks[j]? = some b ∧ b.kd ≠ 0 := by
  induction ks with
  | nil => simp [cntQ] at h
  | cons k ks ih =>
    by_cases hk : k.kd = 0
    · simp only [cntQ, if_pos hk, Nat.zero_add] at h
      obtain ⟨i, j, a, b, h1, h2, h3, h4, h5⟩ := ih h
      exact ⟨i + 1, j + 1, a, b, by omega, h2, h3, h4, h5⟩
    · simp only [cntQ, if_neg hk] at h
      obtain ⟨j, b, h1, h2⟩ := cnt_one (ks := ks) (by omega)
      exact ⟨0, j + 1, k, b, by omega, rfl, hk, h1, h2⟩
theorem cnt_zero {ks : List Pn} (h : cntQ ks = 0) : ∀ (i : Nat) (k : Pn), ks[i]? = some k → k.kd = 0 := by
  induction ks with
  | nil => intro i k h; simp at h
  | cons a ks ih =>
    simp only [cntQ] at h
    intro i k hk
    cases i with
    | zero =>
      simp only [List.getElem?_cons_zero, Option.some.injEq] at hk
      subst hk
      by_cases h0 : a.kd = 0
      · exact h0
      · rw [if_neg h0] at h; omega
    | succ i => exact ih (by omega) i k hk
theorem cnt_set {ks : List Pn} {i : Nat} {a k : Pn} (h : ks[i]? = some a) (ha : a.kd = 0) (hk : k.kd ≠ 0) : cntQ (ks.set i k) = cntQ ks + 1 := by
  induction ks generalizing i with
  | nil => simp at h
  | cons x ks ih =>
    cases i with
    | zero =>
      simp only [List.getElem?_cons_zero, Option.some.injEq] at h
      subst h
      simp only [List.set_cons_zero, cntQ, if_neg hk, if_pos ha]; omega
    | succ i =>
      simp only [List.set_cons_succ, cntQ]
      rw [ih h]; omega
theorem cnt_rep (n : Nat) : cntQ (List.replicate n nP) = 0 := by
  induction n with
  | zero => rfl
  | succ n ih => rw [List.replicate_succ, cntQ, ih]; rfl
theorem cat_rep (n i : Nat) : cat i (List.replicate n []) = [] := by
  induction n generalizing i with
  | zero => rfl
  | succ n ih => rw [List.replicate_succ, cat, ih]; rfl
theorem cat_ne {ls : List (List Rt)} {j : Nat} {l : List Rt} (h : ls[j]? = some l) (hl : l ≠ []) : ∀ i, cat i ls ≠ [] := fun i e => hl ((cat_nil_iff ls i).1 e l (List.mem_of_getElem? h))
theorem bd_ne {v : List UInt8} {ls : List (List Rt)} (h : v ≠ [] ∨ cat 0 ls ≠ []) : bdP v ls ≠ [] := by
  unfold bdP
  rcases h with h | h
  · rw [if_neg h]; simp
  · simp [h]
/-- nothing grows of nothing alone -/
theorem Grows.kd {l : List Rt} {t : Pn} (h : Grows l t) : (t.kd = 0 → l = []) ∧ (l = [] → t = nP) ∧ (t.kd = 0 ∨ t.kd = 1 ∨ t.kd = 2 ∨ t.kd = 3) := by
  induction h with
  | none => exact ⟨fun _ => rfl, fun _ => rfl, .inl rfl⟩
  | leaf p v hv hp => exact ⟨fun h => by simp [Pn.kd] at h, fun h => by simp at h, .inr (.inl rfl)⟩
  | road p l k hp hn h hk ih =>
    refine ⟨fun h => by simp [Pn.kd] at h, fun e => ?_, .inr (.inr (.inl rfl))⟩
    have hl : l = [] := by
      cases l with
      | nil => rfl
      | cons r l => simp [pre] at e
    have := ih.2.1 hl
    rw [this] at hk; simp [nP, Pn.kd] at hk
  | fork v ls ks hl hk h hm ih =>
    refine ⟨fun h => by simp [Pn.kd] at h, fun e => ?_, .inr (.inr (.inr rfl))⟩
    exfalso
    refine bd_ne (v := v) (ls := ls) ?_ e
    by_cases hv : v = []
    · subst hv
      obtain ⟨j, k, h1, h2⟩ := cnt_one (ks := ks) (by simp at hm; omega)
      have hj : j < 16 := by have := (List.getElem?_eq_some_iff.1 h1).1; omega
      have hlj : ls[j]? = some (ls[j]'(by omega)) := List.getElem?_eq_getElem _
      refine .inr (cat_ne hlj (fun e => h2 ?_) 0)
      rw [(ih j _ k hlj h1).2.1 e]; rfl
    · exact .inl hv
theorem Grows.ne {l : List Rt} {t : Pn} (h : Grows l t) (hk : t.kd ≠ 0) : l ≠ [] := fun e => hk (by rw [h.kd.2.1 e]; rfl)
theorem Grows.kd0 {l : List Rt} {t : Pn} (h : Grows l t) (hl : l ≠ []) : t.kd ≠ 0 := fun e => hl (h.kd.1 e)
theorem nibs_app {p q : List UInt8} : nibs (p ++ q) ↔ nibs p ∧ nibs q := by
  unfold nibs
  constructor
  · exact fun h => ⟨fun x hx => h x (List.mem_append_left _ hx), fun x hx => h x (List.mem_append_right _ hx)⟩
  · rintro ⟨h1, h2⟩ x hx
    rcases List.mem_append.1 hx with hx | hx
    · exact h1 x hx
    · exact h2 x hx
theorem Grows.behind {l : List Rt} {t : Pn} (h : Grows l t) {p : List UInt8} (hp : nibs p) : Grows (pre p l) (behindQ p t) := by
  by_cases h0 : p = []
  · subst h0
    obtain ⟨kd, q, u, ks⟩ := t
    rw [pre_nil]
    simp only [behindQ]
    rw [if_pos trivial]; exact h
  · cases h with
    | none => simp only [behindQ, nP]; rw [if_neg h0]; exact .none
    | leaf q v hv hq => simp only [behindQ]; rw [if_neg h0, if_pos trivial]; exact .leaf _ _ hv (nibs_app.2 ⟨hp, hq⟩)
    | road q l k hq hn h hk =>
      simp only [behindQ]
      rw [if_neg h0, if_neg (by decide), if_pos trivial, pre_pre]
      exact .road _ _ _ (by simp [h0]) (nibs_app.2 ⟨hp, hn⟩) h hk
    | fork v ls ks hl hk h hm =>
      simp only [behindQ]
      rw [if_neg h0, if_neg (by decide), if_neg (by decide), if_pos trivial]
      exact .road _ _ _ h0 hp (.fork v ls ks hl hk h hm) rfl
theorem last_at : ∀ (ks : List Pn) (i a : Nat), cntQ ks = 0 → lastQ ks i a = a
  | [], i, a, _ => rfl
  | k :: ks, i, a, h => by
    simp only [cntQ] at h
    have hk : k.kd = 0 := by
      by_cases h0 : k.kd = 0
      · exact h0
      · rw [if_neg h0] at h; omega
    simp only [lastQ, if_pos hk]
    exact last_at ks (i + 1) a (by omega)
theorem last_one : ∀ (ks : List Pn) (i a : Nat), cntQ ks = 1 → ∃ j k, lastQ ks i a = i + j ∧ ks[j]? = some k ∧ k.kd ≠ 0 ∧ ∀ (m : Nat) (b : Pn), m ≠ j → ks[m]? = some b → b.kd = 0
  | [], i, a, h => by simp [cntQ] at h
  | k :: ks, i, a, h => by
    simp only [cntQ] at h
    by_cases h0 : k.kd = 0
    · rw [if_pos h0] at h
      obtain ⟨j, b, h1, h2, h3, h4⟩ := last_one ks (i + 1) a (by omega)
      refine ⟨j + 1, b, by simp only [lastQ, if_pos h0]; rw [h1]; omega, h2, h3, fun m c hm hc => ?_⟩
      cases m with
      | zero => simp only [List.getElem?_cons_zero, Option.some.injEq] at hc; subst hc; exact h0
      | succ m => exact h4 m c (by omega) hc
    · rw [if_neg h0] at h
      refine ⟨0, k, by simp only [lastQ, if_neg h0]; rw [last_at ks _ _ (by omega)]; rfl, rfl, h0, fun m c hm hc => ?_⟩
      cases m with
      | zero => exact absurd rfl hm
      | succ m => exact cnt_zero (by omega) m c hc
theorem cat_one : ∀ (ls : List (List Rt)) (i j : Nat) (l : List Rt), ls[j]? = some l → (∀ (m : Nat) (b : List Rt), m ≠ j → ls[m]? = some b → b = []) → cat i ls = pre [UInt8.ofNat (i + j)] l
  | [], i, j, l, h, _ => by simp at h
  | a :: ls, i, 0, l, h, hz => by
    simp only [List.getElem?_cons_zero, Option.some.injEq] at h
    subst h
    have : cat (i + 1) ls = [] := (cat_nil_iff ls _).2 (fun b hb => by
      obtain ⟨m, hm, rfl⟩ := List.mem_iff_getElem.1 hb
      exact hz (m + 1) _ (by omega) (by simp [hm]))
    rw [cat, this, List.append_nil]; rfl
  | a :: ls, i, j + 1, l, h, hz => by
    have ha : a = [] := hz 0 a (by omega) rfl
    subst ha
    have := cat_one ls (i + 1) j l h (fun m b hm hb => hz (m + 1) b (by omega) hb)
    rw [cat, this, show i + 1 + j = i + (j + 1) by omega]; rfl
/-- what a fork with what it has grows of -/
theorem tidy_grows {v : List UInt8} {ls : List (List Rt)} {ks : List Pn} (hl : ls.length = 16) (hk : ks.length = 16) (h : ∀ (i : Nat) (l : List Rt) (k : Pn), ls[i]? = some l → ks[i]? = some k → Grows l k) : Grows (bdP v ls) (tidyQ v ks) := by
  have hat : ∀ i (hi : i < 16), ls[i]? = some (ls[i]'(by omega)) := fun i hi => List.getElem?_eq_getElem _
  have kat : ∀ i (hi : i < 16), ks[i]? = some (ks[i]'(by omega)) := fun i hi => List.getElem?_eq_getElem _
  unfold tidyQ
  by_cases h2 : 2 ≤ min v.length 1 + cntQ ks
  · rw [if_pos h2]; exact .fork v ls ks hl hk h h2
  · rw [if_neg h2]
    by_cases h0 : min v.length 1 + cntQ ks = 0
    · rw [if_pos h0]
      have hv : v = [] := by
        cases v with
        | nil => rfl
        | cons _ _ => simp at h0
      have hc := cnt_zero (ks := ks) (by omega)
      have : bdP v ls = [] := by
        unfold bdP
        rw [if_pos hv, List.nil_append]
        refine (cat_nil_iff ls 0).2 (fun b hb => ?_)
        obtain ⟨m, hm, rfl⟩ := List.mem_iff_getElem.1 hb
        exact (h m _ _ (hat m (by omega)) (kat m (by omega))).kd.1 (hc m _ (kat m (by omega)))
      rw [this]; exact .none
    · rw [if_neg h0]
      by_cases hv : 0 < v.length
      · rw [if_pos hv]
        have hvn : v ≠ [] := fun e => by rw [e] at hv; simp at hv
        have hc := cnt_zero (ks := ks) (by omega)
        have : bdP v ls = [([], v)] := by
          unfold bdP
          rw [if_neg hvn, (cat_nil_iff ls 0).2 (fun b hb => by
            obtain ⟨m, hm, rfl⟩ := List.mem_iff_getElem.1 hb
            exact (h m _ _ (hat m (by omega)) (kat m (by omega))).kd.1 (hc m _ (kat m (by omega))))]
          rfl
        rw [this]; exact .leaf [] v hvn (by intro x hx; simp at hx)
      · rw [if_neg hv]
        have hv0 : v = [] := List.eq_nil_of_length_eq_zero (by omega)
        obtain ⟨j, k, h1, h3, h4, h5⟩ := last_one ks 0 0 (by omega)
        rw [h1, Nat.zero_add, h3]
        have hj : j < 16 := by have := (List.getElem?_eq_some_iff.1 h3).1; omega
        have hb : bdP v ls = pre [UInt8.ofNat j] (ls[j]'(by omega)) := by
          unfold bdP
          rw [if_pos hv0, List.nil_append, cat_one ls 0 j _ (hat j hj) (fun m b hm hb => ?_), Nat.zero_add]
          have hm16 : m < 16 := by have := (List.getElem?_eq_some_iff.1 hb).1; omega
          exact (h m b _ hb (kat m hm16)).kd.1 (h5 m _ hm (kat m hm16))
        rw [hb]
        refine (h j _ k (hat j hj) h3).behind ?_
        intro x hx
        rw [List.mem_singleton] at hx
        subst hx
        rw [ofNat_nat (by omega)]; exact hj
end Go.Proofs.Ytcgpjceopnfahaa
