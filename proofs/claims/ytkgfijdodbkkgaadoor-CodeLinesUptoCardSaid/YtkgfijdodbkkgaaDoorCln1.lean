/- Code in lines: the plain law. Lines that are read one by one come to what they come to where they are tried and taken apart again. -/
import Derived.Test.YtkgfijdodbkkgaaDoorCname1
import Derived.Test.YtkgfijdodbkkgaaDoorHex5
import Derived.Test.YtkgfijdodbkkgaaDoorNibB
import Derived.Lib.Split
set_option linter.unusedSimpArgs false
set_option linter.unusedVariables false
namespace Go.Proofs.YtkgfijdodbkkgaaDoor
open Go.RowKit
theorem dgX {t : UInt8} (h : t.toNat < 16) : dg (hexd t) = t := by
  have key : ∀ n : Fin 16, dg (hexd (UInt8.ofNat n.val)) = UInt8.ofNat n.val := by decide
  have := key ⟨t.toNat, h⟩
  simpa using this
set_option maxRecDepth 100000 in
theorem hexdX {c : UInt8} (h : (dg c).toNat < 16) : hexd (dg c) = c := by
  have key : ∀ n : Fin 256, (dg (UInt8.ofNat n.val)).toNat < 16 → hexd (dg (UInt8.ofNat n.val)) = UInt8.ofNat n.val := by decide
  have := key ⟨c.toNat, c.toNat_lt⟩
  simp only [UInt8.ofNat_toNat] at this
  exact this h
theorem hexL_half (b : List UInt8) : hexL b = (halvesL b).map hexd := by
  induction b with
  | nil => rfl
  | cons x b ih => simp only [hexL, halvesL, List.flatMap_cons, List.map_append] at ih ⊢; rw [ih]; rfl
theorem half_lt' (b : List UInt8) : ∀ t ∈ halvesL b, t.toNat < 16 := by
  intro t ht
  obtain ⟨x, _, hx⟩ := List.mem_flatMap.1 ht
  simp only [halfB, List.mem_cons, List.not_mem_nil, or_false] at hx
  rcases hx with rfl | rfl
  · rw [UInt8.toNat_div, show (16 : UInt8).toNat = 16 from rfl]; have := x.toNat_lt; omega
  · rw [UInt8.toNat_mod, show (16 : UInt8).toNat = 16 from rfl]; omega
theorem map_dg_hexd : ∀ l : List UInt8, (∀ t ∈ l, t.toNat < 16) → (l.map hexd).map dg = l
  | [], _ => rfl
  | t :: l, h => by
    simp only [List.map_cons, dgX (h t List.mem_cons_self), map_dg_hexd l fun t ht => h t (List.mem_cons_of_mem _ ht)]
theorem map_hexd_dg : ∀ l : List UInt8, (∀ t ∈ l, (dg t).toNat < 16) → (l.map dg).map hexd = l
  | [], _ => rfl
  | t :: l, h => by
    simp only [List.map_cons, hexdX (h t List.mem_cons_self), map_hexd_dg l fun t ht => h t (List.mem_cons_of_mem _ ht)]
theorem okH_cons (M : List UInt8) : okH (48 :: 120 :: M) = true ↔ ∀ t ∈ M, (dg t).toNat < 16 := by
  unfold okH
  rw [decide_eq_true_eq]
  constructor
  · rintro ⟨_, h⟩ t ht
    obtain ⟨i, hi, rfl⟩ := List.mem_iff_getElem.1 ht
    have := h (i + 2) (by simp only [List.length_cons]; omega)
    unfold fineP at this
    rw [if_neg (by omega), if_neg (by omega)] at this
    exact this
  · intro h
    refine ⟨by simp only [List.length_cons]; omega, fun i hi => ?_⟩
    match i, hi with
    | 0, _ => rfl
    | 1, _ => rfl
    | i + 2, hi =>
      unfold fineP
      rw [if_neg (by omega), if_neg (by omega)]
      exact h _ (List.getElem_mem (by simp only [List.length_cons] at hi; omega))
theorem okH_form {L : List UInt8} (h : okH L = true) : ∃ M, L = 48 :: 120 :: M := by
  have h2 := okH_len h
  match L, h2 with
  | a :: b :: M, _ =>
    unfold okH at h
    rw [decide_eq_true_eq] at h
    have e0 := h.2 0 (by simp)
    have e1 := h.2 1 (by simp)
    exact ⟨M, by rw [show a = 48 from e0, show b = 120 from e1]⟩
/-- what is printed is read -/
theorem parse_print (d : List UInt8) : parseOk (printL d) = true ∧ parseR (printL d) = d := by
  have h1 : okH (printL d) = true := (okH_cons _).2 fun t ht => by
    rw [hexL_half] at ht
    obtain ⟨u, hu, rfl⟩ := List.mem_map.1 ht
    rw [dgX (half_lt' d u hu)]; exact half_lt' d u hu
  have h2 : parseOk (printL d) = true := by
    unfold parseOk
    rw [h1, Bool.true_and, beq_iff_eq]
    simp only [printL, List.length_cons, hexL_len]; omega
  refine ⟨h2, ?_⟩
  unfold parseR
  rw [if_pos h2]
  show joinL ((hexL d).map dg) = d
  rw [hexL_half, map_dg_hexd _ (half_lt' d), join_halves]
/-- what is read is printed so -/
theorem print_parse {L : List UInt8} (h : parseOk L = true) : printL (parseR L) = L := by
  have h0 := h
  unfold parseOk at h
  rw [Bool.and_eq_true, beq_iff_eq] at h
  obtain ⟨M, rfl⟩ := okH_form h.1
  have hM := (okH_cons M).1 h.1
  unfold parseR
  rw [if_pos h0]
  show printL (joinL (M.map dg)) = _
  unfold printL
  have hj : joinOk (M.map dg) = true := by
    unfold joinOk
    rw [Bool.and_eq_true, beq_iff_eq, Bool.not_eq_true', List.length_map]
    refine ⟨by have := h.2; simp only [List.length_cons] at this; omega, ?_⟩
    unfold wrongB
    rw [List.any_eq_false]
    intro x hx
    obtain ⟨t, ht, rfl⟩ := List.mem_map.1 hx
    have := hM t ht
    simp only [decide_eq_true_eq]
    omega
  rw [hexL_half, halves_join _ hj, map_hexd_dg M hM]
/-- how many bytes stand behind an operation -/
def puP (x : Nat) : Nat := if 96 ≤ x ∧ x < 128 then x - 95 else 0
/-- an operation's line -/
def lnO (x : UInt8) (d : List UInt8) : List UInt8 := if nmP x.toNat = [] then printL [x] else if 0 < puP x.toNat then nmP x.toNat ++ 32 :: printL d else nmP x.toNat
/-- code, line by line -/
def disP : Nat → List UInt8 → List (List UInt8)
  | 0, _ => []
  | _ + 1, [] => []
  | n + 1, x :: r => lnO x (r.take (puP x.toNat)) :: disP n (r.drop (puP x.toNat))
theorem disP_more : ∀ (n m : Nat) (l : List UInt8), l.length ≤ n → l.length ≤ m → disP n l = disP m l
  | 0, 0, _, _, _ => rfl
  | 0, m + 1, [], _, _ => rfl
  | n + 1, 0, [], _, _ => rfl
  | n + 1, m + 1, [], _, _ => rfl
  | n + 1, m + 1, x :: r, h, h' => by
    simp only [List.length_cons] at h h'
    rw [disP, disP, disP_more n m _ (by rw [List.length_drop]; omega) (by rw [List.length_drop]; omega)]
def dis (l : List UInt8) : List (List UInt8) := disP l.length l
theorem dis_cons (x : UInt8) (r : List UInt8) : dis (x :: r) = lnO x (r.take (puP x.toNat)) :: dis (r.drop (puP x.toNat)) := by
  unfold dis
  rw [List.length_cons, disP, disP_more r.length _ _ (by rw [List.length_drop]; omega) (Nat.le_refl _)]
/-- the text up to the first blank, what is behind it, whether there is one -/
def cutP : List UInt8 → List UInt8 × List UInt8 × Bool
  | [] => ([], [], false)
  | c :: s => if c = 32 then ([], s, true) else (c :: (cutP s).1, (cutP s).2.1, (cutP s).2.2)
theorem cutP_no : ∀ (s : List UInt8), (32 : UInt8) ∉ s → cutP s = (s, [], false)
  | [], _ => rfl
  | c :: s, h => by
    rw [List.mem_cons, not_or] at h
    unfold cutP
    rw [if_neg (fun e => h.1 e.symm), cutP_no s h.2]
theorem cutP_at : ∀ (s t : List UInt8), (32 : UInt8) ∉ s → cutP (s ++ 32 :: t) = (s, t, true)
  | [], t, _ => by show cutP (32 :: t) = _; unfold cutP; rfl
  | c :: s, t, h => by
    rw [List.mem_cons, not_or] at h
    show cutP (c :: (s ++ 32 :: t)) = _
    unfold cutP
    rw [if_neg (fun e => h.1 e.symm), cutP_at s t h.2]
theorem cutP_back : ∀ (s : List UInt8), s = if (cutP s).2.2 = true then (cutP s).1 ++ 32 :: (cutP s).2.1 else (cutP s).1
  | [] => rfl
  | c :: s => by
    have ih := cutP_back s
    unfold cutP
    by_cases h : c = 32
    · rw [if_pos h]; subst h; rfl
    · rw [if_neg h]
      dsimp only
      split at ih
      · rename_i h2; rw [if_pos h2]; rw [List.cons_append, ← ih]
      · rename_i h2; rw [if_neg h2, ← ih]
/-- the first operation of that name -/
def opP (f : Nat → Bool) : Option Nat := (List.range 256).find? f
/-- a line's bytes; whether nothing lacks; none: it is none -/
def readP (s : List UInt8) : Option (List UInt8 × Bool) :=
  if (cutP s).2.2 = false ∧ parseOk s = true then (match parseR s with
    | [x] => if nmP x.toNat = [] then some ([x], true) else none
    | _ => none)
  else match opP fun y => nmP y == (cutP s).1 && (decide (0 < puP y) == (cutP s).2.2) && !((cutP s).1 == []) with
    | none => none
    | some y => if puP y = 0 then some ([UInt8.ofNat y], true) else if parseOk (cutP s).2.1 = true ∧ (parseR (cutP s).2.1).length ≤ puP y then some (UInt8.ofNat y :: parseR (cutP s).2.1, decide ((parseR (cutP s).2.1).length = puP y)) else none
/-- what a line may be, in the reference -/
def mayP (s : List UInt8) : List UInt8 :=
  if parseOk (cutP s).1 = true then parseR (cutP s).1
  else (match opP fun y => nmP y == (cutP s).1 with
    | none => []
    | some y => [UInt8.ofNat y]) ++ (if (cutP s).2.2 = true then parseR (cutP s).2.1 else [])
theorem key_find : (List.range 256).all (fun x => nmP x == [] || (opP fun y => nmP y == nmP x) == some x) = true := by kernel_rfl
theorem key_plain : (List.range 256).all (fun x => !parseOk (nmP x) && (nmP x).all (fun c => !(c == 32)) && (puP x == 0 || !(nmP x == []))) = true := by kernel_rfl
theorem nm_all (x : UInt8) : parseOk (nmP x.toNat) = false ∧ (32 : UInt8) ∉ nmP x.toNat ∧ (0 < puP x.toNat → nmP x.toNat ≠ []) := by
  have h := List.all_eq_true.1 key_plain x.toNat (List.mem_range.2 x.toNat_lt)
  simp only [Bool.and_eq_true, Bool.not_eq_true', Bool.or_eq_true, beq_iff_eq] at h
  refine ⟨h.1.1, fun hm => ?_, fun h0 => ?_⟩
  · have := List.all_eq_true.1 h.1.2 32 hm
    simp at this
  · rcases h.2 with h2 | h2
    · omega
    · intro e; rw [e] at h2; simp at h2
theorem nm_find (x : UInt8) (h : nmP x.toNat ≠ []) : (opP fun y => nmP y == nmP x.toNat) = some x.toNat := by
  have hh := List.all_eq_true.1 key_find x.toNat (List.mem_range.2 x.toNat_lt)
  simp only [Bool.or_eq_true, beq_iff_eq] at hh
  rcases hh with h2 | h2
  · exact absurd h2 h
  · exact h2
theorem print_blank (d : List UInt8) : (32 : UInt8) ∉ printL d := by
  have key : ∀ n : Fin 16, hexd (UInt8.ofNat n.val) ≠ 32 := by decide
  unfold printL
  rw [hexL_half]
  intro h
  simp only [List.mem_cons, List.mem_map] at h
  rcases h with h | h | ⟨t, ht, h⟩
  · exact absurd h (by decide)
  · exact absurd h (by decide)
  · have := key ⟨t.toNat, half_lt' d t ht⟩
    simp only [UInt8.ofNat_toNat] at this
    exact this h
theorem opP_sub {f g : Nat → Bool} {x : Nat} (h : opP f = some x) (hg : ∀ y, g y = true → f y = true) (hx : g x = true) : opP g = some x := by
  unfold opP at h ⊢
  rw [List.find?_eq_some_iff_append] at h ⊢
  obtain ⟨_, l1, l2, e, h2⟩ := h
  refine ⟨hx, l1, l2, e, fun a ha => ?_⟩
  have := h2 a ha
  rw [Bool.not_eq_true'] at this ⊢
  by_cases hh : g a = true
  · rw [hg a hh] at this; cases this
  · simpa using hh
/-- a line is read -/
theorem read_ln (x : UInt8) (d : List UInt8) (hd : d.length ≤ puP x.toNat) : readP (lnO x d) = some (x :: d, decide (d.length = puP x.toNat)) := by
  obtain ⟨n1, n2, n3⟩ := nm_all x
  unfold lnO
  by_cases h0 : nmP x.toNat = []
  · rw [if_pos h0]
    have hp : puP x.toNat = 0 := by
      rcases Nat.eq_zero_or_pos (puP x.toNat) with h | h
      · exact h
      · exact absurd h0 (n3 h)
    have hd0 : d = [] := List.eq_nil_of_length_eq_zero (by omega)
    subst hd0
    unfold readP
    rw [cutP_no _ (print_blank [x])]
    rw [if_pos ⟨rfl, (parse_print [x]).1⟩, (parse_print [x]).2]
    dsimp only
    rw [if_pos h0, hp]; rfl
  · rw [if_neg h0]
    have hf := nm_find x h0
    by_cases hp : 0 < puP x.toNat
    · rw [if_pos hp]
      unfold readP
      rw [cutP_at _ _ n2]
      dsimp only
      rw [if_neg (by simp)]
      rw [opP_sub (x := x.toNat) hf (fun y hy => by simp only [Bool.and_eq_true] at hy; exact hy.1.1) (by simp [hp, h0])]
      dsimp only
      rw [if_neg (by omega), (parse_print d).2, if_pos ⟨(parse_print d).1, hd⟩, UInt8.ofNat_toNat]
    · rw [if_neg hp]
      have hd0 : d = [] := List.eq_nil_of_length_eq_zero (by omega)
      have hp0 : puP x.toNat = 0 := by omega
      subst hd0
      unfold readP
      rw [cutP_no _ n2]
      dsimp only
      rw [if_neg (by rw [n1]; simp)]
      rw [opP_sub (x := x.toNat) hf (fun y hy => by simp only [Bool.and_eq_true] at hy; exact hy.1.1) (by simp [hp0, h0])]
      dsimp only
      rw [if_pos hp0, UInt8.ofNat_toNat, hp0]; rfl
/-- and in the reference -/
theorem may_ln (x : UInt8) (d : List UInt8) (hd : d.length ≤ puP x.toNat) : mayP (lnO x d) = x :: d := by
  obtain ⟨n1, n2, n3⟩ := nm_all x
  unfold lnO
  by_cases h0 : nmP x.toNat = []
  · rw [if_pos h0]
    have hd0 : d = [] := by
      rcases Nat.eq_zero_or_pos (puP x.toNat) with h | h
      · exact List.eq_nil_of_length_eq_zero (by omega)
      · exact absurd h0 (n3 h)
    subst hd0
    unfold mayP
    rw [cutP_no _ (print_blank [x])]
    dsimp only
    rw [if_pos (parse_print [x]).1, (parse_print [x]).2]
  · rw [if_neg h0]
    have hf := nm_find x h0
    by_cases hp : 0 < puP x.toNat
    · rw [if_pos hp]
      unfold mayP
      rw [cutP_at _ _ n2]
      dsimp only
      rw [if_neg (by rw [n1]; simp), hf, if_pos rfl, (parse_print d).2]
      dsimp only
      rw [UInt8.ofNat_toNat]; rfl
    · rw [if_neg hp]
      have hd0 : d = [] := List.eq_nil_of_length_eq_zero (by omega)
      subst hd0
      unfold mayP
      rw [cutP_no _ n2]
      dsimp only
      rw [if_neg (by rw [n1]; simp), hf, if_neg (by simp)]
      dsimp only
      rw [UInt8.ofNat_toNat]; rfl
/-- what is read is a line -/
theorem read_some {s b : List UInt8} {q : Bool} (h : readP s = some (b, q)) : ∃ x d, b = x :: d ∧ s = lnO x d ∧ d.length ≤ puP x.toNat ∧ q = decide (d.length = puP x.toNat) := by
  have hb := cutP_back s
  unfold readP at h
  obtain ⟨c, hc⟩ : ∃ c, c = cutP s := ⟨_, rfl⟩
  rw [← hc] at h hb
  clear hc
  obtain ⟨n, t, sp⟩ := c
  dsimp only at h hb
  split at h
  · rename_i h1
    split at h
    · rename_i x hx
      split at h
      · rename_i h0
        simp only [Option.some.injEq, Prod.mk.injEq] at h
        obtain ⟨rfl, rfl⟩ := h
        have hp : puP x.toNat = 0 := by
          rcases Nat.eq_zero_or_pos (puP x.toNat) with h | h
          · exact h
          · exact absurd h0 ((nm_all x).2.2 h)
        refine ⟨x, [], rfl, ?_, by simp, by rw [hp]; rfl⟩
        unfold lnO
        rw [if_pos h0, ← hx]
        exact (print_parse h1.2).symm
      · cases h
    · cases h
  · split at h
    · cases h
    · rename_i y hy
      have hy2 := List.find?_some hy
      have hm := List.mem_range.1 (List.mem_of_find?_eq_some hy)
      simp only [Bool.and_eq_true, beq_iff_eq, Bool.not_eq_true', beq_eq_false_iff_ne] at hy2
      obtain ⟨⟨e1, e2⟩, e3⟩ := hy2
      have hyt : (UInt8.ofNat y).toNat = y := by rw [UInt8.toNat_ofNat']; omega
      split at h
      · rename_i h0
        simp only [Option.some.injEq, Prod.mk.injEq] at h
        obtain ⟨rfl, rfl⟩ := h
        refine ⟨UInt8.ofNat y, [], rfl, ?_, by simp, by rw [hyt, h0]; rfl⟩
        unfold lnO
        rw [hyt, e1, if_neg e3, if_neg (by omega), hb, ← e2, h0]
        rfl
      · rename_i h0
        split at h
        · rename_i h1
          simp only [Option.some.injEq, Prod.mk.injEq] at h
          obtain ⟨rfl, rfl⟩ := h
          refine ⟨UInt8.ofNat y, parseR t, rfl, ?_, by rw [hyt]; exact h1.2, by rw [hyt]⟩
          unfold lnO
          rw [hyt, e1, if_neg e3, if_pos (by omega), print_parse h1.1, hb, ← e2]
          rw [if_pos (by rw [decide_eq_true_eq]; omega)]
        · cases h
/-- the code whose lines they are -/
def asmP : List (List UInt8) → Option (List UInt8)
  | [] => some []
  | s :: ls => match readP s with
    | none => none
    | some (b, q) => if q = false ∧ ls ≠ [] then none else (asmP ls).map (b ++ ·)
def lasmP (ls : List (List UInt8)) : Option (List UInt8) := if dis (ls.flatMap mayP) = ls then some (ls.flatMap mayP) else none
theorem asm_dis : ∀ (ls : List (List UInt8)) (o : List UInt8), asmP ls = some o → dis o = ls ∧ ls.flatMap mayP = o
  | [], o, h => by
    simp only [asmP, Option.some.injEq] at h; subst h; exact ⟨rfl, rfl⟩
  | s :: ls, o, h => by
    unfold asmP at h
    split at h
    · cases h
    · rename_i b q hr
      split at h
      · cases h
      · rename_i hq
        rw [Option.map_eq_some_iff] at h
        obtain ⟨o', ho, rfl⟩ := h
        obtain ⟨h1, h2⟩ := asm_dis ls o' ho
        obtain ⟨x, d, rfl, rfl, hd, rfl⟩ := read_some hr
        refine ⟨?_, by rw [List.flatMap_cons, may_ln x d hd, h2]⟩
        rw [List.cons_append, dis_cons]
        by_cases he : d.length = puP x.toNat
        · rw [← he, List.take_left, List.drop_left, h1]
        · have : ls = [] := by
            by_cases hl : ls = []
            · exact hl
            · exact absurd ⟨decide_eq_false he, hl⟩ hq
          subst this
          simp only [asmP, Option.some.injEq] at ho
          subst ho
          rw [List.append_nil, List.take_of_length_le hd, List.drop_eq_nil_of_le hd]; rfl
theorem dis_asm : ∀ (n : Nat) (o : List UInt8), o.length ≤ n → asmP (dis o) = some o
  | _, [], _ => rfl
  | 0, x :: r, h => by simp at h
  | n + 1, x :: r, h => by
    rw [List.length_cons] at h
    rw [dis_cons]
    unfold asmP
    rw [read_ln x _ (by rw [List.length_take]; omega)]
    dsimp only
    rw [dis_asm n (r.drop (puP x.toNat)) (by rw [List.length_drop]; omega)]
    rw [if_neg]
    · simp
    · rintro ⟨h1, h2⟩
      rw [decide_eq_false_iff_not, List.length_take] at h1
      apply h2
      rw [List.drop_eq_nil_of_le (by omega)]; rfl
/-- THE LAW: both answer alike -/
theorem asm_lasm (ls : List (List UInt8)) : asmP ls = lasmP ls := by
  unfold lasmP
  by_cases h : dis (ls.flatMap mayP) = ls
  · rw [if_pos h]
    have := dis_asm _ (ls.flatMap mayP) (Nat.le_refl _)
    rwa [h] at this
  · rw [if_neg h]
    cases ha : asmP ls with
    | none => rfl
    | some o =>
      obtain ⟨h1, h2⟩ := asm_dis ls o ha
      rw [h2] at h
      exact absurd h1 h
theorem idx_cons (b : UInt8) (l : List UInt8) : Lib.index (b :: l) [32] = if b = 32 then 0 else if Lib.index l [32] = -1 then -1 else Lib.index l [32] + 1 := by
  rw [Lib.index]
  by_cases h : b = 32
  · subst h; rfl
  · have : ([32] : List UInt8).isPrefixOf (b :: l) = false := by
      simp only [List.isPrefixOf, Bool.and_true, beq_eq_false_iff_ne]
      exact fun e => h e.symm
    rw [this, if_neg h]
    simp only [beq_iff_eq]
    rfl
theorem idx_cut : ∀ s : List UInt8, (Lib.index s [32] = -1 ∧ cutP s = (s, [], false)) ∨ (∃ i : Nat, Lib.index s [32] = i ∧ cutP s = (s.take i, s.drop (i + 1), true))
  | [] => .inl ⟨rfl, rfl⟩
  | b :: l => by
    rw [idx_cons]
    unfold cutP
    by_cases h : b = 32
    · rw [if_pos h, if_pos h]; exact .inr ⟨0, rfl, rfl⟩
    · rw [if_neg h, if_neg h]
      rcases idx_cut l with ⟨h1, h2⟩ | ⟨i, h1, h2⟩
      · rw [if_pos h1, h2]; exact .inl ⟨rfl, rfl⟩
      · rw [if_neg (by omega), h2, h1]; exact .inr ⟨i + 1, by omega, rfl⟩
theorem lib_cut (s : List UInt8) : Lib.cut s [32] = cutP s := by
  unfold Lib.cut
  rcases idx_cut s with ⟨h1, h2⟩ | ⟨i, h1, h2⟩
  · rw [if_neg (by omega), h2]
  · rw [if_pos (by omega), h2, h1]; rfl
/-- a line's two parts -/
def twoP (s : List UInt8) : List (List UInt8) := if (cutP s).2.2 = true then [(cutP s).1, (cutP s).2.1] else [(cutP s).1]
theorem lib_two (s : List UInt8) : Lib.splitN s [32] 2 = twoP s := by
  unfold Lib.splitN twoP
  match s with
  | [] => rfl
  | c :: s =>
    rw [show min 2 ((c :: s).length + 1) - 1 = 1 from by simp only [List.length_cons]; omega]
    unfold Lib.splitK
    rcases idx_cut (c :: s) with ⟨h1, h2⟩ | ⟨i, h1, h2⟩
    · rw [h1, h2]; rfl
    · rw [h2, h1, if_neg (by rw [beq_iff_eq]; omega)]; rfl
theorem twoP_len (s : List UInt8) : (twoP s).length = if (cutP s).2.2 = true then 2 else 1 := by unfold twoP; split <;> rfl
/-- code from a place on -/
theorem dis_at (l : List UInt8) (k : Nat) (h : k < l.length) : dis (l.drop k) = lnO l[k] ((l.drop (k + 1)).take (puP l[k].toNat)) :: dis (l.drop (min (k + 1 + puP l[k].toNat) l.length)) := by
  rw [← List.getElem_cons_drop h, dis_cons, List.drop_drop]
  by_cases hh : k + 1 + puP l[k].toNat ≤ l.length
  · rw [Nat.min_eq_left hh]
  · rw [Nat.min_eq_right (by omega), List.drop_eq_nil_of_le (by omega : l.length ≤ k + 1 + puP l[k].toNat), List.drop_eq_nil_of_le (Nat.le_refl _)]
theorem dis_nil : dis [] = [] := rfl
theorem lnO_len (x : UInt8) (d : List UInt8) (hd : d.length ≤ puP x.toNat) : (lnO x d).length ≤ 76 := by
  have key : (List.range 256).all (fun x => decide ((nmP x).length ≤ 9 ∧ puP x ≤ 32)) = true := by kernel_rfl
  have h := List.all_eq_true.1 key x.toNat (List.mem_range.2 x.toNat_lt)
  rw [decide_eq_true_eq] at h
  unfold lnO
  split
  · show (printL [x]).length ≤ 76
    simp [printL, hexL_len]
  · split
    · simp only [List.length_append, List.length_cons, printL, hexL_len]; omega
    · omega
end Go.Proofs.YtkgfijdodbkkgaaDoor
