/- pack.Split and the reference's PSplit: one answer. -/
import Derived.Test.YtohenjgegkgncaaSplit10
import Derived.Test.YtohenjgegkgncaaSplit13
import Derived.Test.YtohenjgegkgncaaSplit14
set_option linter.unusedSimpArgs false
set_option linter.unusedVariables false
namespace Go.Proofs.Ytohenjgegkgncaa
open Go.RowKit
mutual
def bulkP : Pit → Nat
  | .txt t => 1 + t.length
  | .lst ks => 1 + bulkPL ks
def bulkPL : List Pit → Nat
  | [] => 0
  | k :: ks => bulkP k + bulkPL ks
end
theorem bulk_er {it : Itm} (hb : BareI it) : bulkI it = bulkP (erI it) := by
  induction hb with
  | txt tv t kv => rw [erI_mk]; simp [bulkI, bulkL, bulkP]
  | lst tv kv ks h ih =>
    rw [erI_mk]
    have : ∀ l : List Itm, (∀ k ∈ l, bulkI k = bulkP (erI k)) → bulkL l = bulkPL (l.map erI) := by
      intro l
      induction l with
      | nil => intro _; simp [bulkL, bulkPL]
      | cons k l ihl =>
        intro hl
        rw [List.map_cons, bulkL, bulkPL, hl k List.mem_cons_self, ihl (fun j hj => hl j (List.mem_cons_of_mem _ hj))]
    simp [bulkI, bulkP, this ks ih]
theorem parL_bulk {f : List UInt8 → Option (Pit × List UInt8)} (hf : ∀ b p r, f b = some (p, r) → bulkP p + 2 * r.length ≤ 2 * b.length) : ∀ (m : Nat) (b : List UInt8) (ps : List Pit), parL f m b = some ps → bulkPL ps ≤ 2 * b.length
  | m, [], ps, h => by rw [parL_nil] at h; simp at h; subst h; simp [bulkPL]
  | 0, _ :: _, ps, h => by simp [parL] at h
  | m + 1, x :: b, ps, h => by
    simp only [parL] at h
    cases hx : f (x :: b) with
    | none => rw [hx] at h; simp at h
    | some pr =>
      obtain ⟨p, r⟩ := pr
      rw [hx] at h
      dsimp only at h
      cases hr : parL f m r with
      | none => rw [hr] at h; simp at h
      | some qs =>
        rw [hr] at h
        simp only [Option.some.injEq] at h
        subst h
        have h1 := hf _ _ _ hx
        have h2 := parL_bulk hf m r qs hr
        rw [bulkPL]
        omega
theorem par_bulk : ∀ (n : Nat) (b : List UInt8) (p : Pit) (r : List UInt8), par n b = some (p, r) → bulkP p + 2 * r.length ≤ 2 * b.length
  | 0, [], p, r, h => by simp [par] at h
  | n + 1, [], p, r, h => by simp [par] at h
  | 0, _ :: _, p, r, h => by simp [par] at h
  | n + 1, c :: b, p, r, h => by
    unfold par at h
    split at h
    · simp only [Option.some.injEq, Prod.mk.injEq] at h
      obtain ⟨rfl, rfl⟩ := h
      simp [bulkP]; omega
    · split at h
      · split at h
        · simp at h
        · rename_i k r' hh
          obtain ⟨j, hj, hjl⟩ := hdr_suf hh
          have hl : r'.length = b.length - j := by rw [hj, List.length_drop]
          split at h
          · simp at h
          · rename_i hk
            simp only [Option.some.injEq, Prod.mk.injEq] at h
            obtain ⟨rfl, rfl⟩ := h
            simp [bulkP]; omega
      · split at h
        · simp at h
        · rename_i k r' hh
          obtain ⟨j, hj, hjl⟩ := hdr_suf hh
          have hl : r'.length = b.length - j := by rw [hj, List.length_drop]
          split at h
          · simp at h
          · rename_i hk
            split at h
            · simp at h
            · rename_i ks hks
              simp only [Option.some.injEq, Prod.mk.injEq] at h
              obtain ⟨rfl, rfl⟩ := h
              have := parL_bulk (par_bulk n) k _ ks hks
              simp [bulkP] at this ⊢; omega
/-- what splitting answers: the item, how many bytes, what is wrong -/
def splP (b : List UInt8) : Pit := match par b.length b with
  | none => .txt []
  | some (p, _) => p
def splN (b : List UInt8) : Nat := match par b.length b with
  | none => 0
  | some (_, r) => b.length - r.length
def splE (b : List UInt8) : Int := match par b.length b with
  | none => 1
  | some _ => 0
theorem Fp.nil (S : Nat → Prop) (w : World) : Fp S w (.mk false (.slice none 0 0) [] (.slice none 0 0) []) := fun u _ => .mk false _ [] _ [] (RowOf.nil b8 1 u) (RowOf.nil icells 3 u) (by simp)
theorem split_one (a : Option Addr) (L c : Nat) (b : List UInt8) (hL : b.length = L) (hLs : L ≤ 1048576) (w : World) (h : Bytes w (.slice a L c) b) :
    Calls Try.prog 15 #[.slice a L c] w fun e w' => ∃ it, e = .returned (.tuple #[.agg (icells it).toArray, .int .i64 (splN b : Int), .int .i64 (splE b)]) ∧ Below w.heap.size w w' ∧ Fp (fun x => w.heap.size ≤ x) w' it ∧ BareI it ∧ erI it = splP b ∧ bulkI it ≤ 10000000 := by
  have hs := split_any b.length a L c b hL (by omega) hLs w h
  cases hp : par b.length b with
  | none =>
    rw [hp, SplitPost_none] at hs
    refine hs.mono ?_
    rintro e w' ⟨rfl, hb⟩
    refine ⟨.mk false (.slice none 0 0) [] (.slice none 0 0) [], ?_, hb, Fp.nil _ _, .txt _ _ _, by simp [splP, hp, erI_mk], by simp [bulkI, bulkL]⟩
    simp [splN, splE, hp, icells]
  | some pr =>
    obtain ⟨p, r⟩ := pr
    rw [hp, SplitPost_some] at hs
    have hbk := par_bulk _ _ _ _ hp
    refine hs.mono ?_
    rintro e w' ⟨it, rfl, hb, hI, he, hbare⟩
    refine ⟨it, ?_, hb, hI, hbare, by simp [splP, hp, he], by rw [bulk_er hbare, he]; omega⟩
    have e1 : splN b = L - r.length := by unfold splN; rw [hp, ← hL]
    have e2 : splE b = 0 := by unfold splE; rw [hp]
    rw [e1, e2]
theorem psplit_one (a : Option Addr) (L c : Nat) (b : List UInt8) (hL : b.length = L) (hLs : L ≤ 1048576) (w : World) (h : Bytes w (.slice a L c) b) :
    Calls Try.prog 16 #[.slice a L c] w fun e w' => ∃ it, e = .returned (.tuple #[.agg (icells it).toArray, .int .i64 (splN b : Int), .int .i64 (splE b)]) ∧ Below w.heap.size w w' ∧ Fp (fun x => w.heap.size ≤ x) w' it ∧ erI it = splP b := by
  have hs := psplit_any b.length b (Nat.le_refl _) (by omega) a L c w hL h
  cases hp : par b.length b with
  | none =>
    rw [hp, PSplitPost_none] at hs
    refine hs.mono ?_
    rintro e w' ⟨rfl, hb⟩
    refine ⟨.mk false (.slice none 0 0) [] (.slice none 0 0) [], ?_, hb, Fp.nil _ _, by simp [splP, hp, erI_mk]⟩
    simp [splN, splE, hp, icells]
  | some pr =>
    obtain ⟨p, r⟩ := pr
    rw [hp, PSplitPost_some] at hs
    refine hs.mono ?_
    rintro e w' ⟨it, rfl, hb, hF, he⟩
    refine ⟨it, ?_, hb, hF, by simp [splP, hp, he]⟩
    have e1 : splN b = L - r.length := by unfold splN; rw [hp, ← hL]
    have e2 : splE b = 0 := by unfold splE; rw [hp]
    rw [e1, e2]
theorem splN_le (b : List UInt8) : splN b ≤ b.length := by unfold splN; split <;> omega
theorem splE_01 (b : List UInt8) : splE b = 0 ∨ splE b = 1 := by unfold splE; split <;> simp
end Go.Proofs.Ytohenjgegkgncaa
