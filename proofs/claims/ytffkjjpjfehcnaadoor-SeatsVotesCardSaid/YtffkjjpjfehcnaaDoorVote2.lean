/- Counting one vote more: seats.book. -/
import Derived.Test.YtffkjjpjfehcnaaDoorVote1
import Derived.Test.YtffkjjpjfehcnaaDoorBase
set_option linter.unusedSimpArgs false
set_option linter.unusedVariables false
namespace Go.Proofs.YtffkjjpjfehcnaaDoor
open Go.RowKit
open Go.ChangeMaps (setBlock)
open Go.WideMaps (KeyLaw)
theorem nodup_at {α : Type} {l : List α} (h : l.Nodup) {i j : Nat} {x : α} (hi : l[i]? = some x) (hj : l[j]? = some x) : i = j := by
  obtain ⟨a1, b1⟩ := List.getElem?_eq_some_iff.1 hi
  obtain ⟨a2, b2⟩ := List.getElem?_eq_some_iff.1 hj
  have hp := List.pairwise_iff_getElem.1 h
  rcases Nat.lt_trichotomy i j with h1 | h1 | h1
  · exact absurd (b1.trans b2.symm) (hp i j a1 a2 h1)
  · exact h1
  · exact absurd (b2.trans b1.symm) (hp j i a2 a1 h1)
theorem grown_setBlock {w : World} {B : Nat} {es : Array MapEntry} {clock : Nat} {o' : Obj} (hb : w.heap[B]? = some (.map es clock)) : w.grownBy (setBlock w B o') (some B) :=
  ⟨rfl, rfl, rfl, by simp [setBlock], fun i _ hi => Go.ChangeMaps.heap_setBlock_other hb _ (fun e => hi (by rw [e]))⟩
/-- 'm[v]++' -/
theorem MapV.step {w : World} {B : Nat} {L : List Vt} (h : MapV w B L) {v : Vt} (k : v.Ok) : ∃ (c st : Nat) (v0 : Value) (w1 : World), c ≤ L.length ∧
    (Instr.lookup 31 (.map (some B)) (.agg (vtc v).toArray) false).run Tryd.prog w = .ok (.int .i64 (c : Int)) w ∧
    (Instr.mapEntry 31 (.map (some B)) (.agg (vtc v).toArray)).run Tryd.prog w = .ok (.tuple #[v0, .int .i64 (st : Int)]) w1 ∧ w.grownBy w1 (some B) ∧
    (Instr.lookup 31 (.map (some B)) (.agg (vtc v).toArray) false).run Tryd.prog w1 = .ok (.int .i64 (c : Int)) w1 ∧
    ∃ w2, (Instr.entryStore 31 (.map (some B)) (.int .i64 (st : Int)) (.int .i64 ((c : Int) + 1))).run Tryd.prog w1 = .ok () w2 ∧ w1.grownBy w2 (some B) ∧ MapV w2 B (L ++ [v]) := by
  change ∃ (c st : Nat) (v0 : Value) (w1 : World), c ≤ L.length ∧ (Instr.lookup 31 (.map (some B)) (vkey v) false).run Tryd.prog w = _ ∧ (Instr.mapEntry 31 (.map (some B)) (vkey v)).run Tryd.prog w = _ ∧ _ ∧ (Instr.lookup 31 (.map (some B)) (vkey v) false).run Tryd.prog w1 = _ ∧ _
  have hV := h
  obtain ⟨es, clock, hb, ⟨s1, s2, s3⟩, he, hl⟩ := h
  obtain ⟨kl, hkey⟩ := keyOfVote k
  have hz : ∀ u, (zeroValue 3).run Tryd.prog u = .ok (.int .i64 0) u := fun u => by kernel_rfl
  have hk : ∀ e ∈ es.toList, ∃ l, keyOf Tryd.prog 34 e.key = some l := fun e hm => by
    obtain ⟨u, hu, hue, _⟩ := he e hm
    rw [hue]; exact keyOfVote hu
  rcases laidVote.find w hkey es.toList hk with ⟨h1, h2⟩ | ⟨j, e0, h1, h2, h3⟩
  · have hidx : (es.push ⟨vkey v, .int .i64 0, clock⟩).findIdx? (fun e => ((e.born : Nat) : Int) == ((clock : Nat) : Int)) = some es.size := by
      rw [WideElems.findIdx_arr]
      have := WideElems.findIdx_born (l := (es.push ⟨vkey v, .int .i64 0, clock⟩).toList) (j := es.size) (e0 := ⟨vkey v, .int .i64 0, clock⟩) (by
        simp only [Array.toList_push, List.map_append, List.map_cons, List.map_nil]
        refine List.nodup_append.2 ⟨s2, by simp, fun a ha c hc e1 => ?_⟩
        simp only [List.mem_singleton] at hc
        obtain ⟨x, hx, rfl⟩ := List.mem_map.1 ha
        have := s1 x hx
        omega) (by simp)
      exact this
    have hmod : (es.push ⟨vkey v, .int .i64 0, clock⟩).modify es.size (fun e => { e with val := .int .i64 1 }) = es.push ⟨vkey v, .int .i64 1, clock⟩ := by
      apply Array.ext'
      rw [Array.toList_modify, Array.toList_push, Array.toList_push, ← Array.length_toList, WideElems.modify_last]
    have hb1 := Go.ChangeMaps.heap_setBlock_same hb (.map (es.push ⟨vkey v, .int .i64 0, clock⟩) (clock + 1))
    have hg1 := grown_setBlock (o' := .map (es.push ⟨vkey v, .int .i64 0, clock⟩) (clock + 1)) hb
    have hent : (Instr.mapEntry 31 (.map (some B)) (vkey v)).run Tryd.prog w = .ok (.tuple #[.int .i64 0, .int .i64 (clock : Int)]) (setBlock w B (.map (es.push ⟨vkey v, .int .i64 0, clock⟩) (clock + 1))) := by
      simp [Instr.mapEntry, run_underlying Tryd.underlying31, MapKept.run_getObj_map hb, laidVote.check w false hkey, h1, hz, MapKept.run_setObj_map _ hb, Result.andThen, setBlock, goInt]
    generalize setBlock w B (.map (es.push ⟨vkey v, .int .i64 0, clock⟩) (clock + 1)) = w1 at hb1 hg1 hent
    have hfind1 : ∀ u : World, (Instr.findKey 34 (vkey v) (es.toList ++ [⟨vkey v, .int .i64 0, clock⟩])).run Tryd.prog u = .ok (some (es.size, .int .i64 0)) u := fun u => by
      have hk1 : ∀ e ∈ (es.toList ++ [(⟨vkey v, .int .i64 0, clock⟩ : MapEntry)]), ∃ l, keyOf Tryd.prog 34 e.key = some l := fun e hm => by
        rcases List.mem_append.1 hm with hm | hm
        · exact hk e hm
        · rw [List.mem_singleton] at hm; subst hm; exact ⟨kl, hkey⟩
      rcases laidVote.find u hkey _ hk1 with ⟨_, g2⟩ | ⟨j, e, g1, g2, g3⟩
      · exact absurd rfl (g2 ⟨vkey v, .int .i64 0, clock⟩ (by simp))
      · rw [g1]
        by_cases hj : j < es.toList.length
        · rw [List.getElem?_append_left hj] at g2
          exact absurd g3 (h2 e (List.mem_of_getElem? g2))
        · have hje : j = es.toList.length := by
            have := (List.getElem?_eq_some_iff.1 g2).1
            simp only [List.length_append, List.length_cons, List.length_nil] at this
            omega
          subst hje
          simp only [List.getElem?_append_right (Nat.le_refl _), Nat.sub_self, List.getElem?_cons_zero, Option.some.injEq] at g2
          subst g2
          simp
    refine ⟨0, clock, .int .i64 0, w1, by omega, ?_, hent, hg1, ?_, setBlock w1 B (.map (es.push ⟨vkey v, .int .i64 1, clock⟩) (clock + 1)), ?_, grown_setBlock hb1, ?_⟩
    · simp [Instr.lookup, run_underlying Tryd.underlying31, MapKept.run_getObj_map hb, laidVote.check w _ hkey, h1, hz, Result.andThen]
    · simp [Instr.lookup, run_underlying Tryd.underlying31, MapKept.run_getObj_map hb1, laidVote.check _ _ hkey, hfind1, Result.andThen]
    · simp [Instr.entryStore, MapKept.run_getObj_map hb1, asInt, asIntOf, hidx, hmod, MapKept.run_setObj_map _ hb1, Result.andThen, setBlock]
    · refine ⟨es.push ⟨vkey v, .int .i64 1, clock⟩, clock + 1, Go.ChangeMaps.heap_setBlock_same hb1 _, MapKept.stamped_push ⟨s1, s2, s3⟩ h2, fun e hm => ?_, fun x hx => ?_⟩
      · rw [Array.toList_push] at hm
        rcases List.mem_append.1 hm with hm | hm
        · obtain ⟨u, a1, a2, a3, c, a4, a5, a6⟩ := he e hm
          exact ⟨u, a1, a2, List.mem_append_left _ a3, c, a4, by rw [List.length_append]; omega, a6⟩
        · rw [List.mem_singleton] at hm; subst hm
          exact ⟨v, k, rfl, by simp, 1, by omega, by rw [List.length_append, List.length_singleton]; omega, rfl⟩
      · rw [Array.toList_push]
        rcases List.mem_append.1 hx with hx | hx
        · obtain ⟨e, a1, a2⟩ := hl x hx
          exact ⟨e, List.mem_append_left _ a1, a2⟩
        · rw [List.mem_singleton] at hx; subst hx
          exact ⟨_, List.mem_append_right _ (List.mem_singleton.2 rfl), rfl⟩
  · have hj : es[j]? = some e0 := by simpa using h2
    obtain ⟨u0, hu, hue, hum, c, hc0, hcl, hcv⟩ := he e0 (List.mem_of_getElem? h2)
    have hsame : es.modify j (fun e => { e with key := vkey v }) = es := by
      apply Array.ext'
      rw [Array.toList_modify, Go.ChangeMaps.modify_eq_set _ _ _ _ h2]
      have : ({ e0 with key := vkey v } : MapEntry) = e0 := by rw [← h3]
      rw [this]
      exact WideElems.set_self _ _ _ h2
    have hidx : es.findIdx? (fun e => ((e.born : Nat) : Int) == ((e0.born : Nat) : Int)) = some j := by
      rw [WideElems.findIdx_arr]
      exact WideElems.findIdx_born s2 h2
    have hb1 := Go.ChangeMaps.heap_setBlock_same hb (.map es clock)
    have hg1 := grown_setBlock (o' := .map es clock) hb
    have hent : (Instr.mapEntry 31 (.map (some B)) (vkey v)).run Tryd.prog w = .ok (.tuple #[e0.val, .int .i64 (e0.born : Int)]) (setBlock w B (.map es clock)) := by
      simp [Instr.mapEntry, run_underlying Tryd.underlying31, MapKept.run_getObj_map hb, laidVote.check w false hkey, h1, hj, h3, laidVote.stays w hkey, hsame, MapKept.run_setObj_map _ hb, Result.andThen, setBlock, goInt]
    generalize setBlock w B (.map es clock) = w1 at hb1 hg1 hent
    have hfind1 : ∀ u : World, (Instr.findKey 34 (vkey v) es.toList).run Tryd.prog u = .ok (some (j, e0.val)) u := fun u => by
      rcases laidVote.find u hkey _ hk with ⟨_, g2⟩ | ⟨j', e, g1, g2, g3⟩
      · exact absurd h3 (g2 e0 (List.mem_of_getElem? h2))
      · have hjj : j' = j := nodup_at s3 (x := vkey v) (by rw [List.getElem?_map, g2, Option.map_some, g3]) (by rw [List.getElem?_map, h2, Option.map_some, h3])
        subst hjj
        have ge : e = e0 := Option.some.inj (g2.symm.trans h2)
        rw [ge] at g1
        exact g1
    have hmm : ∀ e' : MapEntry, es.toList[j]? = some e' → e' = e0 := fun e' h => by rw [h2] at h; exact (Option.some.inj h).symm
    refine ⟨c, e0.born, e0.val, w1, hcl, ?_, hent, hg1, ?_, setBlock w1 B (.map (es.modify j (fun e => { e with val := .int .i64 ((c : Int) + 1) })) clock), ?_, grown_setBlock hb1, ?_⟩
    · simp [Instr.lookup, run_underlying Tryd.underlying31, MapKept.run_getObj_map hb, laidVote.check w _ hkey, h1, hcv, Result.andThen]
    · simp [Instr.lookup, run_underlying Tryd.underlying31, MapKept.run_getObj_map hb1, laidVote.check _ _ hkey, hfind1, hcv, Result.andThen]
    · simp [Instr.entryStore, MapKept.run_getObj_map hb1, asInt, asIntOf, hidx, MapKept.run_setObj_map _ hb1, Result.andThen, setBlock]
    · refine ⟨_, clock, Go.ChangeMaps.heap_setBlock_same hb1 _, MapKept.stamped_modify ⟨s1, s2, s3⟩ _ _ (fun _ _ => rfl) (fun _ _ _ => rfl), fun e hm => ?_, fun x hx => ?_⟩
      · rw [Array.toList_modify, Go.ChangeMaps.modify_eq_set _ _ _ _ h2] at hm
        rcases List.mem_or_eq_of_mem_set hm with hm | hm
        · obtain ⟨u, a1, a2, a3, c', a4, a5, a6⟩ := he e hm
          exact ⟨u, a1, a2, List.mem_append_left _ a3, c', a4, by rw [List.length_append]; omega, a6⟩
        · subst hm
          exact ⟨v, k, h3, by simp, c + 1, by omega, by rw [List.length_append, List.length_singleton]; omega, by simp⟩
      · rw [Array.toList_modify, Go.ChangeMaps.modify_eq_set _ _ _ _ h2]
        have hin : ∀ y, (∃ e ∈ es.toList, e.key = vkey y) → ∃ e ∈ es.toList.set j { e0 with val := .int .i64 ((c : Int) + 1) }, e.key = vkey y := by
          rintro y ⟨e, hm, hke⟩
          obtain ⟨i, hi⟩ := List.getElem?_of_mem hm
          by_cases hij : i = j
          · subst hij
            obtain rfl := hmm e hi
            exact ⟨{ e with val := .int .i64 ((c : Int) + 1) }, List.mem_of_getElem? (i := i) (List.getElem?_set_self (List.getElem?_eq_some_iff.1 hi).1), hke⟩
          · exact ⟨e, List.mem_of_getElem? (i := i) (by rw [List.getElem?_set_ne (fun e => hij e.symm)]; exact hi), hke⟩
        rcases List.mem_append.1 hx with hx | hx
        · exact hin x (hl x hx)
        · rw [List.mem_singleton] at hx; subst hx
          exact hin x ⟨e0, List.mem_of_getElem? h2, h3⟩
end Go.Proofs.YtffkjjpjfehcnaaDoor
