/- Votes, and a map that counts them. | Counting one vote more: seats.book. | seats.book. | The reference's VHas. | Masks: plain Lean. | seats.Tally. | seats.Voted; the reference's VVoted. -/
import Derived.Test.YtgjgokcpampljaaLits
import Derived.WideKeyEntry
import Derived.DeepKeys4
import Derived.Test.YtgjgokcpampljaaBase
import Derived.WalkKit
import Derived.Test.YtgjgokcpampljaaBuild0
import Derived.Test.YtgjgokcpampljaaHashQ
import Derived.Test.YtgjgokcpampljaaSeatA
import Derived.Test.YtgjgokcpampljaaSeat1
/- (Vote1) Votes, and a map that counts them. -/
set_option linter.unusedSimpArgs false
set_option linter.unusedVariables false
namespace Go.Proofs.Ytgjgokcpampljaa
open Go.RowKit
open Go.ChangeMaps (setBlock)
open Go.WideMaps (KeyLaw)
structure Vt where
  seat : Nat
  sum : List UInt8
  len : sum.length = 32
structure Vt.Ok (v : Vt) : Prop where
  seat : v.seat < 18446744073709551616
def vtc (v : Vt) : List Value := [u64v v.seat] ++ by8 v.sum
theorem vtc_len (v : Vt) : (vtc v).length = 33 := by unfold vtc; rw [List.length_append, by8_len, v.len]; rfl
theorem vtc_one (v : Vt) : ∀ u ∈ vtc v, u.oneCell' = true := by
  intro u hu
  unfold vtc at hu
  rcases List.mem_append.1 hu with hu | hu
  · rw [List.mem_singleton] at hu; subst hu; rfl
  · obtain ⟨x, _, rfl⟩ := List.mem_map.1 hu
    rfl
theorem by8_inj {l m : List UInt8} (h : by8 l = by8 m) : l = m := by
  unfold by8 at h
  have inj : ∀ a b : UInt8, u8v a = u8v b → a = b := by
    intro a b e
    unfold u8v at e
    simp only [Value.int.injEq, true_and] at e
    exact UInt8.toNat_inj.1 (by omega)
  induction l generalizing m with
  | nil => cases m with
    | nil => rfl
    | cons y m => simp at h
  | cons x l ih => cases m with
    | nil => simp at h
    | cons y m =>
      simp only [List.map_cons, List.cons.injEq] at h
      rw [inj _ _ h.1, ih h.2]
theorem vtc_inj {u v : Vt} (h : vtc u = vtc v) : u = v := by
  unfold vtc at h
  simp only [List.cons_append, List.nil_append, List.cons.injEq] at h
  cases u; cases v
  have h1 := h.1
  unfold u64v at h1
  simp only [Value.int.injEq, true_and] at h1
  simp only [Vt.mk.injEq]
  exact ⟨by omega, by8_inj h.2⟩
def vkey (v : Vt) : Value := .agg (vtc v).toArray
theorem vkey_inj {u v : Vt} (h : vkey u = vkey v) : u = v := by
  unfold vkey at h
  simp only [Value.agg.injEq] at h
  exact vtc_inj (by simpa using congrArg Array.toList h)
theorem laidVote : KeyLaw Try.prog 333 := deep_law_laid laidOut (m := 4) (by omega) (of_decide_eq_true (by kernel_rfl)) (by kernel_rfl) (by kernel_rfl)
theorem cellsVote : Try.prog.cellsOf 333 = 33 := by kernel_rfl
theorem keyVote {v : Vt} (k : v.Ok) (d : Nat) : Try.prog.keyLits (d + 3) 333 (vtc v) = some [lit64 v.seat, lit8 v.sum].flatten := by
  have c32 : Try.prog.cellsOf 23 = 32 := by kernel_rfl
  have c1 : Try.prog.cellsOf 24 = 1 := by kernel_rfl
  have e0 := keyL64 (d + 1) k.seat
  have e1 := keyA (t := 23) (n := 32) Try.underlying23 c32 d v.sum v.len
  have d0 : ((vtc v).drop 0).take 1 = [u64v v.seat] := rfl
  have d1 : ((vtc v).drop 1).take 32 = by8 v.sum := by
    show (by8 v.sum).take 32 = _
    exact List.take_of_length_le (by rw [by8_len, v.len]; omega)
  rw [← d0] at e0
  rw [← d1] at e1
  unfold Program.keyLits
  simp only [show Try.prog.underlying 333 = some (.struct _) from Try.underlying333]
  rw [if_pos ⟨by rw [vtc_len v, cellsVote], by kernel_rfl⟩]
  simp only [List.mapM_cons, List.mapM_nil, c32, c1, e0, e1]
  rfl
theorem keyOfVote {v : Vt} (k : v.Ok) : ∃ l, keyOf Try.prog 333 (vkey v) = some l := by
  have h3 : ∃ m, Try.prog.types.size + 1 = m + 3 := ⟨Try.prog.types.size + 1 - 3, by have : 3 ≤ Try.prog.types.size := of_decide_eq_true (by kernel_rfl); omega⟩
  obtain ⟨m, hm⟩ := h3
  have hf : (vkey v).formed Try.prog 333 = true := by
    unfold vkey Value.formed
    simp only [show Try.prog.underlying 333 = some (.struct _) from Try.underlying333, cellsVote, List.size_toArray, vtc_len v, beq_self_eq_true]
  have ht : Try.prog.keyType 333 = true := by kernel_rfl
  unfold keyOf
  simp only [show Try.prog.underlying 333 = some (.struct _) from Try.underlying333, ht, hf, Bool.and_self, if_true, hm]
  have : (vkey v).cells.toList = vtc v := rfl
  rw [this, keyVote k m]
  exact ⟨_, rfl⟩
/-- a map that has counted these votes -/
def MapV (w : World) (B : Nat) (L : List Vt) : Prop := ∃ (es : Array MapEntry) (clock : Nat), w.heap[B]? = some (.map es clock) ∧ MapKept.Stamped es clock ∧
  (∀ e ∈ es.toList, ∃ v : Vt, v.Ok ∧ e.key = vkey v ∧ v ∈ L ∧ ∃ c : Nat, 0 < c ∧ c ≤ L.length ∧ e.val = .int .i64 (c : Int)) ∧ ∀ v ∈ L, ∃ e ∈ es.toList, e.key = vkey v
theorem MapV.made (w : World) : MapV (w.alloc (.map #[] 0)) w.heap.size [] := ⟨#[], 0, (MapKept.heap_alloc w _).1, MapKept.stamped_empty 0, by simp, by simp⟩
theorem MapV.kept {w w' : World} {B : Nat} {L : List Vt} (h : MapV w B L) (hb : Below w.heap.size w w') : MapV w' B L := by
  obtain ⟨es, clock, h1, h2⟩ := h
  exact ⟨es, clock, (hb.block B (Array.getElem?_eq_some_iff.1 h1).1).trans h1, h2⟩
theorem MapV.lt {w : World} {B : Nat} {L : List Vt} (h : MapV w B L) : B < w.heap.size := by
  obtain ⟨es, clock, h1, _⟩ := h
  exact (Array.getElem?_eq_some_iff.1 h1).1
/-- what looking a vote up answers -/
theorem MapV.look {w : World} {B : Nat} {L : List Vt} (h : MapV w B L) {v : Vt} (k : v.Ok) : ∃ c : Nat, c ≤ L.length ∧ (0 < c ↔ v ∈ L) ∧ (Instr.lookup 330 (.map (some B)) (vkey v) false).run Try.prog w = .ok (.int .i64 (c : Int)) w := by
  obtain ⟨es, clock, hb, hs, he, hl⟩ := h
  obtain ⟨kl, hkey⟩ := keyOfVote k
  have hz : (zeroValue 3).run Try.prog w = .ok (.int .i64 0) w := by kernel_rfl
  have hk : ∀ e ∈ es.toList, ∃ l, keyOf Try.prog 333 e.key = some l := fun e hm => by
    obtain ⟨u, hu, hue, _⟩ := he e hm
    rw [hue]; exact keyOfVote hu
  rcases laidVote.find w hkey es.toList hk with ⟨h1, h2⟩ | ⟨j, e0, h1, h2, h3⟩
  · refine ⟨0, by omega, ⟨fun h => by omega, fun hm => ?_⟩, ?_⟩
    · obtain ⟨e, hm2, hk2⟩ := hl v hm
      exact absurd hk2 (h2 e hm2)
    · simp [Instr.lookup, run_underlying Try.underlying330, MapKept.run_getObj_map hb, laidVote.check w _ hkey, h1, hz, Result.andThen]
  · obtain ⟨u, hu, hue, hum, c, hc0, hcl, hcv⟩ := he e0 (List.mem_of_getElem? h2)
    have huv : u = v := vkey_inj (hue.symm.trans h3)
    subst huv
    refine ⟨c, hcl, ⟨fun _ => hum, fun _ => hc0⟩, ?_⟩
    simp [Instr.lookup, run_underlying Try.underlying330, MapKept.run_getObj_map hb, laidVote.check w _ hkey, h1, hcv, Result.andThen]
end Go.Proofs.Ytgjgokcpampljaa
/- (Vote2) Counting one vote more: seats.book. -/
namespace Go.Proofs.Ytgjgokcpampljaa
open Go.RowKit
open Go.ChangeMaps (setBlock)
open Go.WideMaps (KeyLaw)
theorem nodup_at {α : Type} {l : List α} (h : l.Nodup) {i j : Nat} {x : α} (hi : l[i]? = some x) (hj : l[j]? = some x) : i = j := by
  obtain ⟨a1, b1⟩ := List.getElem?_eq_some_iff.1 hi
  obtain ⟨a2, b2⟩ := List.getElem?_eq_some_iff.1 hj
  have hp := List.pairwise_iff_getElem.1 h
  rcases Nat.lt_trichotomy i j with h1 | h1 | h1
  · exact absurd (b1.trans b2.symm) (hp i j a1 a2 h1)
  · exact h1
  · exact absurd (b2.trans b1.symm) (hp j i a2 a1 h1)
theorem grown_setBlock {w : World} {B : Nat} {es : Array MapEntry} {clock : Nat} {o' : Obj} (hb : w.heap[B]? = some (.map es clock)) : w.grownBy (setBlock w B o') (some B) :=
  ⟨rfl, rfl, rfl, by simp [setBlock], fun i _ hi => Go.ChangeMaps.heap_setBlock_other hb _ (fun e => hi (by rw [e]))⟩
/-- 'm[v]++' -/
theorem MapV.step {w : World} {B : Nat} {L : List Vt} (h : MapV w B L) {v : Vt} (k : v.Ok) : ∃ (c st : Nat) (v0 : Value) (w1 : World), c ≤ L.length ∧
    (Instr.lookup 330 (.map (some B)) (.agg (vtc v).toArray) false).run Try.prog w = .ok (.int .i64 (c : Int)) w ∧
    (Instr.mapEntry 330 (.map (some B)) (.agg (vtc v).toArray)).run Try.prog w = .ok (.tuple #[v0, .int .i64 (st : Int)]) w1 ∧ w.grownBy w1 (some B) ∧
    (Instr.lookup 330 (.map (some B)) (.agg (vtc v).toArray) false).run Try.prog w1 = .ok (.int .i64 (c : Int)) w1 ∧
    ∃ w2, (Instr.entryStore 330 (.map (some B)) (.int .i64 (st : Int)) (.int .i64 ((c : Int) + 1))).run Try.prog w1 = .ok () w2 ∧ w1.grownBy w2 (some B) ∧ MapV w2 B (L ++ [v]) := by
  change ∃ (c st : Nat) (v0 : Value) (w1 : World), c ≤ L.length ∧ (Instr.lookup 330 (.map (some B)) (vkey v) false).run Try.prog w = _ ∧ (Instr.mapEntry 330 (.map (some B)) (vkey v)).run Try.prog w = _ ∧ _ ∧ (Instr.lookup 330 (.map (some B)) (vkey v) false).run Try.prog w1 = _ ∧ _
  have hV := h
  obtain ⟨es, clock, hb, ⟨s1, s2, s3⟩, he, hl⟩ := h
  obtain ⟨kl, hkey⟩ := keyOfVote k
  have hz : ∀ u, (zeroValue 3).run Try.prog u = .ok (.int .i64 0) u := fun u => by kernel_rfl
  have hk : ∀ e ∈ es.toList, ∃ l, keyOf Try.prog 333 e.key = some l := fun e hm => by
    obtain ⟨u, hu, hue, _⟩ := he e hm
    rw [hue]; exact keyOfVote hu
  rcases laidVote.find w hkey es.toList hk with ⟨h1, h2⟩ | ⟨j, e0, h1, h2, h3⟩
  · have hidx : (es.push ⟨vkey v, .int .i64 0, clock⟩).findIdx? (fun e => ((e.born : Nat) : Int) == ((clock : Nat) : Int)) = some es.size := by
      rw [WideElems.findIdx_arr]
      have := WideElems.findIdx_born (l := (es.push ⟨vkey v, .int .i64 0, clock⟩).toList) (j := es.size) (e0 := ⟨vkey v, .int .i64 0, clock⟩) (by
        simp only [Array.toList_push, List.map_append, List.map_cons, List.map_nil]
        refine List.nodup_append.2 ⟨s2, by simp, fun a ha c hc e1 => ?_⟩
        simp only [List.mem_singleton] at hc
        obtain ⟨x, hx, rfl⟩ := List.mem_map.1 ha
        have := s1 x hx
        omega) (by simp)
      exact this
    have hmod : (es.push ⟨vkey v, .int .i64 0, clock⟩).modify es.size (fun e => { e with val := .int .i64 1 }) = es.push ⟨vkey v, .int .i64 1, clock⟩ := by
      apply Array.ext'
      rw [Array.toList_modify, Array.toList_push, Array.toList_push, ← Array.length_toList, WideElems.modify_last]
    have hb1 := Go.ChangeMaps.heap_setBlock_same hb (.map (es.push ⟨vkey v, .int .i64 0, clock⟩) (clock + 1))
    have hg1 := grown_setBlock (o' := .map (es.push ⟨vkey v, .int .i64 0, clock⟩) (clock + 1)) hb
    have hent : (Instr.mapEntry 330 (.map (some B)) (vkey v)).run Try.prog w = .ok (.tuple #[.int .i64 0, .int .i64 (clock : Int)]) (setBlock w B (.map (es.push ⟨vkey v, .int .i64 0, clock⟩) (clock + 1))) := by
      simp [Instr.mapEntry, run_underlying Try.underlying330, MapKept.run_getObj_map hb, laidVote.check w false hkey, h1, hz, MapKept.run_setObj_map _ hb, Result.andThen, setBlock, goInt]
    generalize setBlock w B (.map (es.push ⟨vkey v, .int .i64 0, clock⟩) (clock + 1)) = w1 at hb1 hg1 hent
    have hfind1 : ∀ u : World, (Instr.findKey 333 (vkey v) (es.toList ++ [⟨vkey v, .int .i64 0, clock⟩])).run Try.prog u = .ok (some (es.size, .int .i64 0)) u := fun u => by
      have hk1 : ∀ e ∈ (es.toList ++ [(⟨vkey v, .int .i64 0, clock⟩ : MapEntry)]), ∃ l, keyOf Try.prog 333 e.key = some l := fun e hm => by
        rcases List.mem_append.1 hm with hm | hm
        · exact hk e hm
        · rw [List.mem_singleton] at hm; subst hm; exact ⟨kl, hkey⟩
      rcases laidVote.find u hkey _ hk1 with ⟨_, g2⟩ | ⟨j, e, g1, g2, g3⟩
      · exact absurd rfl (g2 ⟨vkey v, .int .i64 0, clock⟩ (by simp))
      · rw [g1]
        by_cases hj : j < es.toList.length
        · rw [List.getElem?_append_left hj] at g2
          exact absurd g3 (h2 e (List.mem_of_getElem? g2))
        · have hje : j = es.toList.length := by
            have := (List.getElem?_eq_some_iff.1 g2).1
            simp only [List.length_append, List.length_cons, List.length_nil] at this
            omega
          subst hje
          simp only [List.getElem?_append_right (Nat.le_refl _), Nat.sub_self, List.getElem?_cons_zero, Option.some.injEq] at g2
          subst g2
          simp
    refine ⟨0, clock, .int .i64 0, w1, by omega, ?_, hent, hg1, ?_, setBlock w1 B (.map (es.push ⟨vkey v, .int .i64 1, clock⟩) (clock + 1)), ?_, grown_setBlock hb1, ?_⟩
    · simp [Instr.lookup, run_underlying Try.underlying330, MapKept.run_getObj_map hb, laidVote.check w _ hkey, h1, hz, Result.andThen]
    · simp [Instr.lookup, run_underlying Try.underlying330, MapKept.run_getObj_map hb1, laidVote.check _ _ hkey, hfind1, Result.andThen]
    · simp [Instr.entryStore, MapKept.run_getObj_map hb1, asInt, asIntOf, hidx, hmod, MapKept.run_setObj_map _ hb1, Result.andThen, setBlock]
    · refine ⟨es.push ⟨vkey v, .int .i64 1, clock⟩, clock + 1, Go.ChangeMaps.heap_setBlock_same hb1 _, MapKept.stamped_push ⟨s1, s2, s3⟩ h2, fun e hm => ?_, fun x hx => ?_⟩
      · rw [Array.toList_push] at hm
        rcases List.mem_append.1 hm with hm | hm
        · obtain ⟨u, a1, a2, a3, c, a4, a5, a6⟩ := he e hm
          exact ⟨u, a1, a2, List.mem_append_left _ a3, c, a4, by rw [List.length_append]; omega, a6⟩
        · rw [List.mem_singleton] at hm; subst hm
          exact ⟨v, k, rfl, by simp, 1, by omega, by rw [List.length_append, List.length_singleton]; omega, rfl⟩
      · rw [Array.toList_push]
        rcases List.mem_append.1 hx with hx | hx
        · obtain ⟨e, a1, a2⟩ := hl x hx
          exact ⟨e, List.mem_append_left _ a1, a2⟩
        · rw [List.mem_singleton] at hx; subst hx
          exact ⟨_, List.mem_append_right _ (List.mem_singleton.2 rfl), rfl⟩
  · have hj : es[j]? = some e0 := by simpa using h2
    obtain ⟨u0, hu, hue, hum, c, hc0, hcl, hcv⟩ := he e0 (List.mem_of_getElem? h2)
    have hsame : es.modify j (fun e => { e with key := vkey v }) = es := by
      apply Array.ext'
      rw [Array.toList_modify, Go.ChangeMaps.modify_eq_set _ _ _ _ h2]
      have : ({ e0 with key := vkey v } : MapEntry) = e0 := by rw [← h3]
      rw [this]
      exact WideElems.set_self _ _ _ h2
    have hidx : es.findIdx? (fun e => ((e.born : Nat) : Int) == ((e0.born : Nat) : Int)) = some j := by
      rw [WideElems.findIdx_arr]
      exact WideElems.findIdx_born s2 h2
    have hb1 := Go.ChangeMaps.heap_setBlock_same hb (.map es clock)
    have hg1 := grown_setBlock (o' := .map es clock) hb
    have hent : (Instr.mapEntry 330 (.map (some B)) (vkey v)).run Try.prog w = .ok (.tuple #[e0.val, .int .i64 (e0.born : Int)]) (setBlock w B (.map es clock)) := by
      simp [Instr.mapEntry, run_underlying Try.underlying330, MapKept.run_getObj_map hb, laidVote.check w false hkey, h1, hj, h3, laidVote.stays w hkey, hsame, MapKept.run_setObj_map _ hb, Result.andThen, setBlock, goInt]
    generalize setBlock w B (.map es clock) = w1 at hb1 hg1 hent
    have hfind1 : ∀ u : World, (Instr.findKey 333 (vkey v) es.toList).run Try.prog u = .ok (some (j, e0.val)) u := fun u => by
      rcases laidVote.find u hkey _ hk with ⟨_, g2⟩ | ⟨j', e, g1, g2, g3⟩
      · exact absurd h3 (g2 e0 (List.mem_of_getElem? h2))
      · have hjj : j' = j := nodup_at s3 (x := vkey v) (by rw [List.getElem?_map, g2, Option.map_some, g3]) (by rw [List.getElem?_map, h2, Option.map_some, h3])
        subst hjj
        have ge : e = e0 := Option.some.inj (g2.symm.trans h2)
        rw [ge] at g1
        exact g1
    have hmm : ∀ e' : MapEntry, es.toList[j]? = some e' → e' = e0 := fun e' h => by rw [h2] at h; exact (Option.some.inj h).symm
    refine ⟨c, e0.born, e0.val, w1, hcl, ?_, hent, hg1, ?_, setBlock w1 B (.map (es.modify j (fun e => { e with val := .int .i64 ((c : Int) + 1) })) clock), ?_, grown_setBlock hb1, ?_⟩
    · simp [Instr.lookup, run_underlying Try.underlying330, MapKept.run_getObj_map hb, laidVote.check w _ hkey, h1, hcv, Result.andThen]
    · simp [Instr.lookup, run_underlying Try.underlying330, MapKept.run_getObj_map hb1, laidVote.check _ _ hkey, hfind1, hcv, Result.andThen]
    · simp [Instr.entryStore, MapKept.run_getObj_map hb1, asInt, asIntOf, hidx, MapKept.run_setObj_map _ hb1, Result.andThen, setBlock]
    · refine ⟨_, clock, Go.ChangeMaps.heap_setBlock_same hb1 _, MapKept.stamped_modify ⟨s1, s2, s3⟩ _ _ (fun _ _ => rfl) (fun _ _ _ => rfl), fun e hm => ?_, fun x hx => ?_⟩
      · rw [Array.toList_modify, Go.ChangeMaps.modify_eq_set _ _ _ _ h2] at hm
        rcases List.mem_or_eq_of_mem_set hm with hm | hm
        · obtain ⟨u, a1, a2, a3, c', a4, a5, a6⟩ := he e hm
          exact ⟨u, a1, a2, List.mem_append_left _ a3, c', a4, by rw [List.length_append]; omega, a6⟩
        · subst hm
          exact ⟨v, k, h3, by simp, c + 1, by omega, by rw [List.length_append, List.length_singleton]; omega, by simp⟩
      · rw [Array.toList_modify, Go.ChangeMaps.modify_eq_set _ _ _ _ h2]
        have hin : ∀ y, (∃ e ∈ es.toList, e.key = vkey y) → ∃ e ∈ es.toList.set j { e0 with val := .int .i64 ((c : Int) + 1) }, e.key = vkey y := by
          rintro y ⟨e, hm, hke⟩
          obtain ⟨i, hi⟩ := List.getElem?_of_mem hm
          by_cases hij : i = j
          · subst hij
            obtain rfl := hmm e hi
            exact ⟨{ e with val := .int .i64 ((c : Int) + 1) }, List.mem_of_getElem? (i := i) (List.getElem?_set_self (List.getElem?_eq_some_iff.1 hi).1), hke⟩
          · exact ⟨e, List.mem_of_getElem? (i := i) (by rw [List.getElem?_set_ne (fun e => hij e.symm)]; exact hi), hke⟩
        rcases List.mem_append.1 hx with hx | hx
        · exact hin x (hl x hx)
        · rw [List.mem_singleton] at hx; subst hx
          exact hin x ⟨e0, List.mem_of_getElem? h2, h3⟩
end Go.Proofs.Ytgjgokcpampljaa
/- (Vote3) seats.book. -/
namespace Go.Proofs.Ytgjgokcpampljaa
open Go.RowKit
theorem aggVote : Agg Try.prog 333 33 := ⟨_, Try.underlying333, rfl, by kernel_rfl⟩
def SBv (g : Nat) (v : Vt) : World → Prop := fun u => Blk 333 u g (vtc v)
set_option maxHeartbeats 2000000 in
set_option maxRecDepth 100000 in
theorem book_any (a : Option Addr) (n c : Nat) (l : List Vt) (hn : l.length = n) (hs : n ≤ 140737488355328) (hl : ∀ v ∈ l, v.Ok) (w : World) (h : RowOf vtc 33 w (.slice a n c) l) :
    Calls Try.prog 217 #[.slice a n c] w fun e w' => ∃ B, e = .returned (.map (some B)) ∧ MapV w' B l ∧ Below w.heap.size w w' := by
  have Hn := Lib.hid hn
  have Hl := Lib.hid hl
  have hmm := @run_makeMap Try.prog
  have hM0 := MapV.made w
  have hb0 : Below w.heap.size w (w.alloc (.map #[] 0)) := (Below.refl _ _).alloc (Nat.le_refl _) _
  clear hn hl
  go_enter Try.func217, Try.ntmps217
  go_wp2_with fail
  clear hmm
  obtain ⟨B, hB⟩ : ∃ B, B = w.heap.size := ⟨_, rfl⟩
  rw [← hB] at hM0
  rw [← hB]
  have hlB : w.heap.size ≤ B := Nat.le_of_eq hB.symm
  clear hB
  try simp only [Act.put]
  go_loopw [9] (fun ix wr => ∃ i : Nat, i ≤ n ∧ ix = .int .i64 (i : Int) ∧ MapV wr B (l.take i) ∧ Below w.heap.size w wr) (fun ix _ => n - (intOf ix).toNat)
  case atStart => exact ⟨0, by omega, rfl, hM0, hb0⟩
  case round =>
    clear hM0 hb0
    obtain ⟨i, hi, rfl, hM, hb⟩ := hrel
    by_cases hlt : i < n
    · have hki : (i : Int) < (n : Int) := by omega
      have hl1 : i < l.length := by rw [Hn.out]; exact hlt
      obtain ⟨b2, off2, rfl, hr⟩ := RowOf.range vtc_len (h.below hb) i hl1
      have hok := Hl.out _ (List.getElem_mem hl1)
      have hnext : l.take (i + 1) = l.take i ++ [l[i]] := List.take_succ_eq_append_getElem hl1
      generalize l[i] = v at *
      have Hnext := Lib.hid hnext
      have Hok := Lib.hid hok
      have hvl := vtc_len v
      have hlen : (l.take i).length = i := by rw [List.length_take]; omega
      have Hlen := Lib.hid hlen
      clear hnext hok hl1 hlen
      go_wp2_with (first
        | (refine wpList_load_mid (op := ⟨some 12, _, _, _, _, _⟩) (by rfl) 333 (.tmp 11) (by rfl) b2 (off2 + i * 33) (by rfl) (vtc v) _ hr Try.underlying333 rfl (by rw [hvl]; kernel_rfl) ?_)
        | ((with_reducible show wpList _ _ _ (⟨none, Op.store _ _ (Operand.tmp 12), _, _, _, _⟩ :: _) _ _); refine wpList_storeA (o := ⟨none, _, _, _, _, _⟩) (by rfl) 333 (.tmp 5) (.tmp 12) (by rfl) wr.heap.size (vtc v) (by rfl) (by rfl) aggVote (Blk.newA wr 333 _) hvl (by first | rfl | kernel_rfl) (vtc_one v) ((Below.refl wr.heap.size wr).alloc (Nat.le_refl _) _) (Nat.le_refl _) ?_; intro w6 h6 b6 _; have hM6 := hM.kept b6; have hb6 := Below.then hb b6))
      simp only [Act.put, List.setIfInBounds_toArray, List.set_cons_zero, List.set_cons_succ]
      have hne : B ≠ wr.heap.size := Nat.ne_of_lt hM.lt
      clear hM hr b6
      refine wp_region_via (fun aa b w' => ∃ (c st : Nat) (v0 : Value), b = ((((((aa.put (some 13) (.map (some B))).put (some 14) (.agg (vtc v).toArray)).put (some 15) (.int .i64 (c : Int))).put (some 16) (.int .i64 ((c : Int) + 1))).put (some 17) (.tuple #[v0, .int .i64 (st : Int)])).put (some 18) (.int .i64 (st : Int))) ∧ MapV w' B (l.take (i + 1)) ∧ Below w.heap.size w w') ?_ ?_
      · refine wp_region_h (SBv wr.heap.size v) (by kernel_rfl) ?_; intro u0 hu0; simp only [List.length_cons, List.length_nil, Nat.reduceAdd, List.replicate_succ, List.replicate_zero]
        have hM0 : MapV u0 B (l.take i) := by rw [hu0]; exact hM6.kept (Below.refl _ _).drew
        have hb0 : Below w.heap.size w u0 := by rw [hu0]; exact hb6.drew
        have hT : SBv wr.heap.size v u0 := by rw [hu0]; exact h6
        clear hu0 hM6 hb6 h6
        obtain ⟨c, st, v0, w1, hcl, k1, k2, g1, k3, w2, k4, g2, hM2⟩ := hM0.step Hok.out
        have hcw : IntKind.i64.wrap ((c : Int) + 1) = (c : Int) + 1 := IntWalk.i64_in _ (by have := Hlen.out; omega)
        have hBn : B ≠ wr.heap.size := hne
        have hT1 : SBv wr.heap.size v w1 := Blk.grown hT g1 (by intro e; injection e; omega)
        have hT2 : SBv wr.heap.size v w2 := Blk.grown hT1 g2 (by intro e; injection e; omega)
        have hb2 : Below w.heap.size w w2 := (hb0.grown g1 hb0.size (fun k hk => by cases hk; omega)).grown g2 (Nat.le_trans hb0.size g1.size) (fun k hk => by cases hk; omega)
        rw [← Hnext.out] at hM2
        (refine wpH_take 0 (by rfl) (by kernel_rfl) (by intro _ _ _ h; first | exact h | (cases h.1)) (by intro _ _ _ _ h; first | exact h | (cases h.1)) (by assumption) (fun K hK => ?_); simp only [List.setIfInBounds_toArray, List.set_cons_zero, List.set_cons_succ] at hK; go_simp; first | (refine hK _ ?_; clear hK K) | (apply Exists.intro; refine ⟨fun _ => rfl, hK _ ?_⟩; clear hK K))
        (refine wpH_take 1 (by rfl) (by kernel_rfl) (by intro _ _ _ h; first | exact h | (cases h.1)) (by intro _ _ _ _ h; first | exact h | (cases h.1)) (by assumption) (fun K hK => ?_); simp only [List.setIfInBounds_toArray, List.set_cons_zero, List.set_cons_succ] at hK; refine take_loadA (by rfl) 333 (.tmp 5) (by rfl) wr.heap.size (by rfl) aggVote (fun u hu => hu) hvl (hK _ ?_); clear hK K; simp only [Act.put, List.getElem_toArray, List.getElem_cons_zero, List.getElem_cons_succ, List.setIfInBounds_toArray, List.set_cons_zero, List.set_cons_succ])
        refine wpH_all [2, 4] (by kernel_rfl) (by simp) ?_
        intro i hi
        simp only [List.mem_cons, List.not_mem_nil, or_false] at hi
        rcases hi with rfl | rfl
        · (refine brH_of (i := 2) (by rfl) (fun K hK => ?_); simp only [List.setIfInBounds_toArray, List.set_cons_zero, List.set_cons_succ] at hK; go_simp)
          refine hK _ _ hT ?_; clear hK K
          (refine wpH_take 3 (by rfl) (by kernel_rfl) (by intro _ _ _ h; first | exact h | (cases h.1)) (by intro _ _ _ _ h; first | exact h | (cases h.1)) (by assumption) (fun K hK => ?_); simp only [List.setIfInBounds_toArray, List.set_cons_zero, List.set_cons_succ] at hK; go_simp; first | (refine hK _ ?_; clear hK K) | (apply Exists.intro; refine ⟨fun _ => rfl, hK _ ?_⟩; clear hK K))
          (refine wpH_only 4 (by rfl) (by kernel_rfl) (fun K hK => ?_); simp only [List.setIfInBounds_toArray, List.set_cons_zero, List.set_cons_succ] at hK; go_simp)
          refine hK _ _ hT1 ?_; clear hK K
          (refine wpH_take 5 (by rfl) (by kernel_rfl) (by intro _ _ _ h; first | exact h | (cases h.1)) (by intro _ _ _ _ h; first | exact h | (cases h.1)) (by assumption) (fun K hK => ?_); simp only [List.setIfInBounds_toArray, List.set_cons_zero, List.set_cons_succ] at hK; go_simp; first | (refine hK _ ?_; clear hK K) | (apply Exists.intro; refine ⟨fun _ => rfl, hK _ ?_⟩; clear hK K))
          (refine wpH_only 6 (by rfl) (by kernel_rfl) (fun K hK => ?_); simp only [List.setIfInBounds_toArray, List.set_cons_zero, List.set_cons_succ] at hK; go_simp)
          refine hK _ _ hT2 ?_; clear hK K
          exact wpH_done (by kernel_rfl) ⟨rfl, c, st, v0, rfl, hM2, hb2⟩
        · (refine brH_of (i := 4) (by rfl) (fun K hK => ?_); simp only [List.setIfInBounds_toArray, List.set_cons_zero, List.set_cons_succ] at hK; go_simp)
          refine hK _ _ hT1 ?_; clear hK K
          (refine wpH_take 5 (by rfl) (by kernel_rfl) (by intro _ _ _ h; first | exact h | (cases h.1)) (by intro _ _ _ _ h; first | exact h | (cases h.1)) (by assumption) (fun K hK => ?_); simp only [List.setIfInBounds_toArray, List.set_cons_zero, List.set_cons_succ] at hK; go_simp; first | (refine hK _ ?_; clear hK K) | (apply Exists.intro; refine ⟨fun _ => rfl, hK _ ?_⟩; clear hK K))
          (refine wpH_only 2 (by rfl) (by kernel_rfl) (fun K hK => ?_); simp only [List.setIfInBounds_toArray, List.set_cons_zero, List.set_cons_succ] at hK; go_simp)
          refine hK _ _ hT1 ?_; clear hK K
          (refine wpH_take 3 (by rfl) (by kernel_rfl) (by intro _ _ _ h; first | exact h | (cases h.1)) (by intro _ _ _ _ h; first | exact h | (cases h.1)) (by assumption) (fun K hK => ?_); simp only [List.setIfInBounds_toArray, List.set_cons_zero, List.set_cons_succ] at hK; go_simp; first | (refine hK _ ?_; clear hK K) | (apply Exists.intro; refine ⟨fun _ => rfl, hK _ ?_⟩; clear hK K))
          (refine wpH_only 6 (by rfl) (by kernel_rfl) (fun K hK => ?_); simp only [List.setIfInBounds_toArray, List.set_cons_zero, List.set_cons_succ] at hK; go_simp)
          refine hK _ _ hT2 ?_; clear hK K
          exact wpH_done (by kernel_rfl) ⟨rfl, c, st, v0, rfl, hM2, hb2⟩
      · rintro b w9 ⟨c, st, v0, rfl, hM9, hb9⟩
        simp only [Act.put, List.setIfInBounds_toArray, List.set_cons_zero, List.set_cons_succ]
        go_wp2_with fail
        go_roundw
        case rel => exact ⟨i + 1, by omega, by go_num, hM9, hb9⟩
        case measure => simp [intOf]; omega
    · obtain rfl : i = n := by omega
      rw [List.take_of_length_le (by rw [Hn.out]; exact Nat.le_refl _)] at hM
      go_wp2_with fail
      go_ret
      exact ⟨B, rfl, hM, hb⟩
end Go.Proofs.Ytgjgokcpampljaa
/- (Vote4) The reference's VHas. -/
namespace Go.Proofs.Ytgjgokcpampljaa
open Go.RowKit
def hitV (x : Nat) (s : List UInt8) (v : Vt) : Bool := v.seat == x && v.sum == s
def hasV (L : List Vt) (x : Nat) (s : List UInt8) : Bool := L.any (hitV x s)
theorem hasV_mem {L : List Vt} {x : Nat} {s : List UInt8} (hs : s.length = 32) : hasV L x s = true ↔ (⟨x, s, hs⟩ : Vt) ∈ L := by
  unfold hasV hitV
  rw [List.any_eq_true]
  constructor
  · rintro ⟨v, hv, he⟩
    simp only [Bool.and_eq_true, beq_iff_eq] at he
    obtain ⟨rfl, rfl⟩ := he
    exact hv
  · intro h
    exact ⟨_, h, by simp⟩
/-- '==' behind a guard that holds -/
theorem wpList_eqlG {P : Program} {w : World} {ops : Array Oper} {rest : List Oper} {o : Oper} {a : Act} {Q : Exit → Act → World → Prop} (ty : TypeId) (x y : Operand) (t : TypeId) (ho : o.op = .binOp .eql ty x y t) {v v' u : Value} (hx : a.eval x = v) (hy : a.eval y = v')
    (hg : ∀ o1 o2 w1, (eqGuard .eql ty o1 o2 v v').run P w1 = .ok () w1) (hq : ∀ w1, (binOp .eql ty v v').run P w1 = .ok u w1) (hw : Region.wanted o (yielded ops a.tmps) = true) (h : wpList P ops Q rest (a.put o.dst u) w) : wpList P ops Q (o :: rest) a w := by
  refine wpList_step fun K hK => ?_
  rw [if_pos hw]
  unfold Oper.wp execOp
  simp only [ho, hx, hy, Sem.run_bind, hg, hq, Result.andThen_ok, Sem.run_pure]
  exact hK _ _ h
theorem vtc_sum (v : Vt) : ((vtc v).drop 1).take 32 = by8 v.sum := by
  show (by8 v.sum).take 32 = _
  exact List.take_of_length_le (by rw [by8_len, v.len]; omega)
set_option maxHeartbeats 2000000 in
set_option maxRecDepth 100000 in
theorem vhas_any (a : Option Addr) (n c : Nat) (l : List Vt) (hn : l.length = n) (hs : n ≤ 140737488355328) (x : Nat) (s : List UInt8) (hsl : s.length = 32) (w : World) (h : RowOf vtc 33 w (.slice a n c) l) :
    Calls Try.prog 161 #[.slice a n c, .int .u64 (x : Int), .agg (by8 s).toArray] w fun e w' => e = .returned (.bool (hasV l x s)) ∧ Below w.heap.size w w' := by
  have Hn := Lib.hid hn
  have hz0 : Blk 23 (w.alloc (.cells (by8 s).toArray 23)) w.heap.size (by8 s) := Blk.new w _ _
  have hb0 : Below w.heap.size w (w.alloc (.cells (by8 s).toArray 23)) := (Below.refl _ _).alloc (Nat.le_refl _) _
  have hl32 : (by8 s).length = 32 := by rw [by8_len, hsl]
  clear hn
  go_enter Try.func161, Try.ntmps161
  go_wp2_with fail
  try simp only [Act.put]
  go_loopw [11] (fun ix wr => ∃ i : Nat, i ≤ n ∧ ix = .int .i64 (i : Int) ∧ Blk 23 wr w.heap.size (by8 s) ∧ Below w.heap.size w wr ∧ Hid (hasV (l.take i) x s = false)) (fun ix _ => n - (intOf ix).toNat)
  case atStart => exact ⟨0, by omega, rfl, hz0, hb0, Lib.hid rfl⟩
  case round =>
    clear hz0 hb0
    obtain ⟨i, hi, rfl, hz, hb, Hh⟩ := hrel
    by_cases hlt : i < n
    · have hki : (i : Int) < (n : Int) := by omega
      have hl1 : i < l.length := by rw [Hn.out]; exact hlt
      obtain ⟨b2, off2, rfl, hr⟩ := RowOf.range vtc_len (h.below hb) i hl1
      have hnext : l.take (i + 1) = l.take i ++ [l[i]] := List.take_succ_eq_append_getElem hl1
      have hmem : l[i] ∈ l := List.getElem_mem hl1
      generalize l[i] = v at *
      have Hnext := Lib.hid hnext
      have Hmem := Lib.hid hmem
      have hvl := vtc_len v
      have hvs : (by8 v.sum).length = 32 := by rw [by8_len, v.len]
      have g1 : ∀ o1 o2 w1, (eqGuard .eql 23 o1 o2 (.agg (by8 v.sum).toArray) (.agg (by8 s).toArray)).run Try.prog w1 = .ok () w1 := fun o1 o2 w1 => guard_eq_h v.sum s o1 o2 w1
      have q1 : ∀ w1, (binOp .eql 23 (.agg (by8 v.sum).toArray) (.agg (by8 s).toArray)).run Try.prog w1 = .ok (.bool (v.sum == s)) w1 := fun w1 => run_eq_h v.sum s v.len hsl w1
      obtain ⟨r, hr0⟩ : ∃ r, r = (v.sum == s) := ⟨_, rfl⟩
      rw [← hr0] at q1
      have G1 := Lib.hid g1
      have Q1 := Lib.hid q1
      have Hr := Lib.hid hr0
      have hhit : hasV (l.take (i + 1)) x s = ((v.seat == x) && r) := by
        rw [hnext]
        unfold hasV
        rw [List.any_append]
        have := Hh.out
        unfold hasV at this
        rw [this, hr0]
        simp [hitV]
      have Hhit := Lib.hid hhit
      have hfull : hasV (l.take (i + 1)) x s = true → hasV l x s = true := by
        unfold hasV
        rw [List.any_eq_true, List.any_eq_true]
        rintro ⟨y, hy, he⟩
        exact ⟨y, List.mem_of_mem_take hy, he⟩
      have Hfull := Lib.hid hfull
      obtain ⟨q, hq⟩ : ∃ q, q = (v.seat == x) := ⟨_, rfl⟩
      have hqi : ((v.seat : Int) == (x : Int)) = q := by
        rw [hq, Bool.eq_iff_iff]; simp only [beq_iff_eq]; omega
      have Hq := Lib.hid hq
      clear hnext hmem hl1 g1 q1 hr0 hhit hfull hq
      cases q <;> cases r
      · go_wp2_with (first
        | (refine wpList_load_mid (op := ⟨some 14, _, _, _, _, _⟩) (by rfl) 333 (.tmp 13) (by rfl) b2 (off2 + i * 33) (by rfl) (vtc v) _ hr Try.underlying333 rfl (by rw [hvl]; kernel_rfl) ?_)
        | ((with_reducible show wpList _ _ _ (⟨none, Op.store _ _ (Operand.tmp 14), _, _, _, _⟩ :: _) _ _); refine wpList_storeA (o := ⟨none, _, _, _, _, _⟩) (by rfl) 333 (.tmp 8) (.tmp 14) (by rfl) wr.heap.size (vtc v) (by rfl) (by rfl) aggVote (Blk.newA wr 333 _) hvl (by first | rfl | kernel_rfl) (vtc_one v) ((Below.refl wr.heap.size wr).alloc (Nat.le_refl _) _) (Nat.le_refl _) ?_; intro w6 h6 b6 _; have hz6 := hz.kept b6; have hb6 := Below.then hb b6; have c6 : w6.cell? ⟨wr.heap.size, 0, none⟩ = some (.int .u64 (v.seat : Int)) := (h6.cell 0); have rg6 := h6.range 1 32; rw [vtc_sum] at rg6))
        go_roundw
        case rel => exact ⟨i + 1, by omega, by go_num, hz6, hb6, Lib.hid (by rw [Hhit.out, ← Hq.out]; rfl)⟩
        case measure => simp [intOf]; omega
      · go_wp2_with (first
        | (refine wpList_load_mid (op := ⟨some 14, _, _, _, _, _⟩) (by rfl) 333 (.tmp 13) (by rfl) b2 (off2 + i * 33) (by rfl) (vtc v) _ hr Try.underlying333 rfl (by rw [hvl]; kernel_rfl) ?_)
        | ((with_reducible show wpList _ _ _ (⟨none, Op.store _ _ (Operand.tmp 14), _, _, _, _⟩ :: _) _ _); refine wpList_storeA (o := ⟨none, _, _, _, _, _⟩) (by rfl) 333 (.tmp 8) (.tmp 14) (by rfl) wr.heap.size (vtc v) (by rfl) (by rfl) aggVote (Blk.newA wr 333 _) hvl (by first | rfl | kernel_rfl) (vtc_one v) ((Below.refl wr.heap.size wr).alloc (Nat.le_refl _) _) (Nat.le_refl _) ?_; intro w6 h6 b6 _; have hz6 := hz.kept b6; have hb6 := Below.then hb b6; have c6 : w6.cell? ⟨wr.heap.size, 0, none⟩ = some (.int .u64 (v.seat : Int)) := (h6.cell 0); have rg6 := h6.range 1 32; rw [vtc_sum] at rg6))
        go_roundw
        case rel => exact ⟨i + 1, by omega, by go_num, hz6, hb6, Lib.hid (by rw [Hhit.out, ← Hq.out]; rfl)⟩
        case measure => simp [intOf]; omega
      · go_wp2_with (first
        | (refine wpList_load_mid (op := ⟨some 14, _, _, _, _, _⟩) (by rfl) 333 (.tmp 13) (by rfl) b2 (off2 + i * 33) (by rfl) (vtc v) _ hr Try.underlying333 rfl (by rw [hvl]; kernel_rfl) ?_)
        | ((with_reducible show wpList _ _ _ (⟨none, Op.store _ _ (Operand.tmp 14), _, _, _, _⟩ :: _) _ _); refine wpList_storeA (o := ⟨none, _, _, _, _, _⟩) (by rfl) 333 (.tmp 8) (.tmp 14) (by rfl) wr.heap.size (vtc v) (by rfl) (by rfl) aggVote (Blk.newA wr 333 _) hvl (by first | rfl | kernel_rfl) (vtc_one v) ((Below.refl wr.heap.size wr).alloc (Nat.le_refl _) _) (Nat.le_refl _) ?_; intro w6 h6 b6 _; have hz6 := hz.kept b6; have hb6 := Below.then hb b6; have c6 : w6.cell? ⟨wr.heap.size, 0, none⟩ = some (.int .u64 (v.seat : Int)) := (h6.cell 0); have rg6 := h6.range 1 32; rw [vtc_sum] at rg6)
        | (refine wpList_loadW (o := ⟨some 21, _, _, _, _, _⟩) 23 (.tmp 20) (by rfl) wr.heap.size 1 (by rfl) aggHs hvs rg6 (by rfl) ?_)
        | (refine wpList_loadW (o := ⟨some 22, _, _, _, _, _⟩) 23 (.tmp 5) (by rfl) w.heap.size 0 (by rfl) aggHs hl32 (Blk.all0 hz6) (by rfl) ?_)
        | (refine wpList_eqlG (o := ⟨some 23, _, _, _, _, _⟩) 23 (.tmp 21) (.tmp 22) _ (by rfl) (by rfl) (by rfl) G1.out Q1.out (by rfl) ?_))
        go_roundw
        case rel => exact ⟨i + 1, by omega, by go_num, hz6, hb6, Lib.hid (by rw [Hhit.out, ← Hq.out]; rfl)⟩
        case measure => simp [intOf]; omega
      · go_wp2_with (first
        | (refine wpList_load_mid (op := ⟨some 14, _, _, _, _, _⟩) (by rfl) 333 (.tmp 13) (by rfl) b2 (off2 + i * 33) (by rfl) (vtc v) _ hr Try.underlying333 rfl (by rw [hvl]; kernel_rfl) ?_)
        | ((with_reducible show wpList _ _ _ (⟨none, Op.store _ _ (Operand.tmp 14), _, _, _, _⟩ :: _) _ _); refine wpList_storeA (o := ⟨none, _, _, _, _, _⟩) (by rfl) 333 (.tmp 8) (.tmp 14) (by rfl) wr.heap.size (vtc v) (by rfl) (by rfl) aggVote (Blk.newA wr 333 _) hvl (by first | rfl | kernel_rfl) (vtc_one v) ((Below.refl wr.heap.size wr).alloc (Nat.le_refl _) _) (Nat.le_refl _) ?_; intro w6 h6 b6 _; have hz6 := hz.kept b6; have hb6 := Below.then hb b6; have c6 : w6.cell? ⟨wr.heap.size, 0, none⟩ = some (.int .u64 (v.seat : Int)) := (h6.cell 0); have rg6 := h6.range 1 32; rw [vtc_sum] at rg6)
        | (refine wpList_loadW (o := ⟨some 21, _, _, _, _, _⟩) 23 (.tmp 20) (by rfl) wr.heap.size 1 (by rfl) aggHs hvs rg6 (by rfl) ?_)
        | (refine wpList_loadW (o := ⟨some 22, _, _, _, _, _⟩) 23 (.tmp 5) (by rfl) w.heap.size 0 (by rfl) aggHs hl32 (Blk.all0 hz6) (by rfl) ?_)
        | (refine wpList_eqlG (o := ⟨some 23, _, _, _, _, _⟩) 23 (.tmp 21) (.tmp 22) _ (by rfl) (by rfl) (by rfl) G1.out Q1.out (by rfl) ?_))
        go_ret
        exact ⟨by rw [Hfull.out (by rw [Hhit.out, ← Hq.out]; rfl)]; rfl, hb6⟩
    · obtain rfl : i = n := by omega
      have hfin := Hh.out
      rw [List.take_of_length_le (by rw [Hn.out]; exact Nat.le_refl _)] at hfin
      have Hfin := Lib.hid hfin
      clear hfin
      go_wp2_with fail
      go_ret
      exact ⟨by rw [Hfin.out]; rfl, hb⟩
end Go.Proofs.Ytgjgokcpampljaa
/- (Vote5) Masks: plain Lean. -/
namespace Go.Proofs.Ytgjgokcpampljaa
open Go.RowKit
/-- the mask of those of a list that are so -/
def tal (f : Nat → Bool) : List Nat → Nat
  | [] => 0
  | x :: l => (if f x = true then 1 else 0) + 2 * tal f l
theorem tal_snoc (f : Nat → Bool) (x : Nat) : ∀ l : List Nat, tal f (l ++ [x]) = tal f l + (if f x = true then 2 ^ l.length else 0)
  | [] => by simp [tal]
  | y :: l => by
    rw [List.cons_append, tal, tal, tal_snoc f x l, List.length_cons, Nat.pow_succ]
    split <;> split <;> omega
theorem tal_lt (f : Nat → Bool) : ∀ l : List Nat, tal f l < 2 ^ l.length
  | [] => by simp [tal]
  | y :: l => by
    have := tal_lt f l
    rw [tal, List.length_cons, Nat.pow_succ]
    split <;> omega
theorem tal_bit (f : Nat → Bool) : ∀ (l : List Nat) (i : Nat), tal f l / 2 ^ i % 2 = 1 ↔ ∃ x, l[i]? = some x ∧ f x = true
  | [], i => by simp [tal]
  | y :: l, 0 => by
    rw [tal, Nat.pow_zero, Nat.div_one]
    simp only [List.getElem?_cons_zero, Option.some.injEq, exists_eq_left']
    split
    · rename_i h; simp only [h, iff_true]; omega
    · rename_i h; simp only [h, Bool.false_eq_true, iff_false]; omega
  | y :: l, i + 1 => by
    have ih := tal_bit f l i
    rw [tal, List.getElem?_cons_succ, ← ih, Nat.pow_succ, Nat.mul_comm (2 ^ i) 2, ← Nat.div_div_eq_div_mul]
    have : ((if f y = true then 1 else 0) + 2 * tal f l) / 2 = tal f l := by split <;> omega
    rw [this]
theorem or_pow (T i : Nat) (h : T < 2 ^ i) : T ||| 2 ^ i = T + 2 ^ i := by
  have := Nat.two_pow_add_eq_or_of_lt h 1
  rw [Nat.mul_one] at this
  rw [Nat.or_comm, ← this, Nat.add_comm]
/-- all that a mask names are there -/
def vtd (M : Nat) (f : Nat → Bool) (l : List Nat) : Bool := (List.range 64).all fun i => !(decide (M / 2 ^ i % 2 = 1)) || (match l[i]? with | some x => f x | none => false)
theorem vtd_iff (M : Nat) (hM : M < 18446744073709551616) (f : Nat → Bool) (l : List Nat) : (M &&& (18446744073709551615 - tal f (l.take 64)) = 0) ↔ vtd M f l = true := by
  have hT := tal_lt f (l.take 64)
  have hT64 : tal f (l.take 64) < 2 ^ 64 := Nat.lt_of_lt_of_le hT (Nat.pow_le_pow_right (by omega) (by rw [List.length_take]; omega))
  have hbit : ∀ i, i < 64 → (Nat.testBit (tal f (l.take 64)) i = true ↔ ∃ x, l[i]? = some x ∧ f x = true) := fun i hi => by
    rw [Nat.testBit_eq_decide_div_mod_eq, decide_eq_true_iff, tal_bit, List.getElem?_take_of_lt hi]
  have hM64 : ∀ i, 64 ≤ i → Nat.testBit M i = false := fun i hi => Nat.testBit_lt_two_pow (Nat.lt_of_lt_of_le hM (by
    have : (18446744073709551616 : Nat) = 2 ^ 64 := by decide
    rw [this]; exact Nat.pow_le_pow_right (by omega) hi))
  have hcomp : ∀ i, i < 64 → Nat.testBit (18446744073709551615 - tal f (l.take 64)) i = !Nat.testBit (tal f (l.take 64)) i := fun i hi => by
    have e : 18446744073709551615 - tal f (l.take 64) = 2 ^ 64 - (tal f (l.take 64) + 1) := by
      have : (2 : Nat) ^ 64 = 18446744073709551616 := by decide
      omega
    rw [e, Nat.testBit_two_pow_sub_succ hT64]
    simp [hi]
  constructor
  · intro h
    unfold vtd
    rw [List.all_eq_true]
    intro i hi
    rw [List.mem_range] at hi
    have h1 := congrArg (fun n => Nat.testBit n i) h
    simp only [Nat.testBit_and, Nat.zero_testBit, hcomp i hi] at h1
    by_cases hm : M / 2 ^ i % 2 = 1
    · have hmt : Nat.testBit M i = true := by rw [Nat.testBit_eq_decide_div_mod_eq, decide_eq_true_iff]; exact hm
      rw [hmt] at h1
      simp only [Bool.true_and, Bool.not_eq_false'] at h1
      obtain ⟨x, hx, hf⟩ := (hbit i hi).1 h1
      rw [hx]; simp [hf]
    · simp [hm]
  · intro h
    unfold vtd at h
    rw [List.all_eq_true] at h
    apply Nat.eq_of_testBit_eq
    intro i
    rw [Nat.testBit_and, Nat.zero_testBit]
    by_cases hi : i < 64
    · rw [hcomp i hi]
      have h1 := h i (List.mem_range.2 hi)
      by_cases hm : M / 2 ^ i % 2 = 1
      · simp only [hm, decide_true, Bool.not_true, Bool.false_or] at h1
        cases hx : l[i]? with
        | none => rw [hx] at h1; simp at h1
        | some x =>
          rw [hx] at h1
          rw [(hbit i hi).2 ⟨x, hx, h1⟩]; simp
      · have hmt : Nat.testBit M i = false := by rw [Nat.testBit_eq_decide_div_mod_eq, decide_eq_false_iff_not]; exact hm
        rw [hmt]; rfl
    · rw [hM64 i (by omega)]; rfl
end Go.Proofs.Ytgjgokcpampljaa
/- (Vote6) seats.Tally. -/
namespace Go.Proofs.Ytgjgokcpampljaa
open Go.RowKit
theorem bits_or (a b : Nat) (ha : a < 18446744073709551616) (hb : b < 18446744073709551616) : bits .or .u64 (a : Int) (b : Int) = ((a ||| b : Nat) : Int) := by
  have h1 : (BitVec.ofInt 64 (a : Int)).toNat = a := by rw [BitVec.ofInt_natCast, BitVec.toNat_ofNat]; exact Nat.mod_eq_of_lt (by omega)
  have h2 : (BitVec.ofInt 64 (b : Int)).toNat = b := by rw [BitVec.ofInt_natCast, BitVec.toNat_ofNat]; exact Nat.mod_eq_of_lt (by omega)
  show IntKind.u64.wrap ((BitVec.ofInt 64 (a : Int) ||| BitVec.ofInt 64 (b : Int)).toNat : Int) = _
  rw [BitVec.toNat_or, h1, h2]
  have : a ||| b < 2 ^ 64 := Nat.or_lt_two_pow (by omega) (by omega)
  exact IntWalk.u64_in _ (by omega)
theorem built_vote (x : Nat) (s : List UInt8) (hs : s.length = 32) : Try.prog.built 333 [(0, u64v x), (1, .agg (by8 s).toArray)] = some (vtc ⟨x, s, hs⟩).toArray := by
  have e : ∀ parts, Try.prog.built 333 parts = Instr.fill (#[((0 : Nat), (1 : Nat)), (1, 32)][·]?) ([u64v 0] ++ by8 (zeroB 32)).toArray parts := fun _ => by kernel_rfl
  rw [e]
  have hl : (by8 s).length = 32 := by rw [by8_len, hs]
  have f1 := fill_lay (#[((0 : Nat), (1 : Nat)), (1, 32)][·]?) 0 0 (u64v x) [u64v x] rfl rfl [] [u64v 0] (by8 (zeroB 32)) rfl rfl [(1, .agg (by8 s).toArray)]
  have f2 := fill_lay (#[((0 : Nat), (1 : Nat)), (1, 32)][·]?) 1 1 (.agg (by8 s).toArray) (by8 s) rfl (by rw [hl]; rfl) [u64v x] (by8 (zeroB 32)) [] rfl (by rw [hl]; rfl) []
  unfold vtc
  simp only [List.cons_append, List.nil_append, List.append_nil] at f1 f2 ⊢
  rw [f1, f2]
  rfl
/-- 'build' behind a guard that holds -/
theorem wpList_buildG {P : Program} {w : World} {ops : Array Oper} {rest : List Oper} {o : Oper} {a : Act} {Q : Exit → Act → World → Prop} (t : TypeId) (ps : List (Nat × Operand)) (ho : o.op = .build t ps.toArray) (L : List (Nat × Value)) (hL : (ps.map fun x => (x.1, a.eval x.2)) = L) (cells : Array Value) (hb : P.built t L = some cells)
    (hw : Region.wanted o (yielded ops a.tmps) = true) (h : wpList P ops Q rest (a.put o.dst (.agg cells)) w) : wpList P ops Q (o :: rest) a w := by
  have hb2 : P.built t (ps.toArray.map fun (i, x) => (i, a.eval x)).toList = some cells := by
    rw [← hb, ← hL]
    congr 1
    simp
  refine wpList_step fun K hK => ?_
  rw [if_pos hw]
  unfold Oper.wp execOp
  simp only [ho, Sem.run_bind, run_build w t _ cells hb2, Result.andThen_ok, Sem.run_pure]
  exact hK _ _ h
set_option maxHeartbeats 2000000 in
set_option maxRecDepth 100000 in
theorem tally_any (a : Option Addr) (n c : Nat) (l : List Nat) (hn : l.length = n) (hs : n ≤ 140737488355328) (hl : ∀ y ∈ l, y < 18446744073709551616) (s : List UInt8) (hsl : s.length = 32) (va : Option Addr) (vn vc : Nat) (V : List Vt) (hvn : V.length = vn) (hvs : vn ≤ 140737488355328) (hV : ∀ v ∈ V, v.Ok)
    (w : World) (h : RowOf u64c 1 w (.slice a n c) l) (hv : RowOf vtc 33 w (.slice va vn vc) V) :
    Calls Try.prog 157 #[.slice a n c, .agg (by8 s).toArray, .slice va vn vc] w fun e w' => e = .returned (.int .u64 (tal (fun x => hasV V x s) (l.take 64) : Nat)) ∧ Below w.heap.size w w' := by
  have Hn := Lib.hid hn
  have Hl8 := Lib.hid hl
  have hz0 : Blk 23 (w.alloc (.cells (by8 s).toArray 23)) w.heap.size (by8 s) := Blk.new w _ _
  have hb0 : Below w.heap.size w (w.alloc (.cells (by8 s).toArray 23)) := (Below.refl _ _).alloc (Nat.le_refl _) _
  have hl32 : (by8 s).length = 32 := by rw [by8_len, hsl]
  have cb := book_any va vn vc V hvn hvs hV _ (hv.below hb0)
  have Cb := Lib.hid cb
  clear hn hl cb
  go_enter Try.func157, Try.ntmps157
  go_wp2_with (go_at_call 217; refine Cb.out.mono ?_; rintro e w1 ⟨B, rfl, hM1, b1⟩; have hz1 := hz0.kept b1; have hb1 := Below.then hb0 b1)
  try simp only [Act.put]
  go_loopw [8, 15] (fun mv ix wr => ∃ i : Nat, i ≤ n ∧ ix = .int .i64 (i : Int) ∧ mv = .int .u64 (tal (fun x => hasV V x s) ((l.take i).take 64) : Nat) ∧ Blk 23 wr w.heap.size (by8 s) ∧ Below w.heap.size w wr ∧ MapV wr B V) (fun _ ix _ => n - (intOf ix).toNat)
  case atStart => exact ⟨0, by omega, rfl, rfl, hz1, hb1, hM1⟩
  case round =>
    clear hz0 hb0 Cb b1 hz1 hb1 hM1
    obtain ⟨i, hi, rfl, rfl, hz, hb, hM⟩ := hrel
    by_cases hlt : i < n
    · have hki : (i : Int) < (n : Int) := by omega
      have hl1 : i < l.length := by rw [Hn.out]; exact hlt
      obtain ⟨b2, off2, rfl, hc⟩ := u64_at (h.below hb) i hl1
      have hx64 : gv l i < 18446744073709551616 := by unfold gv; rw [List.getElem?_eq_getElem hl1]; exact Hl8.out _ (List.getElem_mem _)
      have hnext : l.take (i + 1) = l.take i ++ [gv l i] := by
        rw [List.take_succ_eq_append_getElem hl1]
        unfold gv
        rw [List.getElem?_eq_getElem hl1]; rfl
      generalize gv l i = x at *
      have hli : (l.take i).length = i := by rw [List.length_take]; omega
      by_cases h64 : i < 64
      · have h64i : (i : Int) < 64 := by omega
        have e1 : (l.take i).take 64 = l.take i := List.take_of_length_le (by omega)
        have e2 : (l.take (i + 1)).take 64 = l.take i ++ [x] := by rw [List.take_of_length_le (by rw [hnext, List.length_append, hli]; simp; omega), hnext]
        have hok : (⟨x, s, hsl⟩ : Vt).Ok := ⟨hx64⟩
        obtain ⟨c0, hc1, hc2, k1⟩ := hM.look hok
        change (Instr.lookup 330 (.map (some B)) (.agg (vtc ⟨x, s, hsl⟩).toArray) false).run Try.prog wr = _ at k1
        have hbv := built_vote x s hsl
        have hT := tal_lt (fun x => hasV V x s) (l.take i)
        rw [hli] at hT
        have hsn := tal_snoc (fun x => hasV V x s) x (l.take i)
        rw [hli] at hsn
        have hP64 : 2 ^ i < 18446744073709551616 := Nat.lt_of_le_of_lt (Nat.pow_le_pow_right (by omega) (by omega : i ≤ 63)) (by decide)
        rw [e1]
        rw [← e2] at hsn
        obtain ⟨T, hTe⟩ : ∃ T, T = tal (fun x => hasV V x s) (l.take i) := ⟨_, rfl⟩
        rw [← hTe] at hT hsn ⊢
        have hor := bits_or T (2 ^ i) (by omega) hP64
        rw [or_pow T i hT] at hor
        have hshl : IntKind.u64.wrap ((2 : Int) ^ i) = ((2 ^ i : Nat) : Int) := by
          have : (2 : Int) ^ i = ((2 ^ i : Nat) : Int) := by simp
          rw [this]; exact IntWalk.u64_in _ (by omega)
        obtain ⟨Pw, hPw⟩ : ∃ P, P = 2 ^ i := ⟨_, rfl⟩
        rw [← hPw] at hor hshl hsn
        have Hbv := Lib.hid hbv
        have Hsn := Lib.hid hsn
        generalize vtc ⟨x, s, hsl⟩ = VC at *
        clear hnext hl1 e1 e2 hok hbv hT hsn hTe hPw hx64 hP64
        by_cases hc3 : 0 < c0
        · have hcg : (0 : Int) < (c0 : Int) := by omega
          have hin : hasV V x s = true := (hasV_mem hsl).2 (hc2.1 hc3)
          have Hin := Lib.hid hin
          clear hin hc2
          go_wp2_with (first
            | (refine wpList_loadW (o := ⟨some 25, _, _, _, _, _⟩) 23 (.tmp 4) (by rfl) w.heap.size 0 (by rfl) aggHs hl32 (Blk.all0 hz) (by rfl) ?_)
            | (refine wpList_buildG (o := ⟨some 26, _, _, _, _, _⟩) 333 [(0, .tmp 24), (1, .tmp 25)] (by rfl) _ (by rfl) _ Hbv.out (by rfl) ?_))
          go_roundw
          case rel => exact ⟨i + 1, by omega, by go_num, by rw [Hsn.out, if_pos Hin.out, Int.natCast_add], hz, hb, hM⟩
          case measure => simp [intOf]; omega
        · obtain rfl : c0 = 0 := by omega
          have hin : ¬ hasV V x s = true := fun e => hc3 (hc2.2 ((hasV_mem hsl).1 e))
          have Hin := Lib.hid hin
          clear hin hc2
          go_wp2_with (first
            | (refine wpList_loadW (o := ⟨some 25, _, _, _, _, _⟩) 23 (.tmp 4) (by rfl) w.heap.size 0 (by rfl) aggHs hl32 (Blk.all0 hz) (by rfl) ?_)
            | (refine wpList_buildG (o := ⟨some 26, _, _, _, _, _⟩) 333 [(0, .tmp 24), (1, .tmp 25)] (by rfl) _ (by rfl) _ Hbv.out (by rfl) ?_))
          go_roundw
          case rel => exact ⟨i + 1, by omega, by go_num, by rw [Hsn.out, if_neg Hin.out, Nat.add_zero], hz, hb, hM⟩
          case measure => simp [intOf]; omega
      · have h64i : ¬ (i : Int) < 64 := by omega
        have e1 : (l.take (i + 1)).take 64 = (l.take i).take 64 := by rw [List.take_take, List.take_take, Nat.min_eq_left (by omega), Nat.min_eq_left (by omega)]
        have E1 := Lib.hid e1
        clear hnext hl1 e1
        go_wp2_with fail
        go_roundw
        case rel => exact ⟨i + 1, by omega, by go_num, by rw [E1.out], hz, hb, hM⟩
        case measure => simp [intOf]; omega
    · obtain rfl : i = n := by omega
      have e9 : l.take i = l := List.take_of_length_le (by rw [Hn.out]; exact Nat.le_refl _)
      rw [e9]
      go_wp2_with fail
      go_ret
      exact ⟨rfl, hb⟩
end Go.Proofs.Ytgjgokcpampljaa
/- (Vote7) seats.Voted; the reference's VVoted. -/
namespace Go.Proofs.Ytgjgokcpampljaa
open Go.RowKit
theorem bits_andNot (a b : Nat) (ha : a < 18446744073709551616) (hb : b < 18446744073709551616) : bits .andNot .u64 (a : Int) (b : Int) = ((a &&& (18446744073709551615 - b) : Nat) : Int) := by
  have h1 : (BitVec.ofInt 64 (a : Int)).toNat = a := by rw [BitVec.ofInt_natCast, BitVec.toNat_ofNat]; exact Nat.mod_eq_of_lt (by omega)
  have h2 : (BitVec.ofInt 64 (b : Int)).toNat = b := by rw [BitVec.ofInt_natCast, BitVec.toNat_ofNat]; exact Nat.mod_eq_of_lt (by omega)
  show IntKind.u64.wrap ((BitVec.ofInt 64 (a : Int) &&& ~~~ BitVec.ofInt 64 (b : Int)).toNat : Int) = _
  have h3 : (BitVec.ofInt 64 (a : Int) &&& ~~~ BitVec.ofInt 64 (b : Int)).toNat = a &&& (18446744073709551615 - b) := by
    rw [BitVec.toNat_and, BitVec.toNat_not, h1, h2]
  rw [h3]
  have : a &&& (18446744073709551615 - b) ≤ a := Nat.and_le_left
  exact IntWalk.u64_in _ (by omega)
set_option maxHeartbeats 2000000 in
set_option maxRecDepth 100000 in
theorem voted_any (a : Option Addr) (n c : Nat) (l : List Nat) (hn : l.length = n) (hs : n ≤ 140737488355328) (hl : ∀ y ∈ l, y < 18446744073709551616) (M : Nat) (hM : M < 18446744073709551616) (s : List UInt8) (hsl : s.length = 32) (va : Option Addr) (vn vc : Nat) (V : List Vt) (hvn : V.length = vn) (hvs : vn ≤ 140737488355328) (hV : ∀ v ∈ V, v.Ok)
    (w : World) (h : RowOf u64c 1 w (.slice a n c) l) (hv : RowOf vtc 33 w (.slice va vn vc) V) :
    Calls Try.prog 76 #[.slice a n c, .int .u64 (M : Int), .agg (by8 s).toArray, .slice va vn vc] w fun e w' => e = .returned (.bool (vtd M (fun x => hasV V x s) l)) ∧ Below w.heap.size w w' := by
  have hz0 : Blk 23 (w.alloc (.cells (by8 s).toArray 23)) w.heap.size (by8 s) := Blk.new w _ _
  have hb0 : Below w.heap.size w (w.alloc (.cells (by8 s).toArray 23)) := (Below.refl _ _).alloc (Nat.le_refl _) _
  have hl32 : (by8 s).length = 32 := by rw [by8_len, hsl]
  have ct := tally_any a n c l hn hs hl s hsl va vn vc V hvn hvs hV _ (h.below hb0) (hv.below hb0)
  have hvt := vtd_iff M hM (fun x => hasV V x s) l
  have hT : tal (fun x => hasV V x s) (l.take 64) < 18446744073709551616 := by
    have h1 := tal_lt (fun x => hasV V x s) (l.take 64)
    have h2 : 2 ^ (l.take 64).length ≤ 2 ^ 64 := Nat.pow_le_pow_right (by omega) (by rw [List.length_take]; omega)
    have h3 : (2 : Nat) ^ 64 = 18446744073709551616 := by decide
    omega
  obtain ⟨T, hTe⟩ : ∃ T, T = tal (fun x => hasV V x s) (l.take 64) := ⟨_, rfl⟩
  rw [← hTe] at ct hvt hT
  have han := bits_andNot M T hM hT
  obtain ⟨Q, hQ⟩ : ∃ Q, Q = M &&& (18446744073709551615 - T) := ⟨_, rfl⟩
  rw [← hQ] at han hvt
  obtain ⟨R, hR⟩ : ∃ R, R = vtd M (fun x => hasV V x s) l := ⟨_, rfl⟩
  rw [← hR] at hvt ⊢
  have hq : ((Q : Int) == 0) = R := by
    rw [Bool.eq_iff_iff, ← hvt]; simp only [beq_iff_eq]; omega
  have Ct := Lib.hid ct
  clear hn hl hQ hR hTe ct hvt h hv hV
  go_enter Try.func76, Try.ntmps76
  go_wp2_with (first
    | (refine wpList_loadA (o := ⟨some 11, _, _, _, _, _⟩) (by rfl) 23 (.tmp 6) (by rfl) w.heap.size (by rfl) aggHs hz0 hl32 ?_)
    | (go_at_call 157; refine Ct.out.mono ?_; rintro e w1 ⟨rfl, b1⟩; have hb1 := Below.then hb0 b1))
  go_ret
  exact ⟨rfl, hb1⟩
/-- one place of a mask -/
def vtb (M : Nat) (f : Nat → Bool) (l : List Nat) (i : Nat) : Bool := !(decide (M / 2 ^ i % 2 = 1)) || (match l[i]? with | some x => f x | none => false)
theorem vtd_all (M : Nat) (f : Nat → Bool) (l : List Nat) : vtd M f l = (List.range 64).all (vtb M f l) := rfl
set_option maxHeartbeats 2000000 in
set_option maxRecDepth 100000 in
theorem vvoted_any (a : Option Addr) (n c : Nat) (l : List Nat) (hn : l.length = n) (hs : n ≤ 140737488355328) (M : Nat) (hM : M < 18446744073709551616) (s : List UInt8) (hsl : s.length = 32) (va : Option Addr) (vn vc : Nat) (V : List Vt) (hvn : V.length = vn) (hvs : vn ≤ 140737488355328)
    (w : World) (h : RowOf u64c 1 w (.slice a n c) l) (hv : RowOf vtc 33 w (.slice va vn vc) V) :
    Calls Try.prog 81 #[.slice a n c, .int .u64 (M : Int), .agg (by8 s).toArray, .slice va vn vc] w fun e w' => e = .returned (.bool (vtd M (fun x => hasV V x s) l)) ∧ Below w.heap.size w w' := by
  have Hn := Lib.hid hn
  have hz0 : Blk 23 (w.alloc (.cells (by8 s).toArray 23)) w.heap.size (by8 s) := Blk.new w _ _
  have hb0 : Below w.heap.size w (w.alloc (.cells (by8 s).toArray 23)) := (Below.refl _ _).alloc (Nat.le_refl _) _
  have hl32 : (by8 s).length = 32 := by rw [by8_len, hsl]
  clear hn
  go_enter Try.func81, Try.ntmps81
  go_wp2_with fail
  try simp only [Act.put]
  go_loopw [10] (fun ix wr => ∃ i : Nat, i ≤ 64 ∧ ix = .int .i64 (i : Int) ∧ Blk 23 wr w.heap.size (by8 s) ∧ Below w.heap.size w wr ∧ Hid ((List.range i).all (vtb M (fun x => hasV V x s) l) = true)) (fun ix _ => 64 - (intOf ix).toNat)
  case atStart => exact ⟨0, by omega, rfl, hz0, hb0, Lib.hid rfl⟩
  case round =>
    clear hz0 hb0
    obtain ⟨i, hi, rfl, hz, hb, Hh⟩ := hrel
    by_cases hlt : i < 64
    · have hki : (i : Int) < 64 := by omega
      have hvn1 := fun u => (vnames_any M i hM (by omega) u).mono (fun e w' h => (⟨h.1, by rw [← h.2]; exact Below.refl _ _⟩ : e = .returned (.bool (decide (M / 2 ^ i % 2 = 1))) ∧ Below u.heap.size u w'))
      have hstep : vtb M (fun x => hasV V x s) l i = true → (List.range (i + 1)).all (vtb M (fun x => hasV V x s) l) = true := fun hg => by
        rw [List.range_succ, List.all_append, Hh.out]; simp [hg]
      have hbad : vtb M (fun x => hasV V x s) l i = false → vtd M (fun x => hasV V x s) l = false := fun hg => by
        rw [vtd_all, List.all_eq_false]
        exact ⟨i, List.mem_range.2 hlt, by rw [hg]; simp⟩
      have Hstep := Lib.hid hstep
      have Hbad := Lib.hid hbad
      have RH := Lib.hid (Blk.all0 hz)
      clear hstep hbad
      by_cases hbit : M / 2 ^ i % 2 = 1
      · rw [decide_eq_true hbit] at hvn1
        have Vn := Lib.hid hvn1
        clear hvn1
        by_cases hin : i < n
        · have hii : ¬ ((n : Int) ≤ (i : Int)) := by omega
          have hiN : (i : Int) < (n : Int) := by omega
          have hdec : decide (n ≤ i) = false := decide_eq_false (by omega)
          have hl1 : i < l.length := by rw [Hn.out]; exact hin
          obtain ⟨b2, off2, rfl, hc⟩ := u64_at (h.below hb) i hl1
          have k1 := fun u : Ext wr => u.cell hc
          obtain ⟨x, hx⟩ : ∃ x, x = gv l i := ⟨_, rfl⟩
          rw [← hx] at k1
          have hget : l[i]? = some x := by rw [hx]; unfold gv; rw [List.getElem?_eq_getElem hl1]; rfl
          have hval : vtb M (fun x => hasV V x s) l i = hasV V x s := by unfold vtb; rw [hget]; simp [hbit]
          have vh : ∀ u, Below wr.heap.size wr u → _ := fun u hu => vhas_any va vn vc V hvn hvs x s hsl u (hv.below (Below.then hb hu))
          obtain ⟨r, hr⟩ : ∃ r, r = hasV V x s := ⟨_, rfl⟩
          rw [← hr] at hval vh
          have Vh := Lib.hid vh
          have Hval := Lib.hid hval
          clear hl1 hc hx hget hval hr vh
          cases r with
          | true =>
            go_wp2_with fail
            refine wp_region_typed wr 19 (by kernel_rfl) (by kernel_rfl) (Below.refl _ _) ?_; simp only [List.take_succ_cons, List.take_zero, List.take_nil]
            iterate 2 (refine wpX_step (by rfl) (fun K hK => ?_); go_simp; first | (refine hK _ ?_; clear hK K) | (apply Exists.intro; refine ⟨fun _ => ?_, hK _ ?_⟩; fail; clear hK K))
            (refine wpX_step (by rfl) (fun K hK => ?_); go_simp; first | (refine hK _ ?_; clear hK K) | (apply Exists.intro; refine ⟨fun _ => ?_, hK _ ?_⟩; exact Vn.out _; clear hK K))
            iterate 11 (refine wpX_step (by rfl) (fun K hK => ?_); go_simp; first | (refine hK _ ?_; clear hK K) | (apply Exists.intro; refine ⟨fun _ => ?_, hK _ ?_⟩; fail; clear hK K))
            (refine wpX_step (by rfl) (fun K hK => ?_); rw [if_pos (by rfl)]; refine ⟨_, fun u => const_loadm _ (.tmp 6) (by rfl) _ _ (by rfl) aggHs hl32 (rangeAt.ext RH.out u), hK _ ?_⟩; clear hK K; simp only [Act.put, List.setIfInBounds_toArray, List.set_cons_zero, List.set_cons_succ])
            (refine wpX_step (by rfl) (fun K hK => ?_); go_simp; first | (refine hK _ ?_; clear hK K) | (apply Exists.intro; refine ⟨fun _ => ?_, hK _ ?_⟩; exact Vh.out _ (Subtype.property _); clear hK K))
            iterate 3 (refine wpX_step (by rfl) (fun K hK => ?_); go_simp; first | (refine hK _ ?_; clear hK K) | (apply Exists.intro; refine ⟨fun _ => ?_, hK _ ?_⟩; fail; clear hK K))
            refine wpX_nil ?_
            intro u2 hb2
            have hz2 := hz.kept hb2
            have hbel2 := Below.then hb hb2
            change forallRel u2 [] _ _
            simp only [forallRel, List.drop_succ_cons, List.drop_zero, List.drop_nil]
            clear k1
            go_wp2_with fail
            go_roundw
            case rel => exact ⟨i + 1, by omega, by go_num, hz2, hbel2, Lib.hid (Hstep.out Hval.out)⟩
            case measure => simp [intOf]; omega
          | false =>
            go_wp2_with fail
            refine wp_region_typed wr 19 (by kernel_rfl) (by kernel_rfl) (Below.refl _ _) ?_; simp only [List.take_succ_cons, List.take_zero, List.take_nil]
            iterate 2 (refine wpX_step (by rfl) (fun K hK => ?_); go_simp; first | (refine hK _ ?_; clear hK K) | (apply Exists.intro; refine ⟨fun _ => ?_, hK _ ?_⟩; fail; clear hK K))
            (refine wpX_step (by rfl) (fun K hK => ?_); go_simp; first | (refine hK _ ?_; clear hK K) | (apply Exists.intro; refine ⟨fun _ => ?_, hK _ ?_⟩; exact Vn.out _; clear hK K))
            iterate 11 (refine wpX_step (by rfl) (fun K hK => ?_); go_simp; first | (refine hK _ ?_; clear hK K) | (apply Exists.intro; refine ⟨fun _ => ?_, hK _ ?_⟩; fail; clear hK K))
            (refine wpX_step (by rfl) (fun K hK => ?_); rw [if_pos (by rfl)]; refine ⟨_, fun u => const_loadm _ (.tmp 6) (by rfl) _ _ (by rfl) aggHs hl32 (rangeAt.ext RH.out u), hK _ ?_⟩; clear hK K; simp only [Act.put, List.setIfInBounds_toArray, List.set_cons_zero, List.set_cons_succ])
            (refine wpX_step (by rfl) (fun K hK => ?_); go_simp; first | (refine hK _ ?_; clear hK K) | (apply Exists.intro; refine ⟨fun _ => ?_, hK _ ?_⟩; exact Vh.out _ (Subtype.property _); clear hK K))
            iterate 3 (refine wpX_step (by rfl) (fun K hK => ?_); go_simp; first | (refine hK _ ?_; clear hK K) | (apply Exists.intro; refine ⟨fun _ => ?_, hK _ ?_⟩; fail; clear hK K))
            refine wpX_nil ?_
            intro u2 hb2
            have hbel2 := Below.then hb hb2
            change forallRel u2 [] _ _
            simp only [forallRel, List.drop_succ_cons, List.drop_zero, List.drop_nil]
            clear k1
            go_wp2_with fail
            go_ret
            exact ⟨by rw [Hbad.out Hval.out]; rfl, hbel2⟩
        · have hii : (n : Int) ≤ (i : Int) := by omega
          have hdec : decide (n ≤ i) = true := decide_eq_true (by omega)
          have hget : l[i]? = none := List.getElem?_eq_none (by rw [Hn.out]; omega)
          have hval : vtb M (fun x => hasV V x s) l i = false := by unfold vtb; rw [hget]; simp [hbit]
          have Hval := Lib.hid hval
          clear hget hval
          go_wp2_with fail
          refine wp_region_typed wr 19 (by kernel_rfl) (by kernel_rfl) (Below.refl _ _) ?_; simp only [List.take_succ_cons, List.take_zero, List.take_nil]
          iterate 2 (refine wpX_step (by rfl) (fun K hK => ?_); go_simp; first | (refine hK _ ?_; clear hK K) | (apply Exists.intro; refine ⟨fun _ => ?_, hK _ ?_⟩; fail; clear hK K))
          (refine wpX_step (by rfl) (fun K hK => ?_); go_simp; first | (refine hK _ ?_; clear hK K) | (apply Exists.intro; refine ⟨fun _ => ?_, hK _ ?_⟩; exact Vn.out _; clear hK K))
          iterate 16 (refine wpX_step (by rfl) (fun K hK => ?_); go_simp; first | (refine hK _ ?_; clear hK K) | (apply Exists.intro; refine ⟨fun _ => ?_, hK _ ?_⟩; fail; clear hK K))
          refine wpX_nil ?_
          intro u2 hb2
          have hbel2 := Below.then hb hb2
          change forallRel u2 [] _ _
          simp only [forallRel, List.drop_succ_cons, List.drop_zero, List.drop_nil]
          go_wp2_with fail
          go_ret
          exact ⟨by rw [Hbad.out Hval.out]; rfl, hbel2⟩
      · rw [decide_eq_false hbit] at hvn1
        have Vn := Lib.hid hvn1
        have hval : vtb M (fun x => hasV V x s) l i = true := by unfold vtb; simp [hbit]
        have Hval := Lib.hid hval
        clear hvn1 hval
        go_wp2_with fail
        refine wp_region_typed wr 19 (by kernel_rfl) (by kernel_rfl) (Below.refl _ _) ?_; simp only [List.take_succ_cons, List.take_zero, List.take_nil]
        iterate 2 (refine wpX_step (by rfl) (fun K hK => ?_); go_simp; first | (refine hK _ ?_; clear hK K) | (apply Exists.intro; refine ⟨fun _ => ?_, hK _ ?_⟩; fail; clear hK K))
        (refine wpX_step (by rfl) (fun K hK => ?_); go_simp; first | (refine hK _ ?_; clear hK K) | (apply Exists.intro; refine ⟨fun _ => ?_, hK _ ?_⟩; exact Vn.out _; clear hK K))
        iterate 16 (refine wpX_step (by rfl) (fun K hK => ?_); go_simp; first | (refine hK _ ?_; clear hK K) | (apply Exists.intro; refine ⟨fun _ => ?_, hK _ ?_⟩; fail; clear hK K))
        refine wpX_nil ?_
        intro u2 hb2
        have hz2 := hz.kept hb2
        have hbel2 := Below.then hb hb2
        change forallRel u2 [] _ _
        simp only [forallRel, List.drop_succ_cons, List.drop_zero, List.drop_nil]
        go_wp2_with fail
        go_roundw
        case rel => exact ⟨i + 1, by omega, by go_num, hz2, hbel2, Lib.hid (Hstep.out Hval.out)⟩
        case measure => simp [intOf]; omega
    · obtain rfl : i = 64 := by omega
      have Hfin : Hid (vtd M (fun x => hasV V x s) l = true) := Lib.hid Hh.out
      go_wp2_with fail
      go_ret
      exact ⟨by rw [Hfin.out]; rfl, hb⟩
end Go.Proofs.Ytgjgokcpampljaa
