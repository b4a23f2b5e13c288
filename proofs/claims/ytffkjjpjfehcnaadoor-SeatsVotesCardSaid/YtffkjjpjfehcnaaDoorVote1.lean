/- Votes, and a map that counts them. -/
import Derived.Test.YtffkjjpjfehcnaaDoorLits
import Derived.WideKeyEntry
import Derived.DeepKeys4
set_option linter.unusedSimpArgs false
set_option linter.unusedVariables false
namespace Go.Proofs.YtffkjjpjfehcnaaDoor
open Go.RowKit
open Go.ChangeMaps (setBlock)
open Go.WideMaps (KeyLaw)
structure Vt where
  seat : Nat
  sum : List UInt8
  len : sum.length = 32
structure Vt.Ok (v : Vt) : Prop where
  seat : v.seat < 18446744073709551616
def vtc (v : Vt) : List Value := [u64v v.seat] ++ by8 v.sum
theorem vtc_len (v : Vt) : (vtc v).length = 33 := by unfold vtc; rw [List.length_append, by8_len, v.len]; rfl
theorem vtc_one (v : Vt) : ∀ u ∈ vtc v, u.oneCell' = true := by
  intro u hu
  unfold vtc at hu
  rcases List.mem_append.1 hu with hu | hu
  · rw [List.mem_singleton] at hu; subst hu; rfl
  · obtain ⟨x, _, rfl⟩ := List.mem_map.1 hu
    rfl
theorem by8_inj {l m : List UInt8} (h : by8 l = by8 m) : l = m := by
  unfold by8 at h
  have inj : ∀ a b : UInt8, u8v a = u8v b → a = b := by
    intro a b e
    unfold u8v at e
    simp only [Value.int.injEq, true_and] at e
    exact UInt8.toNat_inj.1 (by omega)
  induction l generalizing m with
  | nil => cases m with
    | nil => rfl
    | cons y m => simp at h
  | cons x l ih => cases m with
    | nil => simp at h
    | cons y m =>
      simp only [List.map_cons, List.cons.injEq] at h
      rw [inj _ _ h.1, ih h.2]
theorem vtc_inj {u v : Vt} (h : vtc u = vtc v) : u = v := by
  unfold vtc at h
  simp only [List.cons_append, List.nil_append, List.cons.injEq] at h
  cases u; cases v
  have h1 := h.1
  unfold u64v at h1
  simp only [Value.int.injEq, true_and] at h1
  simp only [Vt.mk.injEq]
  exact ⟨by omega, by8_inj h.2⟩
def vkey (v : Vt) : Value := .agg (vtc v).toArray
theorem vkey_inj {u v : Vt} (h : vkey u = vkey v) : u = v := by
  unfold vkey at h
  simp only [Value.agg.injEq] at h
  exact vtc_inj (by simpa using congrArg Array.toList h)
theorem laidVote : KeyLaw Tryd.prog 34 := deep_law_laid laidOut (m := 4) (by omega) (of_decide_eq_true (by kernel_rfl)) (by kernel_rfl) (by kernel_rfl)
theorem cellsVote : Tryd.prog.cellsOf 34 = 33 := by kernel_rfl
theorem keyVote {v : Vt} (k : v.Ok) (d : Nat) : Tryd.prog.keyLits (d + 3) 34 (vtc v) = some [lit64 v.seat, lit8 v.sum].flatten := by
  have c32 : Tryd.prog.cellsOf 25 = 32 := by kernel_rfl
  have c1 : Tryd.prog.cellsOf 23 = 1 := by kernel_rfl
  have e0 := keyL64 (d + 1) k.seat
  have e1 := keyA (t := 25) (n := 32) Tryd.underlying25 c32 d v.sum v.len
  have d0 : ((vtc v).drop 0).take 1 = [u64v v.seat] := rfl
  have d1 : ((vtc v).drop 1).take 32 = by8 v.sum := by
    show (by8 v.sum).take 32 = _
    exact List.take_of_length_le (by rw [by8_len, v.len]; omega)
  rw [← d0] at e0
  rw [← d1] at e1
  unfold Program.keyLits
  simp only [show Tryd.prog.underlying 34 = some (.struct _) from Tryd.underlying34]
  rw [if_pos ⟨by rw [vtc_len v, cellsVote], by kernel_rfl⟩]
  simp only [List.mapM_cons, List.mapM_nil, c32, c1, e0, e1]
  rfl
theorem keyOfVote {v : Vt} (k : v.Ok) : ∃ l, keyOf Tryd.prog 34 (vkey v) = some l := by
  have h3 : ∃ m, Tryd.prog.types.size + 1 = m + 3 := ⟨Tryd.prog.types.size + 1 - 3, by have : 3 ≤ Tryd.prog.types.size := of_decide_eq_true (by kernel_rfl); omega⟩
  obtain ⟨m, hm⟩ := h3
  have hf : (vkey v).formed Tryd.prog 34 = true := by
    unfold vkey Value.formed
    simp only [show Tryd.prog.underlying 34 = some (.struct _) from Tryd.underlying34, cellsVote, List.size_toArray, vtc_len v, beq_self_eq_true]
  have ht : Tryd.prog.keyType 34 = true := by kernel_rfl
  unfold keyOf
  simp only [show Tryd.prog.underlying 34 = some (.struct _) from Tryd.underlying34, ht, hf, Bool.and_self, if_true, hm]
  have : (vkey v).cells.toList = vtc v := rfl
  rw [this, keyVote k m]
  exact ⟨_, rfl⟩
/-- a map that has counted these votes -/
def MapV (w : World) (B : Nat) (L : List Vt) : Prop := ∃ (es : Array MapEntry) (clock : Nat), w.heap[B]? = some (.map es clock) ∧ MapKept.Stamped es clock ∧
  (∀ e ∈ es.toList, ∃ v : Vt, v.Ok ∧ e.key = vkey v ∧ v ∈ L ∧ ∃ c : Nat, 0 < c ∧ c ≤ L.length ∧ e.val = .int .i64 (c : Int)) ∧ ∀ v ∈ L, ∃ e ∈ es.toList, e.key = vkey v
theorem MapV.made (w : World) : MapV (w.alloc (.map #[] 0)) w.heap.size [] := ⟨#[], 0, (MapKept.heap_alloc w _).1, MapKept.stamped_empty 0, by simp, by simp⟩
theorem MapV.kept {w w' : World} {B : Nat} {L : List Vt} (h : MapV w B L) (hb : Below w.heap.size w w') : MapV w' B L := by
  obtain ⟨es, clock, h1, h2⟩ := h
  exact ⟨es, clock, (hb.block B (Array.getElem?_eq_some_iff.1 h1).1).trans h1, h2⟩
theorem MapV.lt {w : World} {B : Nat} {L : List Vt} (h : MapV w B L) : B < w.heap.size := by
  obtain ⟨es, clock, h1, _⟩ := h
  exact (Array.getElem?_eq_some_iff.1 h1).1
/-- what looking a vote up answers -/
theorem MapV.look {w : World} {B : Nat} {L : List Vt} (h : MapV w B L) {v : Vt} (k : v.Ok) : ∃ c : Nat, c ≤ L.length ∧ (0 < c ↔ v ∈ L) ∧ (Instr.lookup 31 (.map (some B)) (vkey v) false).run Tryd.prog w = .ok (.int .i64 (c : Int)) w := by
  obtain ⟨es, clock, hb, hs, he, hl⟩ := h
  obtain ⟨kl, hkey⟩ := keyOfVote k
  have hz : (zeroValue 3).run Tryd.prog w = .ok (.int .i64 0) w := by kernel_rfl
  have hk : ∀ e ∈ es.toList, ∃ l, keyOf Tryd.prog 34 e.key = some l := fun e hm => by
    obtain ⟨u, hu, hue, _⟩ := he e hm
    rw [hue]; exact keyOfVote hu
  rcases laidVote.find w hkey es.toList hk with ⟨h1, h2⟩ | ⟨j, e0, h1, h2, h3⟩
  · refine ⟨0, by omega, ⟨fun h => by omega, fun hm => ?_⟩, ?_⟩
    · obtain ⟨e, hm2, hk2⟩ := hl v hm
      exact absurd hk2 (h2 e hm2)
    · simp [Instr.lookup, run_underlying Tryd.underlying31, MapKept.run_getObj_map hb, laidVote.check w _ hkey, h1, hz, Result.andThen]
  · obtain ⟨u, hu, hue, hum, c, hc0, hcl, hcv⟩ := he e0 (List.mem_of_getElem? h2)
    have huv : u = v := vkey_inj (hue.symm.trans h3)
    subst huv
    refine ⟨c, hcl, ⟨fun _ => hum, fun _ => hc0⟩, ?_⟩
    simp [Instr.lookup, run_underlying Tryd.underlying31, MapKept.run_getObj_map hb, laidVote.check w _ hkey, h1, hcv, Result.andThen]
end Go.Proofs.YtffkjjpjfehcnaaDoor
