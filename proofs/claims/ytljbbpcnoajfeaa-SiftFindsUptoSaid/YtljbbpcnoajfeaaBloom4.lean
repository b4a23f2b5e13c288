/- The reference's JOf. -/
import Derived.Test.YtljbbpcnoajfeaaBloom3
import Derived.Test.YtljbbpcnoajfeaaBase
import Derived.Deep.Cut
set_option linter.unusedSimpArgs false
set_option linter.unusedVariables false
namespace Go.Proofs.Ytljbbpcnoajfeaa
open Go.RowKit
theorem trip3 (l : List UInt8) : ∃ t0 t1 t2, trip l = [t0, t1, t2] := by
  have h := trip_len l
  match trip l, h with
  | [a, b, c], _ => exact ⟨a, b, c, rfl⟩
theorem scs_trip {l : List UInt8} {t0 t1 t2 : UInt8} (h : trip l = [t0, t1, t2]) : (scs l)[0]? = some (.int .u8 (t0.toNat : Int)) ∧ (scs l)[1]? = some (.int .u8 (t1.toNat : Int)) ∧ (scs l)[2]? = some (.int .u8 (t2.toNat : Int)) := by
  have e : (scs l).take 3 = (trip l).map u8v := by unfold trip scs; rw [List.map_take]
  rw [h] at e
  refine ⟨?_, ?_, ?_⟩
  · rw [← List.getElem?_take_of_lt (show 0 < 3 by omega), e]; rfl
  · rw [← List.getElem?_take_of_lt (show 1 < 3 by omega), e]; rfl
  · rw [← List.getElem?_take_of_lt (show 2 < 3 by omega), e]; rfl
theorem hasT_of {l : List UInt8} {t0 t1 t2 : UInt8} (h : trip l = [t0, t1, t2]) (m : Nat) : hasT l m = (((t0.toNat : Int) == (m : Int)) || ((t1.toNat : Int) == (m : Int)) || ((t2.toNat : Int) == (m : Int))) := by
  unfold hasT
  rw [h]
  simp only [List.any_cons, List.any_nil, Bool.or_false]
  have e : ∀ a : Nat, (a == m) = ((a : Int) == (m : Int)) := fun a => by
    rw [Bool.eq_iff_iff]; simp only [beq_iff_eq]; omega
  rw [e, e, e, Bool.or_assoc]
/-- one bit more by a sum -/
structure BitAdd (F : List UInt8) (n q r y : Nat) (x z : UInt8) : Prop extends BitStep F n q r y x z where
  hadd : IntKind.u8.wrap ((x.toNat : Int) + (y : Int)) = (z.toNat : Int)
theorem bitAdd (F : List UInt8) (hl : F.length = 32) (n : Nat) (hn : n < 256) (h0 : fb F n = false) : ∃ q r y x z, BitAdd F n q r y x z := by
  obtain ⟨q, r, y, x, z, hb⟩ := bitStep F hl n hn
  refine ⟨q, r, y, x, z, hb, ?_⟩
  have h1 := hb.hx
  unfold fb at h0
  rw [← hb.hnq, h1, ← hb.hnr, Option.getD_some] at h0
  have h2 := add_or x r hb.hr h0
  have h3 := or_lt x r hb.hr
  rw [hb.hy, hb.hz, ← h2]
  rw [← h2] at h3
  rw [show (x.toNat : Int) + ((2 ^ r : Nat) : Int) = ((x.toNat + 2 ^ r : Nat) : Int) from by simp]
  generalize x.toNat + 2 ^ r = s at *
  exact IntWalk.u8_in _ (by omega)
end Go.Proofs.Ytljbbpcnoajfeaa
