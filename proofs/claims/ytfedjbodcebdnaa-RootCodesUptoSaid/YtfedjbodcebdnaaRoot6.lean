/- root.Code. -/
import Derived.Test.YtfedjbodcebdnaaRoot5
set_option linter.unusedSimpArgs false
set_option linter.unusedVariables false
namespace Go.Proofs.Ytfedjbodcebdnaa
open Go.RowKit
def CodePost (ok : Bool) (B : List UInt8) (w : World) (e : Ending) (w' : World) : Prop :=
  ∃ v, e = .returned (.tuple #[v, .int .i64 (if ok = true then 0 else 1)]) ∧ Bytes w' v (if ok = true then B else []) ∧ Below w.heap.size w w'
set_option maxHeartbeats 1000000 in
set_option maxRecDepth 100000 in
theorem code_any (kd : Int) (pa va ka : Option Addr) (pn pc vn vc kn kc : Nat) (p v : List UInt8) (ps : List (Value × List UInt8)) (hpn : p.length = pn) (hvn : v.length = vn) (hkn : ps.length = kn) (w : World) (hp : Bytes w (.slice pa pn pc) p) (hv : Bytes w (.slice va vn vc) v) (hk : Texts w (.slice ka kn kc) ps) (hP : pn ≤ 1048576) (hV : vn ≤ 1048576) (hK : kn ≤ 1048576) (hKs : ∀ q ∈ ps, q.2.length ≤ 1048576) :
    Calls Try.prog 45 #[.agg #[.int .i64 kd, .slice pa pn pc, .slice va vn vc, .slice ka kn kc]] w (CodePost (shOk kd p v (ps.map (·.2))) (shB kd p v (ps.map (·.2))) w) := by
  have hs1 := Blk.new w 70 [.int .i64 kd, .slice pa pn pc, .slice va vn vc, .slice ka kn kc]
  have hbel1 : Below w.heap.size w (w.alloc (.cells #[.int .i64 kd, .slice pa pn pc, .slice va vn vc, .slice ka kn kc] 70)) := (Below.refl _ _).alloc (Nat.le_refl _) _
  have ci := fun x hb => item_any kd pa va ka pn pc vn vc kn kc p v ps hpn hvn hkn x (hp.below hb) (hv.below hb) (hk.below hb) hP hV hK hKs
  obtain ⟨ok, hok⟩ : ∃ ok, ok = shOk kd p v (ps.map (·.2)) := ⟨_, rfl⟩
  obtain ⟨B, hB⟩ : ∃ B, B = shB kd p v (ps.map (·.2)) := ⟨_, rfl⟩
  simp only [← hok, ← hB] at ci
  rw [← hok, ← hB]
  have Ci := Lib.hid ci
  clear ci hok hB hpn hvn hkn hKs hp hv hk
  cases ok with
  | false =>
    go_enter Try.func45, Try.ntmps45
    go_wp2_with (first
      | (refine wpList_loadA (o := ⟨some 7, _, _, _, _, _⟩) (by rfl) 70 (.tmp 1) (by rfl) w.heap.size (by rfl) aggShape hs1 (by rfl) ?_)
      | (go_at_call 86; refine (Ci.out _ hbel1).mono ?_; rintro e w3 ⟨il, ta, tn, tc, t, ka', kn', kc', ks, rfl, hI, b3⟩; have hbel3 := Below.then hbel1 b3; have hbel4 := hbel3.alloc hbel3.size (.cells #[.bool il, .slice ta tn tc, .slice ka' kn' kc'] 37)))
    go_ret2
    exact ⟨_, rfl, RowOf.nil b8 1 _, hbel4⟩
  | true =>
    go_enter Try.func45, Try.ntmps45
    go_wp2_with (first
      | (refine wpList_loadA (o := ⟨some 7, _, _, _, _, _⟩) (by rfl) 70 (.tmp 1) (by rfl) w.heap.size (by rfl) aggShape hs1 (by rfl) ?_)
      | (go_at_call 86; refine (Ci.out _ hbel1).mono ?_; rintro e w3 ⟨il, ta, tn, tc, t, ka', kn', kc', ks, rfl, hI, b3⟩; have hbel3 := Below.then hbel1 b3; have hbel4 := hbel3.alloc hbel3.size (.cells #[.bool il, .slice ta tn tc, .slice ka' kn' kc'] 37); obtain ⟨hI1, hI2, hI3⟩ := hI rfl; have hI4 := hI1.kept ((Below.refl w3.heap.size w3).alloc (Nat.le_refl _) (.cells #[.bool il, .slice ta tn tc, .slice ka' kn' kc'] 37)); have HI2 := Lib.hid hI2; clear hI hI1 hI2)
      | (go_at_call 18; refine (encode_any _ (.mk il (.slice ta tn tc) t (.slice ka' kn' kc') ks) _ hI3 (by omega) hI4).mono ?_; rintro e w5 ⟨v5, rfl, o5, b5⟩; have hbel5 := Below.then hbel4 b5))
    go_ret2
    exact ⟨_, rfl, by rw [← HI2.out]; exact o5.row, hbel5⟩
end Go.Proofs.Ytfedjbodcebdnaa
