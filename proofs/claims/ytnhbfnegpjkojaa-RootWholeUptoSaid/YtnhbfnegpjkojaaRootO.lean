/- root.Code and the reference's HCode: the bytes lie in a block that the call made. -/
import Derived.Test.YtnhbfnegpjkojaaRootB
import Derived.Test.YtnhbfnegpjkojaaEncO
set_option linter.unusedSimpArgs false
set_option linter.unusedVariables false
namespace Go.Proofs.Ytnhbfnegpjkojaa
open Go.RowKit
theorem OwnOf.ltT {α : Type} {f : α → List Value} {size : Nat} {e : TypeId} {w : World} {B : Nat} {v : Value} {l : List α} (h : OwnOf f size e w B v l) : ∀ k, v.ownBlock = some k → k < w.heap.size := by
  intro k hk
  rcases h.2 with ⟨rfl, _⟩ | ⟨g, cap, cur, rfl, _, hg, _⟩
  · simp [Value.ownBlock] at hk
  · simp only [Value.ownBlock, Option.some.injEq] at hk
    subst hk
    exact (Array.getElem?_eq_some_iff.1 hg).1
def CodeOwn (ok : Bool) (B : List UInt8) (w : World) (e : Ending) (w' : World) : Prop :=
  ∃ v, e = .returned (.tuple #[v, .int .i64 (if ok = true then 0 else 1)]) ∧ Bytes w' v (if ok = true then B else []) ∧ (∀ k, v.ownBlock = some k → w.heap.size ≤ k ∧ k < w'.heap.size) ∧ Below w.heap.size w w' ∧ (if ok = true then B else []).length ≤ 1000000000
set_option maxHeartbeats 1000000 in
set_option maxRecDepth 100000 in
theorem code_own (kd : Int) (pa va ka : Option Addr) (pn pc vn vc kn kc : Nat) (p v : List UInt8) (ps : List (Value × List UInt8)) (hpn : p.length = pn) (hvn : v.length = vn) (hkn : ps.length = kn) (w : World) (hp : Bytes w (.slice pa pn pc) p) (hv : Bytes w (.slice va vn vc) v) (hk : Texts w (.slice ka kn kc) ps) (hP : pn ≤ 4194304) (hV : vn ≤ 1048576) (hK : kn ≤ 1048576) (hKs : ∀ q ∈ ps, q.2.length ≤ 1048576) :
    Calls Try.prog 115 #[.agg #[.int .i64 kd, .slice pa pn pc, .slice va vn vc, .slice ka kn kc]] w (CodeOwn (shOk kd p v (ps.map (·.2))) (shB kd p v (ps.map (·.2))) w) := by
  have hs1 := Blk.new w 190 [.int .i64 kd, .slice pa pn pc, .slice va vn vc, .slice ka kn kc]
  have hbel1 : Below w.heap.size w (w.alloc (.cells #[.int .i64 kd, .slice pa pn pc, .slice va vn vc, .slice ka kn kc] 190)) := (Below.refl _ _).alloc (Nat.le_refl _) _
  have ci := fun x hb => item_any kd pa va ka pn pc vn vc kn kc p v ps hpn hvn hkn x (hp.below hb) (hv.below hb) (hk.below hb) hP hV hK hKs
  obtain ⟨ok, hok⟩ : ∃ ok, ok = shOk kd p v (ps.map (·.2)) := ⟨_, rfl⟩
  obtain ⟨B, hB⟩ : ∃ B, B = shB kd p v (ps.map (·.2)) := ⟨_, rfl⟩
  simp only [← hok, ← hB] at ci
  rw [← hok, ← hB]
  have Ci := Lib.hid ci
  clear ci hok hB hpn hvn hkn hKs hp hv hk
  cases ok with
  | false =>
    go_enter Try.func115, Try.ntmps115
    go_wp2_with (first
      | (refine wpList_loadA (o := ⟨some 7, _, _, _, _, _⟩) (by rfl) 190 (.tmp 1) (by rfl) w.heap.size (by rfl) aggShape hs1 (by rfl) ?_)
      | (go_at_call 163; refine (Ci.out _ hbel1).mono ?_; rintro e w3 ⟨il, ta, tn, tc, t, ka', kn', kc', ks, rfl, hI, b3⟩; have hbel3 := Below.then hbel1 b3; have hbel4 := hbel3.alloc hbel3.size (.cells #[.bool il, .slice ta tn tc, .slice ka' kn' kc'] 156)))
    go_ret2
    exact ⟨_, rfl, RowOf.nil b8 1 _, fun q hq => by simp [Value.ownBlock] at hq, hbel4, by simp⟩
  | true =>
    go_enter Try.func115, Try.ntmps115
    go_wp2_with (first
      | (refine wpList_loadA (o := ⟨some 7, _, _, _, _, _⟩) (by rfl) 190 (.tmp 1) (by rfl) w.heap.size (by rfl) aggShape hs1 (by rfl) ?_)
      | (go_at_call 163; refine (Ci.out _ hbel1).mono ?_; rintro e w3 ⟨il, ta, tn, tc, t, ka', kn', kc', ks, rfl, hI, b3⟩; have hbel3 := Below.then hbel1 b3; have hbel4 := hbel3.alloc hbel3.size (.cells #[.bool il, .slice ta tn tc, .slice ka' kn' kc'] 156); obtain ⟨hI1, hI2, hI3⟩ := hI rfl; have hI4 := hI1.kept ((Below.refl w3.heap.size w3).alloc (Nat.le_refl _) (.cells #[.bool il, .slice ta tn tc, .slice ka' kn' kc'] 156)); have HI2 := Lib.hid hI2; have HL := Lib.hid (show B.length ≤ 1000000000 by rw [← hI2]; have := len_encI 100000000 _ hI3 (by omega); omega); clear hI hI1 hI2)
      | (go_at_call 88; refine (encode_any _ (.mk il (.slice ta tn tc) t (.slice ka' kn' kc') ks) _ hI3 (by omega) hI4).mono ?_; rintro e w5 ⟨v5, rfl, o5, b5⟩; have hbel5 := Below.then hbel4 b5))
    go_ret2
    exact ⟨_, rfl, by rw [← HI2.out]; exact o5.row, fun q hq => ⟨Nat.le_trans (Below.size hbel4) (OwnOf.lt o5 q hq), OwnOf.ltT o5 q hq⟩, hbel5, HL.out⟩
set_option maxHeartbeats 1000000 in
set_option maxRecDepth 100000 in
theorem hcode_own (kd : Int) (pa va ka : Option Addr) (pn pc vn vc kn kc : Nat) (p v : List UInt8) (ps : List (Value × List UInt8)) (hpn : p.length = pn) (hvn : v.length = vn) (hkn : ps.length = kn) (w : World) (hp : Bytes w (.slice pa pn pc) p) (hv : Bytes w (.slice va vn vc) v) (hk : Texts w (.slice ka kn kc) ps) (hP : pn ≤ 4194304) (hV : vn ≤ 1048576) (hK : kn ≤ 1048576) (hKs : ∀ q ∈ ps, q.2.length ≤ 1048576) :
    Calls Try.prog 118 #[.agg #[.int .i64 kd, .slice pa pn pc, .slice va vn vc, .slice ka kn kc]] w (CodeOwn (shOk kd p v (ps.map (·.2))) (shB kd p v (ps.map (·.2))) w) := by
  have hs1 := Blk.new w 190 [.int .i64 kd, .slice pa pn pc, .slice va vn vc, .slice ka kn kc]
  have hbel1 : Below w.heap.size w (w.alloc (.cells #[.int .i64 kd, .slice pa pn pc, .slice va vn vc, .slice ka kn kc] 190)) := (Below.refl _ _).alloc (Nat.le_refl _) _
  have ci := fun x hb => sitem_any kd pa va ka pn pc vn vc kn kc p v ps hpn hvn hkn x (hp.below hb) (hv.below hb) (hk.below hb) hP hV hK hKs
  obtain ⟨ok, hok⟩ : ∃ ok, ok = shOk kd p v (ps.map (·.2)) := ⟨_, rfl⟩
  obtain ⟨B, hB⟩ : ∃ B, B = shB kd p v (ps.map (·.2)) := ⟨_, rfl⟩
  simp only [← hok, ← hB] at ci
  rw [← hok, ← hB]
  have Ci := Lib.hid ci
  clear ci hok hB hpn hvn hkn hKs hp hv hk
  cases ok with
  | false =>
    go_enter Try.func118, Try.ntmps118
    go_wp2_with (first
      | (refine wpList_loadA (o := ⟨some 7, _, _, _, _, _⟩) (by rfl) 190 (.tmp 1) (by rfl) w.heap.size (by rfl) aggShape hs1 (by rfl) ?_)
      | (go_at_call 167; refine (Ci.out _ hbel1).mono ?_; rintro e w3 ⟨il, ta, tn, tc, t, ka', kn', kc', ks, rfl, hI, b3⟩; have hbel3 := Below.then hbel1 b3; have hbel4 := hbel3.alloc hbel3.size (.cells #[.bool il, .slice ta tn tc, .slice ka' kn' kc'] 156)))
    go_ret2
    exact ⟨_, rfl, RowOf.nil b8 1 _, fun q hq => by simp [Value.ownBlock] at hq, hbel4, by simp⟩
  | true =>
    go_enter Try.func118, Try.ntmps118
    go_wp2_with (first
      | (refine wpList_loadA (o := ⟨some 7, _, _, _, _, _⟩) (by rfl) 190 (.tmp 1) (by rfl) w.heap.size (by rfl) aggShape hs1 (by rfl) ?_)
      | (go_at_call 167; refine (Ci.out _ hbel1).mono ?_; rintro e w3 ⟨il, ta, tn, tc, t, ka', kn', kc', ks, rfl, hI, b3⟩; have hbel3 := Below.then hbel1 b3; have hbel4 := hbel3.alloc hbel3.size (.cells #[.bool il, .slice ta tn tc, .slice ka' kn' kc'] 156); obtain ⟨hI1, hI2, hI3⟩ := hI rfl; have hI4 := hI1.kept ((Below.refl w3.heap.size w3).alloc (Nat.le_refl _) (.cells #[.bool il, .slice ta tn tc, .slice ka' kn' kc'] 156)); have HI2 := Lib.hid hI2; have HL := Lib.hid (show B.length ≤ 1000000000 by rw [← hI2]; have := len_encI 100000000 _ hI3 (by omega); omega); clear hI hI1 hI2)
      | (go_at_call 98; refine (pencode_own _ (.mk il (.slice ta tn tc) t (.slice ka' kn' kc') ks) _ hI3 (by omega) hI4).mono ?_; rintro e w5 ⟨v5, rfl, o5, f5, b5⟩; have hbel5 := Below.then hbel4 b5))
    go_ret2
    exact ⟨_, rfl, by rw [← HI2.out]; exact o5, fun q hq => ⟨Nat.le_trans (Below.size hbel4) (f5 q hq).1, (f5 q hq).2⟩, hbel5, HL.out⟩
end Go.Proofs.Ytnhbfnegpjkojaa
