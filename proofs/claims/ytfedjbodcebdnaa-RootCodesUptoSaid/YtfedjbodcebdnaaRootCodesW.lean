/- The walk of the law RootCodes; shapes as data. -/
import Derived.Test.YtfedjbodcebdnaaRoot12
set_option linter.unusedSimpArgs false
set_option linter.unusedVariables false
namespace Go.Proofs.Ytfedjbodcebdnaa
open Go.RowKit
structure Shp where
  kd : Int
  pv : Value
  p : List UInt8
  vv : Value
  v : List UInt8
  kv : Value
  ps : List (Value × List UInt8)
def shcells (s : Shp) : List Value := [.int .i64 s.kd, s.pv, s.vv, s.kv]
structure IsShp (w : World) (s : Shp) : Prop where
  hp : Bytes w s.pv s.p
  hv : Bytes w s.vv s.v
  hk : Texts w s.kv s.ps
structure ShLe (s : Shp) (N : Nat) : Prop where
  hp : s.p.length ≤ N
  hv : s.v.length ≤ N
  hk : s.ps.length ≤ N
  hks : ∀ q ∈ s.ps, q.2.length ≤ N
theorem ShLe.le {s : Shp} {N M : Nat} (h : ShLe s N) (hm : N ≤ M) : ShLe s M := ⟨Nat.le_trans h.hp hm, Nat.le_trans h.hv hm, Nat.le_trans h.hk hm, fun q hq => Nat.le_trans (h.hks q hq) hm⟩
set_option maxHeartbeats 1000000 in
set_option maxRecDepth 100000 in
theorem rootCodes_walk (s : Shp) (w : World) (h : IsShp w s) (hN : ShLe s 1048576) :
    Calls Try.prog 12 #[.agg (shcells s).toArray] w fun e w' => e = .returned (.bool true) ∧ Below w.heap.size w w' := by
  obtain ⟨kd, pv, p, vv, v, kv, ps⟩ := s
  obtain ⟨hp, hv, hk⟩ := h
  obtain ⟨np, nv, nk, nks⟩ := hN
  simp only at hp hv hk np nv nk nks
  obtain ⟨pa, pc, rfl, _, _⟩ := RowOf.form hp
  obtain ⟨va, vc, rfl, _, _⟩ := RowOf.form hv
  obtain ⟨ka, kc, rfl, _, _⟩ := RowOf.form hk.1
  have c1 := fun x (hb : Below w.heap.size w x) => code_any kd pa va ka p.length pc v.length vc ps.length kc p v ps rfl rfl rfl x (hp.below hb) (hv.below hb) (hk.below hb) np nv nk nks
  have c2 := fun x (hb : Below w.heap.size w x) => hcode_any kd pa va ka p.length pc v.length vc ps.length kc p v ps rfl rfl rfl x (hp.below hb) (hv.below hb) (hk.below hb) np nv nk nks
  change Calls Try.prog 12 #[.agg #[.int .i64 kd, .slice pa p.length pc, .slice va v.length vc, .slice ka ps.length kc]] w _
  obtain ⟨pn, hpn⟩ : ∃ n, n = p.length := ⟨_, rfl⟩
  obtain ⟨vn, hvn⟩ : ∃ n, n = v.length := ⟨_, rfl⟩
  obtain ⟨kn, hkn⟩ : ∃ n, n = ps.length := ⟨_, rfl⟩
  rw [← hpn, ← hvn, ← hkn] at c1 c2 ⊢
  obtain ⟨ok, hok⟩ : ∃ ok, ok = shOk kd p v (ps.map (·.2)) := ⟨_, rfl⟩
  obtain ⟨B, hB⟩ : ∃ B, B = shB kd p v (ps.map (·.2)) := ⟨_, rfl⟩
  simp only [← hok, ← hB] at c1 c2
  unfold CodePost at c1 c2
  have hs1 := Blk.new w 70 [.int .i64 kd, .slice pa pn pc, .slice va vn vc, .slice ka kn kc]
  have hbel1 : Below w.heap.size w (w.alloc (.cells #[.int .i64 kd, .slice pa pn pc, .slice va vn vc, .slice ka kn kc] 70)) := (Below.refl _ _).alloc (Nat.le_refl _) _
  clear hok hB hpn hvn hkn np nv nk nks hp hv hk
  cases ok
  all_goals
    simp only [if_true, Bool.false_eq_true, if_false] at c1 c2
    have C1 := Lib.hid c1
    have C2 := Lib.hid c2
    clear c1 c2
    go_enter Try.func12, Try.ntmps12
    go_wp2_with (first
      | (refine wpList_loadA (o := ⟨some 8, _, _, _, _, _⟩) (by rfl) 70 (.tmp 1) (by rfl) w.heap.size (by rfl) aggShape hs1 (by rfl) ?_)
      | (go_at_call 45; refine (C1.out _ hbel1).mono ?_; rintro e w2 ⟨v1, rfl, o1, b1⟩; have hs2 := hs1.kept b1; have hbel2 := Below.then hbel1 b1)
      | (refine wpList_loadA (o := ⟨some 13, _, _, _, _, _⟩) (by rfl) 70 (.tmp 1) (by rfl) w.heap.size (by rfl) aggShape hs2 (by rfl) ?_)
      | (go_at_call 46; refine (C2.out _ hbel2).mono ?_; rintro e w3 ⟨v2, rfl, o2, b2⟩; have hbel3 := Below.then hbel2 b2; have r1 := run_str (P := Try.prog) (src := 34) (dst := 9) elU8.ht (by kernel_rfl) (by kernel_rfl) (RowOf.kept o1 b2); have r2 := run_str (P := Try.prog) (src := 34) (dst := 9) elU8.ht (by kernel_rfl) (by kernel_rfl) o2))
    go_ret
    exact ⟨rfl, hbel3⟩
end Go.Proofs.Ytfedjbodcebdnaa
