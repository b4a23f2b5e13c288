/- SeatsVotes: for every seats, masks, sums and votes the call returns true and the arguments read afterwards as before, where the library's table holds what the program's text lays; the card ties that. The walk and its contracts stand in the texts that this one imports. -/
import Derived.Test.YtffkjjpjfehcnaaDoorSeatsVotesW
import Derived.Test.YtffkjjpjfehcnaaDoorOpenA
import Derived.Test.YtffkjjpjfehcnaaDoorOpenU
import Derived.Test.YtffkjjpjfehcnaaDoorOpenV
import Derived.Test.YtffkjjpjfehcnaaDoorTie
import Derived.Test.YtffkjjpjfehcnaaDoorCards
import Derived.ChangeSame
import Derived.ChangeVars
import Derived.JoinedOf
import Derived.LaidLaws
import Derived.LaidHandle
import Derived.Lib.LaidU8
import Derived.Stop.Joined
import Derived.SevenTiedAt
set_option linter.unusedSimpArgs false
set_option linter.unusedVariables false
namespace Go.Proofs.YtffkjjpjfehcnaaDoor.seatsVotesP
open Go.ChangeShapes Go.WideShapes Go.ChangeAt Go.RowKit
theorem own : ownKnob Tryd.prog.godebug = none := by kernel_rfl
theorem laidOut : laidOutB Tryd.prog = true := by kernel_rfl
def litCells : DataW Unit → List Value
  | .agg l => l.filterMap fun
    | .lit (.int k z) => some (.int k z)
    | _ => none
  | _ => []
/-- the settled world, the listed variable holding what its initialiser lays -/
noncomputable def laidWorld (os : Os) : World :=
  let w0 := World.holding Tryd.prog os ⟨#[], #[], []⟩
  let put (h : Array Obj) (g : Nat) (cs : Array Value) : Array Obj := h.modify g fun
    | .cells _ t frozen => .cells cs t frozen
    | o => o
  { w0 with heap := put w0.heap 0 (litCells Rows.laid_math_bits_deBruijn64tab).toArray }
theorem laid_met (os : Os) (args : Array Value) : laidMetH Tryd.prog Rows.seatsVotesRow.laid ((laidWorld os).forCall (fun _ _ => 0) ⟨#[], args, []⟩).memory :=
  laidMetH_of_parts (laidMet_of_run' 12 (by kernel_rfl) (by kernel_rfl)) (by kernel_rfl)
def dbTab : List Int := Lib.deBruijn64tab.map Int.ofNat
theorem tab_of_reads {W : World} (h : Lib.VarReads Tryd.prog W "math/bits.deBruijn64tab" (Lib.tabData .u8 dbTab)) : Lib.TabIs Tryd.prog W "math/bits.deBruijn64tab" .u8 dbTab := by
  obtain ⟨g', t', cs, fuel, p, hg', ht', hvar, hd⟩ := h
  have hg : Tryd.prog.globalNamed "math/bits.deBruijn64tab" = some 0 := by kernel_rfl
  obtain rfl := Option.some.inj (hg.symm.trans hg')
  have hty : (Tryd.prog.globals[0]?).map (·.type) = some 38 := by kernel_rfl
  obtain rfl := Option.some.inj (hty.symm.trans ht')
  unfold Lib.TabIs
  rw [hvar, ← Lib.cells_of_tab (n := 64) Tryd.underlying38 Tryd.underlying5 (by kernel_rfl) (by kernel_rfl) hd]
theorem tab_of_laid {W : World} (h : laidMetH Tryd.prog Rows.seatsVotesRow.laid W) : TzW W := by
  have h' : laidMet Tryd.prog Rows.seatsVotesRow.laid W := h
  have he : (Rows.laid_math_bits_deBruijn64tab : DataW Unit) = Lib.tabData .u8 dbTab := by kernel_rfl
  have := Lib.laidMet.reads h' (n := "math/bits.deBruijn64tab") (d := Rows.laid_math_bits_deBruijn64tab) (by simp [Rows.seatsVotesRow])
  rw [he] at this
  have hT := tab_of_reads this
  intro j hj
  have hg : Tryd.prog.globalNamed "math/bits.deBruijn64tab" = some (Tryd.laysTz_ren.g 1) := by kernel_rfl
  have := hT.cell hg j (by unfold dbTab; rw [List.length_map]; exact hj)
  rw [this]
  congr 2
  unfold dbTab
  simp [List.getD, hj]
set_option maxRecDepth 100000 in
theorem lifted (os : Os) (started : os.Started) (H : Type) (enc : TypeId × Value → H) :
    ReturnsInHanded {} Tryd.checked os 3 .any (fun w args => (Rows.seatsVotesSpec.pre enc Tryd.prog Tryd.f3 [] false w args ∧ laidMetH Tryd.prog Rows.seatsVotesRow.laid w) ∧ sizedMet enc Tryd.prog Tryd.f3 (OpenSpec.ofChange Rows.seatsVotesSpec) false w args)
      (Rows.seatsVotesSpec.post enc Tryd.prog Tryd.f3 false true false false) := by
  refine returnsInHanded_of_change_and (C := Tryd.checked) (X := fun w _ => laidMetH Tryd.prog Rows.seatsVotesRow.laid w) (fun _ _ _ hh h => h.of_heap hh) own started (by kernel_rfl) Tryd.func3
    (ChangeSpec.witness_shaped (enc := enc) (C := Tryd.checked) (os := os) (X := fun w _ => laidMetH Tryd.prog Rows.seatsVotesRow.laid w) false (laidWorld os) #[.slice none 0 0, .int .u64 0, .agg (List.replicate 32 (Value.int .u8 0)).toArray, .slice none 0 0] 8 rfl (World.shaped_of_RefB (by kernel_rfl) (by kernel_rfl)) (by kernel_rfl) (by kernel_rfl) (by kernel_rfl) (laid_met os _)) ?_
  intro W base args ds gs before hval0 hW _ hsz hL _
  have hval : ∀ (j : Nat) t v, Tryd.f3.params[j]? = some t → args[j]? = some v → Value.okWide Tryd.prog W .any base t v := hval0
  have hW' := hW
  obtain ⟨p, q, hA0, hV, rfl, hfz, hnd⟩ := hW
  have hA : DataW.TrodAll enc Tryd.prog W 0 (fun _ => true) true Tryd.f3.params.toList args.toList ds p := hA0
  have hsz' : (DataW.weightsEach Tryd.prog (Tryd.f3.params.toList ++ []) (ds ++ gs)).all (· ≤ reachBytes) = true := hsz
  rw [Tryd.params3] at hA hval hsz'
  obtain ⟨v0, vs0, d0, ds0, p0, q0, hargs0, rfl, rfl, t0, r0⟩ := trodAll_cons hA
  obtain ⟨v1, vs1, d1, ds1, p1, q1, hargs1, rfl, rfl, t1, r1⟩ := trodAll_cons r0
  obtain ⟨v2, vs2, d2, ds2, p2, q2, hargs2, rfl, rfl, t2, r2⟩ := trodAll_cons r1
  obtain ⟨v3, vs3, d3, ds3, p3, q3, hargs3, rfl, rfl, t3, r3⟩ := trodAll_cons r2
  obtain ⟨rfl, rfl, rfl⟩ := trodAll_nil r3
  obtain rfl : args = #[v0, v1, v2, v3] := by cases args; simp_all
  obtain ⟨rfl, rfl⟩ := trodVars_none hV
  have k0 := t0
  have k1 := t1
  have k2 := t2
  have k3 := t3
  have lt0 : ∀ x ∈ p0, x.block < W.heap.size := by obtain ⟨m, hm⟩ := k0; exact DataW.trod_lt m _ _ _ hm
  have lt1 : ∀ x ∈ p1, x.block < W.heap.size := by obtain ⟨m, hm⟩ := k1; exact DataW.trod_lt m _ _ _ hm
  have lt2 : ∀ x ∈ p2, x.block < W.heap.size := by obtain ⟨m, hm⟩ := k2; exact DataW.trod_lt m _ _ _ hm
  have lt3 : ∀ x ∈ p3, x.block < W.heap.size := by obtain ⟨m, hm⟩ := k3; exact DataW.trod_lt m _ _ _ hm
  obtain ⟨l, hr0, hl0, z0⟩ := open_u64s Tryd.underlying22 Tryd.underlying23 (by kernel_rfl) (hval 0 22 v0 rfl rfl) t0
  obtain ⟨x1, rfl, dd1, _, w1⟩ := open_int Tryd.underlying23 (hval 1 23 v1 rfl rfl) t1
  obtain ⟨xs, rfl, hxl, hxw⟩ := open_arr Tryd.underlying25 Tryd.underlying5 (by kernel_rfl) (by kernel_rfl) (hval 2 25 v2 rfl rfl) t2
  obtain ⟨V, hr3, hV3, z3⟩ := open_votes (hval 3 26 v3 rfl rfl) t3
  have s0 := Sz.reach hsz' (j := 0) z0 rfl rfl Tryd.underlying22 8 (by kernel_rfl)
  have s3 := Sz.reach hsz' (j := 3) z3 rfl rfl Tryd.underlying26 40 (by kernel_rfl)
  have hb1 : 0 ≤ x1 ∧ x1 ≤ 18446744073709551615 := by simpa [Lit.wf, IntKind.min, IntKind.max, IntKind.signed, IntKind.bits] using w1
  obtain ⟨s, hs, he⟩ := wf_bytes xs hxw
  have hg := tab_of_laid hL
  clear hA0
  obtain ⟨n, hn⟩ : ∃ n : Nat, x1 = (n : Int) := ⟨x1.toNat, by omega⟩
  subst hn
  rw [he] at k2 hW' ⊢
  obtain ⟨a0, c0, rfl, hf0⟩ := hr0.form
  obtain ⟨a3, c3, rfl, hf3⟩ := hr3.form
  refine (seatsVotes_walk a0 c0 l (by omega) hl0 n (by omega) s (by omega) a3 c3 V (by omega) hV3 W hr0 hr3 hg).mono fun e W' ⟨he, bel⟩ => ?_
  subst he
  exact ⟨_, rfl, _, _, _, [], _, [], hW', trodAll_mk1 (shut_bool Tryd.underlying4 _), (trodAll_cons_mk (Below.trod laidOut (by kernel_rfl) (of_decide_eq_true (by kernel_rfl)) k0 bel lt0) (trodAll_cons_mk (Below.trod laidOut (by kernel_rfl) (of_decide_eq_true (by kernel_rfl)) k1 bel lt1) (trodAll_cons_mk (Below.trod laidOut (by kernel_rfl) (of_decide_eq_true (by kernel_rfl)) k2 bel lt2) (trodAll_cons_mk (Below.trod laidOut (by kernel_rfl) (of_decide_eq_true (by kernel_rfl)) k3 bel lt3) trodAll_mk0)))), rfl, bel.frame _, fun h => by cases h⟩
theorem row_holds : Rows.SeatsVotesSaid :=
  OpenClaim.holds_of_wide 3 Tryd.f3 rfl rfl rfl rfl rfl rfl rfl ⟨rfl, rfl, rfl, rfl, rfl⟩ rfl rfl rfl rfl rfl (by kernel_rfl) Tryd.func3 (by kernel_rfl)
    (of_decide_eq_true (by kernel_rfl)) (by unfold Func.isWrapper; first | (rw [if_pos (by decide +kernel)]; kernel_rfl) | (rw [if_neg (by decide +kernel)]; exact ⟨rfl, rfl⟩))
    (fun os started H enc _ => lifted os started H enc)
/-- The given statement. -/
theorem proved : Rows.SeatsVotesCardSaid :=
  Claim7.holds_tied_plain_at .later [] [.data] true (true, "5d325730fc08ef2be554b3d16d266a4fb75a04c668d9c77357a53f33e27e182a") false
    row_holds (fun _ h => by cases h) (by kernel_rfl) (fun _ h => by cases h) seatsVotes_row_tie rfl ⟨rfl, rfl⟩ (by kernel_rfl) rfl
    (fun f fn hf hfn => by
      obtain rfl : f = 3 := Option.some.inj ((show Tryd.prog.funcNamed "lampbearer/lampbearerlaw.SeatsVotes" = some 3 by kernel_rfl).symm.trans hf) |>.symm
      obtain rfl : fn = Tryd.f3 := (Option.some.inj (Tryd.func3.symm.trans hfn)).symm
      exact ⟨by kernel_rfl, fun j t ht => by
        rw [Tryd.params3] at ht
        rcases j with _ | _ | _ | _ | j
        · obtain rfl : t = 22 := by simpa using ht.symm
          exact (show Tryd.prog.wantsStandIn 22 = false by kernel_rfl)
        · obtain rfl : t = 23 := by simpa using ht.symm
          exact (show Tryd.prog.wantsStandIn 23 = false by kernel_rfl)
        · obtain rfl : t = 25 := by simpa using ht.symm
          exact (show Tryd.prog.wantsStandIn 25 = false by kernel_rfl)
        · obtain rfl : t = 26 := by simpa using ht.symm
          exact (show Tryd.prog.wantsStandIn 26 = false by kernel_rfl)
        · simp at ht⟩)
    (by kernel_rfl)
#print axioms proved
end Go.Proofs.YtffkjjpjfehcnaaDoor.seatsVotesP
