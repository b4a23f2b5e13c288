/- The reference's routePut: its closures, slices.IndexFunc, slices.Clone at routes. -/
import Derived.Test.YtcgpjceopnfahaaRtsA
import Derived.Test.YtcgpjceopnfahaaStr
set_option linter.unusedSimpArgs false
set_option linter.unusedVariables false
namespace Go.Proofs.Ytcgpjceopnfahaa
open Go.RowKit
theorem enters_rc (a b : Value) (w : World) : (callFunc 52 #[a, b]).run Try.prog w = .ok (.enter 52 #[a, b]) w := by kernel_rfl
set_option maxRecDepth 100000 in
/-- 'r.path == p' -/
theorem rc_any (r : Rt) (p : List UInt8) (PB : Nat) (w : World) (hp : w.cell? ⟨PB, 0, none⟩ = some (.string ⟨p.toArray⟩)) :
    Calls Try.prog 52 #[.agg (rcells r).toArray, .pointer (some ⟨PB, 0, none⟩)] w fun e w' => e = .returned (.bool (decide (r.1 = p))) ∧ Below w.heap.size w w' := by
  obtain ⟨r1, r2⟩ := r
  have hlt : PB < w.heap.size := World.block_lt_of_cell? w _ hp
  have hbel : Below w.heap.size w (w.alloc (.cells #[.string ⟨r1.toArray⟩, .string ⟨r2.toArray⟩] 69)) := (Below.refl _ _).alloc (Nat.le_refl _) _
  have h1 : (w.alloc (.cells #[.string ⟨r1.toArray⟩, .string ⟨r2.toArray⟩] 69)).cell? ⟨PB, 0, none⟩ = some (.string ⟨p.toArray⟩) := by rw [hbel.cell hlt]; exact hp
  have hne : w.heap.size ≠ PB := by omega
  show Calls Try.prog 52 #[.agg #[.string ⟨r1.toArray⟩, .string ⟨r2.toArray⟩], .pointer (some ⟨PB, 0, none⟩)] w _
  by_cases he : r1 = p
  · subst he
    have hee : decide (r1 = r1) = true := by simp
    dsimp only
    rw [hee]
    clear hee
    go_enter Try.func52, Try.ntmps52
    go_wp2_with fail
    go_ret
    exact ⟨rfl, hbel⟩
  · have hee : decide (r1 = p) = false := by simp [he]
    have he2 : (r1 == p) = false := by rw [beq_eq_false_iff_ne]; exact he
    dsimp only
    rw [hee]
    clear hee he
    go_enter Try.func52, Try.ntmps52
    go_wp2_with fail
    go_ret
    exact ⟨rfl, hbel⟩
/-- where the first one stands -/
def IdxPost (l : List Rt) (p : List UInt8) (w : World) (e : Ending) (w' : World) : Prop :=
  ∃ x : Int, e = .returned (.int .i64 x) ∧ Below w.heap.size w w' ∧ ((x = -1 ∧ ∀ r ∈ l, r.1 ≠ p) ∨ ∃ (i : Nat) (hi : i < l.length), x = (i : Int) ∧ l[i].1 = p ∧ ∀ r ∈ l.take i, r.1 ≠ p)
set_option maxHeartbeats 2000000 in
set_option maxRecDepth 100000 in
theorem ridx_any (a : Option Addr) (n c : Nat) (l : List Rt) (hn : l.length = n) (hN : n ≤ 1000000000) (p : List UInt8) (PB : Nat) (w : World) (h : RowOf rcells 2 w (.slice a n c) l) (hp : w.cell? ⟨PB, 0, none⟩ = some (.string ⟨p.toArray⟩)) :
    Calls Try.prog 77 #[.slice a n c, .func (.func 52) #[] #[.pointer (some ⟨PB, 0, none⟩)]] w (IdxPost l p w) := by
  have hlt : PB < w.heap.size := World.block_lt_of_cell? w _ hp
  have hent := enters_rc
  have cc := fun (r : Rt) (u : World) (hu : Below w.heap.size w u) => rc_any r p PB u (by rw [hu.cell hlt]; exact hp)
  have Cc := Lib.hid cc
  have Hn := Lib.hid hn
  have H := Lib.hid h
  clear cc hn hp h
  go_enter Try.func77, Try.ntmps77
  go_wp2_with fail
  go_loopw [8] (fun ix wr => ∃ i : Nat, i ≤ n ∧ ix = .int .i64 (i : Int) ∧ Below w.heap.size w wr ∧ ∀ r ∈ l.take i, r.1 ≠ p) (fun ix _ => n - (intOf ix).toNat)
  case atStart => exact ⟨0, by omega, rfl, Below.refl _ _, by simp⟩
  case round =>
    obtain ⟨i, hii, rfl, hbr, hall⟩ := hrel
    by_cases hlti : i < n
    · have hki : (i : Int) < (n : Int) := by omega
      have hil : i < l.length := by rw [Hn.out]; exact hlti
      obtain ⟨b1, o1, rfl, r1⟩ := RowOf.range (f := rcells) (size := 2) (fun _ => rfl) (H.out.below hbr) i hil
      have hca := Cc.out l[i] wr hbr
      have htk : l.take (i + 1) = l.take i ++ [l[i]] := List.take_succ_eq_append_getElem hil
      have hwi : IntKind.i64.wrap ((i : Int) + 1) = ((i + 1 : Nat) : Int) := by rw [IntWalk.i64_in _ (by omega)]; omega
      obtain ⟨q, hq⟩ : ∃ q, q = decide (l[i].1 = p) := ⟨_, rfl⟩
      rw [← hq] at hca
      obtain ⟨y, hy⟩ : ∃ y, y = l[i] := ⟨_, rfl⟩
      rw [← hy] at r1 hca hq htk
      obtain ⟨y1, y2⟩ := y
      obtain ⟨Y1, hY1⟩ : ∃ Y : ByteArray, Y = ⟨y1.toArray⟩ := ⟨_, rfl⟩
      obtain ⟨Y2, hY2⟩ : ∃ Y : ByteArray, Y = ⟨y2.toArray⟩ := ⟨_, rfl⟩
      have hrc : rcells (y1, y2) = [.string Y1, .string Y2] := by rw [hY1, hY2]; rfl
      rw [hrc] at r1 hca
      have Hca := Lib.hid hca
      have R1 := Lib.hid r1
      have Htk := Lib.hid htk
      have Hall := Lib.hid hall
      have Hy : Hid (∃ hi : i < l.length, l[i] = (y1, y2)) := Lib.hid ⟨hil, hy.symm⟩
      cases q with
      | true =>
        have hyp : y1 = p := by simpa using hq.symm
        have Hyp := Lib.hid hyp
        clear hca r1 htk hall hq hY1 hY2 hrc hyp hlti hil hy
        go_wp2_with (first
          | (refine wpList_loadW (o := ⟨some 15, _, _, _, _, _⟩) 69 (.tmp 14) (by rfl) b1 (o1 + i * 2) (by rfl) aggRoute (by rfl) R1.out (by rfl) ?_)
          | (go_at_call 52; (with_reducible refine Hca.out.mono ?_); rintro e w2 ⟨rfl, b2⟩; have bb2 := Below.then hbr b2))
        go_ret
        obtain ⟨hi, hyy⟩ := Hy.out
        exact ⟨_, rfl, bb2, .inr ⟨i, hi, rfl, by rw [hyy]; exact Hyp.out, Hall.out⟩⟩
      | false =>
        have hyp : y1 ≠ p := by simpa using hq.symm
        have Hyp := Lib.hid hyp
        clear hca r1 htk hall hq hY1 hY2 hrc hyp hlti hil hy
        go_wp2_with (first
          | (refine wpList_loadW (o := ⟨some 15, _, _, _, _, _⟩) 69 (.tmp 14) (by rfl) b1 (o1 + i * 2) (by rfl) aggRoute (by rfl) R1.out (by rfl) ?_)
          | (go_at_call 52; (with_reducible refine Hca.out.mono ?_); rintro e w2 ⟨rfl, b2⟩; have bb2 := Below.then hbr b2))
        go_roundw
        case rel => exact ⟨i + 1, by omega, by go_num, bb2, fun r hr => by
          rw [Htk.out] at hr
          rcases List.mem_append.1 hr with hr | hr
          · exact Hall.out r hr
          · rw [List.mem_singleton] at hr; rw [hr]; exact Hyp.out⟩
        case measure => simp [intOf]; omega
    · obtain rfl : i = n := by omega
      clear hlti
      have Hall := Lib.hid hall
      clear hall
      go_wp2_with fail
      go_ret
      exact ⟨-1, rfl, hbr, .inl ⟨rfl, fun r hr => Hall.out r (by rw [← Hn.out, List.take_length]; exact hr)⟩⟩
set_option maxHeartbeats 1000000 in
set_option maxRecDepth 100000 in
theorem rclone_any (a : Option Addr) (n c : Nat) (l : List Rt) (hn : l.length = n) (w : World) (h : RowOf rcells 2 w (.slice a n c) l) (hB : n ≤ 1000000000) :
    Calls Try.prog 51 #[.slice a n c] w fun e w' => ∃ v, e = .returned v ∧ OwnOf rcells 2 69 w' w.heap.size v l ∧ Below w.heap.size w w' := by
  have hsm := h.small
  cases a with
  | none =>
    have h0 : l = [] ∧ n = 0 := by
      obtain ⟨_, _, _, hv, _, _, h3⟩ := h
      rcases h3 with ⟨h1, h2, h3⟩ | ⟨b, off, s, h1, h2, h3⟩
      · exact ⟨List.eq_nil_of_length_eq_zero (by omega), by omega⟩
      · simp only [Value.slice.injEq] at hv
        rw [← hv.1] at h1
        simp at h1
    obtain ⟨rfl, rfl⟩ := h0
    have he : ∀ w : World, (binOp .eql 55 (.slice none 0 c) (.slice none 0 0)).run Try.prog w = .ok (.bool true) w := fun _ => rfl
    go_enter Try.func51, Try.ntmps51
    go_wp2
    go_ret
    exact ⟨_, rfl, OwnOf.nil rcells 2 _ _ _, Below.refl _ _⟩
  | some p =>
    have Hn := Lib.hid hn
    have he : ∀ w : World, (binOp .eql 55 (.slice (some p) n c) (.slice none 0 0)).run Try.prog w = .ok (.bool false) w := fun _ => rfl
    go_enter Try.func51, Try.ntmps51
    go_wp2_with (refine wpList_appA (o := ⟨some 7, _, _, _, _, _⟩) (by rfl) (.tmp 5) (.tmp 6) 55 (by rfl) elRt (by rfl) (OwnOf.empty rcells 2 69 w w.heap.size (Nat.le_refl _)) (by rfl) (h.alloc _) (by simp) (by simp [Hn.out]; omega) (by simp only [List.length_nil]; unfold maxLen at *; omega) ?_; intro v2 w2 hA2 hg2 hl2)
    go_ret
    refine ⟨_, rfl, hA2, ?_⟩
    exact ((Below.refl _ _).alloc (Nat.le_refl _) (.cells #[] 69)).grown hg2 (by simp) (fun j hj => OwnOf.lt (OwnOf.empty rcells 2 69 w w.heap.size (Nat.le_refl _)) j hj)
end Go.Proofs.Ytcgpjceopnfahaa
