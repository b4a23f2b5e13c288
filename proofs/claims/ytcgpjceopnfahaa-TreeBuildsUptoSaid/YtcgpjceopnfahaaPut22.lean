/- The reference's routePut. -/
import Derived.Test.YtcgpjceopnfahaaPut21
import Derived.Test.YtcgpjceopnfahaaNibA
set_option linter.unusedSimpArgs false
set_option linter.unusedVariables false
namespace Go.Proofs.Ytcgpjceopnfahaa
open Go.RowKit
def RtPost (l : List Rt) (w : World) (e : Ending) (w' : World) : Prop := ∃ (a : Option Addr) (n c : Nat), e = .returned (.slice a n c) ∧ RowOf rcells 2 w' (.slice a n c) l ∧ Below w.heap.size w w'
theorem rput_sorted {l : List Rt} (h : Ord l) (p v : List UInt8) (m : List Rt) (hm : m = keepR p l ++ (if v = [] then [] else [(p, v)])) (d' : Array Rt) (hp : Sort.PermIn 0 m.toArray.size m.toArray d') (hs : Sort.SortedIn rtLt 0 m.toArray.size d') : d'.toList = rputP l p v :=
  sort_rput h p v (d := m.toArray) (by rw [hm]; rfl) hp hs
set_option maxHeartbeats 4000000 in
set_option maxRecDepth 100000 in
theorem routePut_any (a ka va : Option Addr) (L c kn kc vn vc : Nat) (l : List Rt) (key v : List UInt8) (hL : l.length = L) (hLs : L ≤ 100000000) (ho : Ord l) (hkn : key.length = kn) (hk1 : kn ≤ 1000000000) (hvn : v.length = vn) (w : World) (h : RowOf rcells 2 w (.slice a L c) l) (hk : Bytes w (.slice ka kn kc) key) (hv : Bytes w (.slice va vn vc) v) :
    Calls Try.prog 28 #[.slice a L c, .slice ka kn kc, .slice va vn vc] w (RtPost (rputP l (halvesL key) v) w) := by
  have c1 := nhalves_any ka kc key w (by rw [hkn]; exact hk) (by omega)
  rw [hkn] at c1
  obtain ⟨P, hP⟩ : ∃ P, P = halvesL key := ⟨_, rfl⟩
  rw [← hP] at c1 ⊢
  have c2 := fun (u : World) (hu : Below w.heap.size w u) => rclone_any a L c l hL u (h.below hu) (by omega)
  have hkl : (keepR P l).length ≤ l.length := List.length_filter_le _ _
  have c3 := fun (x : Value) (W0 u : World) (PB : Nat) (hp : W0.cell? ⟨PB, 0, none⟩ = some (.string ⟨P.toArray⟩)) (h0 : Below W0.heap.size W0 u) (hx : OwnOf rcells 2 69 u W0.heap.size x l) => rdel_any x l (by omega) P PB W0 u hp h0 hx
  have c4 := fun (x : Value) (W0 u : World) (m : List Rt) (hm : m.length ≤ l.length + 1) (h0 : Below W0.heap.size W0 u) (hx : OwnOf rcells 2 69 u W0.heap.size x m) => rsort_any x m W0 u (by omega) h0 hx
  have C1 := Lib.hid c1
  have C2 := Lib.hid c2
  have C3 := Lib.hid c3
  have C4 := Lib.hid c4
  have Hkl := Lib.hid hkl
  have HL := Lib.hid hL
  have Ho := Lib.hid ho
  have Hv := Lib.hid hv
  have hst := fun u : World => run_str (P := Try.prog) (w := u) (src := 22) (dst := 9) elU8.ht (by kernel_rfl) (by kernel_rfl) (v := .slice va vn vc) (l := v)
  have Hst := Lib.hid hst
  have Hvn := Lib.hid hvn
  clear c1 c2 c3 c4 hkl hL ho hk hP hkn h hv hst
  obtain ⟨PB, hPB⟩ : ∃ X : ByteArray, X = ⟨P.toArray⟩ := ⟨_, rfl⟩
  have HPB := Lib.hid hPB
  simp only [← hPB] at C3
  clear hPB
  by_cases hv0 : v = []
  · subst hv0
    simp only [List.length_nil] at hvn
    subst hvn
    clear Hv Hst
    go_enter Try.func28, Try.ntmps28
    go_wp2_with (first
      | (go_at_call 49; (with_reducible refine C1.out.mono ?_); rintro e w1 ⟨v1, rfl, o1, b1⟩; obtain ⟨a1, c1, rfl, _⟩ := o1.form; have s1 := run_str (P := Try.prog) (src := 22) (dst := 9) elU8.ht (by kernel_rfl) (by kernel_rfl) o1.row; simp only [str] at s1; rw [← HPB.out] at s1; obtain ⟨w2, hw2⟩ : ∃ w2, w2 = w1.alloc (.cells #[.string PB] 9) := ⟨_, rfl⟩; have z2 : w2.cell? ⟨w1.heap.size, 0, none⟩ = some (.string PB) := (by rw [hw2]; exact (Blk.new w1 _ _).cell 0); have b2 : Below w.heap.size w w2 := (by rw [hw2]; exact b1.alloc b1.size _); have Hw2 := Lib.hid hw2; clear hw2)
      | (go_at_call 51; rw [← Hw2.out]; (with_reducible refine (C2.out _ b2).mono ?_); rintro e w3 ⟨v3, rfl, o3, b3⟩; have C5 := Lib.hid (C3.out v3 w2 w3 w1.heap.size z2 b3 o3))
      | (go_at_call 50; (with_reducible refine C5.out.mono ?_); rintro e w4 ⟨v4, rfl, o4, b4⟩; have C6 := Lib.hid (C4.out v4 w2 w4 _ (by have := Hkl.out; omega) b4 o4))
      | (go_at_call 53; (with_reducible refine C6.out.mono ?_); rintro e w5 ⟨rfl, d', hp, hs, r5, b5⟩))
    obtain ⟨a5, n5, rfl, _⟩ := r5.form
    go_ret
    exact ⟨_, _, _, rfl, by rw [← rput_sorted Ho.out P [] (keepR P l) (by simp) d' hp hs]; exact r5, Below.then b2 b5⟩
  · have hv1 : (0 : Int) < (vn : Int) := by
      have := List.length_pos_iff.2 hv0
      omega
    obtain ⟨VB, hVB⟩ : ∃ X : ByteArray, X = ⟨v.toArray⟩ := ⟨_, rfl⟩
    simp only [← hVB, str] at Hst
    have hbuilt : ∀ u : World, RowOf rcells 2 (u.alloc (.cells #[.string PB, .string VB] 69)) (.slice (some ⟨u.heap.size, 0, none⟩) 1 1) [(P, v)] := by
      rw [HPB.out, hVB]
      exact fun u => Row.built (f := rcells) (size := 2) (fun _ => rfl) u 69 [(P, v)] 1 rfl (by unfold maxLen; omega)
    have Hbuilt := Lib.hid hbuilt
    have Hv0 := Lib.hid hv0
    clear hv0 hbuilt hVB
    have hb1 : Hid (((keepR P l).length + [(P, v)].length) * 32 ≤ 140737488355328) := Lib.hid (by have := Hkl.out; have := HL.out; simp only [List.length_singleton]; omega)
    have hb2 : Hid ((keepR P l).length + [(P, v)].length ≤ maxLen) := Lib.hid (by have := Hkl.out; have := HL.out; unfold maxLen; simp only [List.length_singleton]; omega)
    go_enter Try.func28, Try.ntmps28
    go_wp2_with (first
      | (go_at_call 49; (with_reducible refine C1.out.mono ?_); rintro e w1 ⟨v1, rfl, o1, b1⟩; obtain ⟨a1, c1, rfl, _⟩ := o1.form; have s1 := run_str (P := Try.prog) (src := 22) (dst := 9) elU8.ht (by kernel_rfl) (by kernel_rfl) o1.row; simp only [str] at s1; rw [← HPB.out] at s1; obtain ⟨w2, hw2⟩ : ∃ w2, w2 = w1.alloc (.cells #[.string PB] 9) := ⟨_, rfl⟩; have z2 : w2.cell? ⟨w1.heap.size, 0, none⟩ = some (.string PB) := (by rw [hw2]; exact (Blk.new w1 _ _).cell 0); have b2 : Below w.heap.size w w2 := (by rw [hw2]; exact b1.alloc b1.size _); have Hw2 := Lib.hid hw2; clear hw2)
      | (go_at_call 51; rw [← Hw2.out]; (with_reducible refine (C2.out _ b2).mono ?_); rintro e w3 ⟨v3, rfl, o3, b3⟩; have C5 := Lib.hid (C3.out v3 w2 w3 w1.heap.size z2 b3 o3))
      | (go_at_call 50; (with_reducible refine C5.out.mono ?_); rintro e w4 ⟨v4, rfl, o4, b4⟩; have z4 : w4.cell? ⟨w1.heap.size, 0, none⟩ = some (.string PB) := (by rw [b4.cell (World.block_lt_of_cell? w2 _ z2)]; exact z2); have bb4 := Below.then b2 b4; have s4 := Hst.out w4 (Hv.out.below bb4); have o44 := o4.kept ((Below.refl w4.heap.size w4).alloc (Nat.le_refl _) (.cells #[.string PB, .string VB] 69)); have bA := b4.alloc b4.size (.cells #[.string PB, .string VB] 69))
      | (refine wpList_appA (o := ⟨some 24, _, _, _, _, _⟩) (by rfl) (.tmp 18) (.tmp 23) 55 (by rfl) elRt (by rfl) o44 (by rfl) (Hbuilt.out w4) bA.size hb1.out hb2.out ?_; intro v5 w5 o5 g5 _; have b5 := bA.grown g5 bA.size o44.lt; have C6 := Lib.hid (C4.out v5 w2 w5 _ (by have := Hkl.out; simp only [List.length_append, List.length_singleton]; omega) b5 o5))
      | (go_at_call 53; (with_reducible refine C6.out.mono ?_); rintro e w6 ⟨rfl, d', hp, hs, r6, b6⟩))
    obtain ⟨a6, n6, rfl, _⟩ := r6.form
    go_ret
    exact ⟨_, _, _, rfl, by rw [← rput_sorted Ho.out P v (keepR P l ++ [(P, v)]) (by rw [if_neg Hv0.out]) d' hp hs]; exact r6, Below.then b2 b6⟩
end Go.Proofs.Ytcgpjceopnfahaa
