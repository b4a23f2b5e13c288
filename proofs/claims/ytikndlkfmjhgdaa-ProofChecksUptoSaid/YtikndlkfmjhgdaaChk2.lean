/- proof.next. -/
import Derived.Test.YtikndlkfmjhgdaaChk1
import Derived.Test.YtikndlkfmjhgdaaNib1
set_option linter.unusedSimpArgs false
set_option linter.unusedVariables false
namespace Go.Proofs.Ytikndlkfmjhgdaa
open Go.RowKit
def NextPost (o : List UInt8 × List UInt8 × List UInt8) (w : World) (e : Ending) (w' : World) : Prop :=
  ∃ (a1 : Option Addr) (c1 : Nat) (a2 : Option Addr) (c2 : Nat) (a3 : Option Addr) (c3 : Nat), e = .returned (.tuple #[.slice a1 o.1.length c1, .slice a2 o.2.1.length c2, .slice a3 o.2.2.length c3]) ∧ Below w.heap.size w w' ∧
    Bytes w' (.slice a1 o.1.length c1) o.1 ∧ Bytes w' (.slice a2 o.2.1.length c2) o.2.1 ∧ Bytes w' (.slice a3 o.2.2.length c3) o.2.2
theorem bdr {B : Nat} {a w : World} (h : Below B a w) (n : Nat) : Below B a (w.drewN n) := h.trans ⟨rfl, rfl, rfl, Nat.le_refl _, fun _ _ => rfl⟩
section
variable (pa va ka qa : Option Addr) (pn pc vn vc kn kc qn qc : Nat) (p v q : List UInt8) (ps : List (Value × List UInt8)) (hpn : p.length = pn) (hvn : v.length = vn) (hkn : ps.length = kn) (hqn : q.length = qn)
  (w : World) (hp : Bytes w (.slice pa pn pc) p) (hv : Bytes w (.slice va vn vc) v) (hk : Texts w (.slice ka kn kc) ps) (hq : Bytes w (.slice qa qn qc) q)
set_option maxHeartbeats 1000000 in
set_option maxRecDepth 100000 in
include hpn hvn hqn hp hv hq in
theorem next_leaf : Calls Try.prog 62 #[.agg #[.int .i64 1, .slice pa pn pc, .slice va vn vc, .slice ka kn kc], .slice qa qn qc] w (NextPost (nxtP (1, p, v, ps.map (·.2)) q) w) := by
  have hs1 := Blk.new w 97 [.int .i64 1, .slice pa pn pc, .slice va vn vc, .slice ka kn kc]
  have hbel1 : Below w.heap.size w (w.alloc (.cells #[.int .i64 1, .slice pa pn pc, .slice va vn vc, .slice ka kn kc] 97)) := (Below.refl _ _).alloc (Nat.le_refl _) _
  have c1 := run_str (P := Try.prog) (src := 24) (dst := 9) elU8.ht (by kernel_rfl) (by kernel_rfl) (hp.below hbel1)
  have c2 := run_str (P := Try.prog) (src := 24) (dst := 9) elU8.ht (by kernel_rfl) (by kernel_rfl) (hq.below hbel1)
  have hv1 := hv.below hbel1
  have hn : nxtP (1, p, v, ps.map (·.2)) q = if p = q then ([], [], v) else ([], [], []) := by unfold nxtP; rw [if_pos rfl]
  rw [hn]
  by_cases he : p = q
  · rw [if_pos he]
    subst he
    obtain rfl : pn = qn := hpn.symm.trans hqn
    have H : ∀ u, Below (w.alloc (.cells #[.int .i64 1, .slice pa pn pc, .slice va vn vc, .slice ka kn kc] 97)).heap.size (w.alloc (.cells #[.int .i64 1, .slice pa pn pc, .slice va vn vc, .slice ka kn kc] 97)) u → NextPost ([], [], v) w (.returned (.tuple #[.slice none 0 0, .slice none 0 0, .slice va vn vc])) u := by
      intro u hu
      refine ⟨none, 0, none, 0, va, vc, by simp [hvn], Below.then hbel1 hu, RowOf.nil b8 1 _, RowOf.nil b8 1 _, ?_⟩
      show Bytes _ (.slice va v.length vc) v
      rw [hvn]; exact hv1.below hu
    have HH := Lib.hid H
    clear H hn hpn hvn hqn
    go_enter Try.func62, Try.ntmps62
    go_wp2_with fail
    go_quiet (fail)
    go_wp2_with fail
    go_ret3
    exact HH.out _ (by first | exact Below.refl _ _ | exact bdr (Below.refl _ _) _ | exact bdr (bdr (Below.refl _ _) _) _)
  · rw [if_neg he]
    have he2 : (p == q) = false := by rw [beq_eq_false_iff_ne]; exact he
    have H : ∀ u, Below (w.alloc (.cells #[.int .i64 1, .slice pa pn pc, .slice va vn vc, .slice ka kn kc] 97)).heap.size (w.alloc (.cells #[.int .i64 1, .slice pa pn pc, .slice va vn vc, .slice ka kn kc] 97)) u → NextPost ([], [], []) w (.returned (.tuple #[.slice none 0 0, .slice none 0 0, .slice none 0 0])) u := by
      intro u hu
      refine ⟨none, 0, none, 0, none, 0, rfl, Below.then hbel1 hu, RowOf.nil b8 1 _, RowOf.nil b8 1 _, RowOf.nil b8 1 _⟩
    have HH := Lib.hid H
    clear H hn hpn hvn hqn he
    go_enter Try.func62, Try.ntmps62
    go_wp2_with fail
    go_ret3
    exact HH.out _ (by first | exact Below.refl _ _ | exact bdr (Below.refl _ _) _ | exact bdr (bdr (Below.refl _ _) _) _)
set_option maxHeartbeats 1000000 in
set_option maxRecDepth 100000 in
include hpn hkn hqn hp hk hq in
theorem next_road (hk1 : ps.length = 1) : Calls Try.prog 62 #[.agg #[.int .i64 2, .slice pa pn pc, .slice va vn vc, .slice ka kn kc], .slice qa qn qc] w (NextPost (nxtP (2, p, v, ps.map (·.2)) q) w) := by
  have hs1 := Blk.new w 97 [.int .i64 2, .slice pa pn pc, .slice va vn vc, .slice ka kn kc]
  have hbel1 : Below w.heap.size w (w.alloc (.cells #[.int .i64 2, .slice pa pn pc, .slice va vn vc, .slice ka kn kc] 97)) := (Below.refl _ _).alloc (Nat.le_refl _) _
  have cc := fun u (hu : Below w.heap.size w u) => common_any pa qa pc qc p q u (by rw [hpn]; exact hp.below hu) (by rw [hqn]; exact hq.below hu)
  rw [hpn, hqn] at cc
  obtain ⟨y, rfl⟩ := List.length_eq_one_iff.1 hk1
  obtain ⟨kv, k0⟩ := y
  have hk0 : Bytes w kv k0 := hk.2 _ (List.mem_singleton.2 rfl)
  obtain ⟨bk, ok, rfl, hc0⟩ := RowOf.cells (f := tcell) (size := 1) (fun _ => rfl) hk.1 0 (by simp)
  have hck : w.cell? ⟨bk, ok, none⟩ = some kv := by simpa using hc0 0 kv rfl
  have hblt := World.block_lt_of_cell? w _ hck
  obtain ⟨a0, q0, rfl, _, _⟩ := hk0.form
  obtain rfl : 1 = kn := hkn
  have hc1 : (w.alloc (.cells #[.int .i64 2, .slice pa pn pc, .slice va vn vc, .slice (some ⟨bk, ok, none⟩) 1 kc] 97)).cell? ⟨bk, ok, none⟩ = some (.slice a0 k0.length q0) := by rw [hbel1.cell (p := ⟨bk, ok, none⟩) hblt]; exact hck
  have hn : nxtP (2, p, v, [(Value.slice a0 k0.length q0, k0)].map (·.2)) q = if com p q = p.length then (k0, q.drop p.length, []) else ([], [], []) := by unfold nxtP; simp only [Int.reduceEq, reduceIte]; rfl
  rw [hn]
  by_cases he : com p q = p.length
  · rw [if_pos he]
    have hle := com_le p q
    obtain ⟨a5, c5, run5, row5⟩ := RowOf.from elU8 hq pn (by rw [← hqn, ← hpn, ← he]; omega) (pn : Int) rfl
    have he2 : (com p q : Int) = (pn : Int) := by omega
    have H : ∀ u, Below (w.alloc (.cells #[.int .i64 2, .slice pa pn pc, .slice va vn vc, .slice (some ⟨bk, ok, none⟩) 1 kc] 97)).heap.size (w.alloc (.cells #[.int .i64 2, .slice pa pn pc, .slice va vn vc, .slice (some ⟨bk, ok, none⟩) 1 kc] 97)) u → NextPost (k0, q.drop p.length, []) w (.returned (.tuple #[.slice a0 k0.length q0, .slice a5 (qn - pn) c5, .slice none 0 0])) u := by
      intro u hu
      refine ⟨a0, q0, a5, c5, none, 0, by simp [hqn, hpn], Below.then hbel1 hu, hk0.below (Below.then hbel1 hu), ?_, RowOf.nil b8 1 _⟩
      show Bytes _ (.slice a5 (q.drop p.length).length c5) (q.drop p.length)
      rw [List.length_drop, hqn, hpn]
      exact RowOf.below row5 (Below.then hbel1 hu)
    have HH := Lib.hid H
    have Cc := Lib.hid cc
    rw [he2] at cc
    have Cc := Lib.hid cc
    obtain ⟨m5, hm5⟩ : ∃ m, m = qn - pn := ⟨_, rfl⟩
    rw [← hm5] at run5 HH
    clear H hn hpn hqn cc he he2 hle hm5
    go_enter Try.func62, Try.ntmps62
    go_wp2_with (go_at_call 113; (with_reducible refine (Cc.out _ hbel1).mono ?_); rintro e w2 ⟨rfl, m, rfl⟩)
    go_quiet (fail)
    go_wp2_with fail
    go_ret3
    exact HH.out _ (by first | exact Below.refl _ _ | exact bdr (Below.refl _ _) _ | exact bdr (bdr (Below.refl _ _) _) _)
  · rw [if_neg he]
    have he2 : ((com p q : Int) == (pn : Int)) = false := by rw [beq_eq_false_iff_ne]; omega
    have H : ∀ u, Below (w.alloc (.cells #[.int .i64 2, .slice pa pn pc, .slice va vn vc, .slice (some ⟨bk, ok, none⟩) 1 kc] 97)).heap.size (w.alloc (.cells #[.int .i64 2, .slice pa pn pc, .slice va vn vc, .slice (some ⟨bk, ok, none⟩) 1 kc] 97)) u → NextPost ([], [], []) w (.returned (.tuple #[.slice none 0 0, .slice none 0 0, .slice none 0 0])) u := fun u hu => ⟨none, 0, none, 0, none, 0, rfl, Below.then hbel1 hu, RowOf.nil b8 1 _, RowOf.nil b8 1 _, RowOf.nil b8 1 _⟩
    have HH := Lib.hid H
    have Cc := Lib.hid cc
    obtain ⟨cq, hcq⟩ : ∃ x, x = com p q := ⟨_, rfl⟩
    rw [← hcq] at he2
    have Hcq := Lib.hid hcq
    clear H hn hpn hqn cc he hcq
    go_enter Try.func62, Try.ntmps62
    go_wp2_with (go_at_call 113; (with_reducible refine (Cc.out _ hbel1).mono ?_); rintro e w2 ⟨rfl, m, rfl⟩; rw [← Hcq.out])
    go_ret3
    exact HH.out _ (by first | exact Below.refl _ _ | exact bdr (Below.refl _ _) _ | exact bdr (bdr (Below.refl _ _) _) _)
set_option maxHeartbeats 1000000 in
set_option maxRecDepth 100000 in
include hvn hkn hqn hv hk hq in
theorem next_fork (hk16 : ps.length = 16) (hx16 : ∀ x ∈ q, x.toNat < 16) : Calls Try.prog 62 #[.agg #[.int .i64 3, .slice pa pn pc, .slice va vn vc, .slice ka kn kc], .slice qa qn qc] w (NextPost (nxtP (3, p, v, ps.map (·.2)) q) w) := by
  have hbel1 : Below w.heap.size w (w.alloc (.cells #[.int .i64 3, .slice pa pn pc, .slice va vn vc, .slice ka kn kc] 97)) := (Below.refl _ _).alloc (Nat.le_refl _) _
  cases q with
  | nil =>
    obtain rfl : 0 = qn := hqn
    have hn : nxtP (3, p, v, ps.map (·.2)) [] = ([], [], v) := by unfold nxtP; simp only [Int.reduceEq, reduceIte]
    rw [hn]
    have H : ∀ u, Below (w.alloc (.cells #[.int .i64 3, .slice pa pn pc, .slice va vn vc, .slice ka kn kc] 97)).heap.size (w.alloc (.cells #[.int .i64 3, .slice pa pn pc, .slice va vn vc, .slice ka kn kc] 97)) u → NextPost ([], [], v) w (.returned (.tuple #[.slice none 0 0, .slice none 0 0, .slice va vn vc])) u := by
      intro u hu
      refine ⟨none, 0, none, 0, va, vc, by simp [hvn], Below.then hbel1 hu, RowOf.nil b8 1 _, RowOf.nil b8 1 _, ?_⟩
      show Bytes _ (.slice va v.length vc) v
      rw [hvn]; exact hv.below (Below.then hbel1 hu)
    have HH := Lib.hid H
    clear H hn hvn hkn
    go_enter Try.func62, Try.ntmps62
    go_wp2_with fail
    go_quiet (fail)
    go_wp2_with fail
    go_ret3
    exact HH.out _ (by first | exact Below.refl _ _ | exact bdr (Below.refl _ _) _ | exact bdr (bdr (Below.refl _ _) _) _)
  | cons x q =>
    have hx := hx16 x List.mem_cons_self
    have hq1 : 1 ≤ qn := by rw [← hqn]; simp
    have hkx : ps[x.toNat]? = some (ps[x.toNat]'(by omega)) := List.getElem?_eq_getElem (by omega)
    obtain ⟨y, hy⟩ : ∃ y, y = ps[x.toNat]'(by omega) := ⟨_, rfl⟩
    rw [← hy] at hkx
    have hk0 : Bytes w y.1 y.2 := hk.2 _ (List.mem_of_getElem? hkx)
    obtain ⟨bk, ok, rfl, hc0⟩ := RowOf.cells (f := tcell) (size := 1) (fun _ => rfl) hk.1 x.toNat (by omega)
    rw [← hy] at hc0
    obtain ⟨kv, k0⟩ := y
    change Bytes w kv k0 at hk0
    have hck : w.cell? ⟨bk, ok + x.toNat, none⟩ = some kv := by simpa using hc0 0 kv rfl
    have hblt := World.block_lt_of_cell? w _ hck
    obtain ⟨bq, oq, rfl, hcq⟩ := RowOf.cells (f := b8) (size := 1) (fun _ => rfl) hq 0 (by simp)
    have hcq0 : w.cell? ⟨bq, oq, none⟩ = some (.int .u8 (x.toNat : Int)) := by simpa [u8v] using hcq 0 _ rfl
    have hblq := World.block_lt_of_cell? w _ hcq0
    obtain ⟨a0, q0, rfl, _, _⟩ := hk0.form
    obtain ⟨a5, c5, run5, row5⟩ := RowOf.from elU8 hq 1 hq1 1 rfl
    have hn : nxtP (3, p, v, ps.map (·.2)) (x :: q) = (k0, q, []) := by
      unfold nxtP
      simp only [Int.reduceEq, reduceIte]
      rw [List.getElem?_map, hkx]; rfl
    rw [hn]
    obtain rfl : 16 = kn := hk16.symm.trans hkn
    have hc1 : (w.alloc (.cells #[.int .i64 3, .slice pa pn pc, .slice va vn vc, .slice (some ⟨bk, ok, none⟩) 16 kc] 97)).cell? ⟨bk, ok + x.toNat, none⟩ = some (.slice a0 k0.length q0) := by rw [hbel1.cell (p := ⟨bk, ok + x.toNat, none⟩) hblt]; exact hck
    have hc2 : (w.alloc (.cells #[.int .i64 3, .slice pa pn pc, .slice va vn vc, .slice (some ⟨bk, ok, none⟩) 16 kc] 97)).cell? ⟨bq, oq, none⟩ = some (.int .u8 (x.toNat : Int)) := by rw [hbel1.cell (p := ⟨bq, oq, none⟩) hblq]; exact hcq0
    have H : ∀ u, Below (w.alloc (.cells #[.int .i64 3, .slice pa pn pc, .slice va vn vc, .slice (some ⟨bk, ok, none⟩) 16 kc] 97)).heap.size (w.alloc (.cells #[.int .i64 3, .slice pa pn pc, .slice va vn vc, .slice (some ⟨bk, ok, none⟩) 16 kc] 97)) u → NextPost (k0, q, []) w (.returned (.tuple #[.slice a0 k0.length q0, .slice a5 (qn - 1) c5, .slice none 0 0])) u := by
      intro u hu
      refine ⟨a0, q0, a5, c5, none, 0, by simp [← hqn], Below.then hbel1 hu, hk0.below (Below.then hbel1 hu), ?_, RowOf.nil b8 1 _⟩
      show Bytes _ (.slice a5 q.length c5) q
      have e : qn - 1 = q.length := by rw [← hqn]; simp
      rw [← e]
      exact RowOf.below row5 (Below.then hbel1 hu)
    have HH := Lib.hid H
    obtain ⟨m5, hm5⟩ : ∃ m, m = qn - 1 := ⟨_, rfl⟩
    rw [← hm5] at run5 HH
    have hqp : 0 < qn := by omega
    have hqi : (1 : Int) ≤ (qn : Int) := by omega
    have hqz : ((qn : Int) == 0) = false := by rw [beq_eq_false_iff_ne]; omega
    have hqj : (0 : Int) < (qn : Int) := by omega
    have hx2 : (x.toNat : Int) < 16 := by omega
    have hx3 : x.toNat < 16 := hx
    clear H hn hvn hqn hm5 hkx hy hck hcq0 hcq hc0
    go_enter Try.func62, Try.ntmps62
    go_wp2_with fail
    go_quiet (fail)
    go_wp2_with fail
    go_ret3
    exact HH.out _ (by first | exact Below.refl _ _ | exact bdr (Below.refl _ _) _ | exact bdr (bdr (Below.refl _ _) _) _)
set_option maxHeartbeats 1000000 in
set_option maxRecDepth 100000 in
theorem next_none : Calls Try.prog 62 #[.agg #[.int .i64 0, .slice pa pn pc, .slice va vn vc, .slice ka kn kc], .slice qa qn qc] w (NextPost (nxtP (0, p, v, ps.map (·.2)) q) w) := by
  have hbel1 : Below w.heap.size w (w.alloc (.cells #[.int .i64 0, .slice pa pn pc, .slice va vn vc, .slice ka kn kc] 97)) := (Below.refl _ _).alloc (Nat.le_refl _) _
  have hn : nxtP (0, p, v, ps.map (·.2)) q = ([], [], []) := by unfold nxtP; simp only [Int.reduceEq, reduceIte]
  rw [hn]
  have HH := Lib.hid hbel1
  clear hbel1 hn
  go_enter Try.func62, Try.ntmps62
  go_wp2_with fail
  go_ret3
  exact ⟨none, 0, none, 0, none, 0, rfl, HH.out, RowOf.nil b8 1 _, RowOf.nil b8 1 _, RowOf.nil b8 1 _⟩
end
theorem next_any (kd : Int) (pa va ka qa : Option Addr) (pn pc vn vc kn kc qn qc : Nat) (p v q : List UInt8) (ps : List (Value × List UInt8)) (hpn : p.length = pn) (hvn : v.length = vn) (hkn : ps.length = kn) (hqn : q.length = qn)
    (w : World) (hp : Bytes w (.slice pa pn pc) p) (hv : Bytes w (.slice va vn vc) v) (hk : Texts w (.slice ka kn kc) ps) (hq : Bytes w (.slice qa qn qc) q) (ho : okQ (kd, p, v, ps.map (·.2)) = true) (hx : ∀ x ∈ q, x.toNat < 16) :
    Calls Try.prog 62 #[.agg #[.int .i64 kd, .slice pa pn pc, .slice va vn vc, .slice ka kn kc], .slice qa qn qc] w (NextPost (nxtP (kd, p, v, ps.map (·.2)) q) w) := by
  rcases okQ_kinds ho with h0 | h1 | ⟨h2, h21, _⟩ | ⟨h3, h31, _⟩
  · dsimp only at h0; subst h0; exact next_none pa va ka qa pn pc vn vc kn kc qn qc p v q ps w
  · dsimp only at h1; subst h1; exact next_leaf pa va ka qa pn pc vn vc kn kc qn qc p v q ps hpn hvn hqn w hp hv hq
  · dsimp only at h2 h21; subst h2; exact next_road pa va ka qa pn pc vn vc kn kc qn qc p v q ps hpn hkn hqn w hp hk hq (by simpa using h21)
  · dsimp only at h3 h31; subst h3; exact next_fork pa va ka qa pn pc vn vc kn kc qn qc p v q ps hvn hkn hqn w hv hk hq (by simpa using h31) hx
end Go.Proofs.Ytikndlkfmjhgdaa
