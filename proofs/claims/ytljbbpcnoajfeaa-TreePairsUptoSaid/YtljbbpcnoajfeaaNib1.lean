/- nib.Common and the reference's NCommon: both come to one number. -/
import Derived.Test.YtljbbpcnoajfeaaTabs
set_option linter.unusedSimpArgs false
set_option linter.unusedVariables false
namespace Go.Proofs.Ytljbbpcnoajfeaa
open Go.RowKit
def com : List UInt8 → List UInt8 → Nat
  | x :: xs, y :: ys => if x = y then 1 + com xs ys else 0
  | _, _ => 0
theorem com_le (p : List UInt8) : ∀ q, com p q ≤ p.length ∧ com p q ≤ q.length := by
  induction p with
  | nil => intro q; simp [com]
  | cons x xs ih =>
    intro q
    cases q with
    | nil => simp [com]
    | cons y ys =>
      have := ih ys
      unfold com
      split <;> simp <;> omega
theorem com_same (p : List UInt8) : ∀ q k (h : k < com p q), p[k]'(by have := com_le p q; omega) = q[k]'(by have := com_le p q; omega) := by
  induction p with
  | nil => intro q k h; simp [com] at h
  | cons x xs ih =>
    intro q k h
    cases q with
    | nil => simp [com] at h
    | cons y ys =>
      unfold com at h
      split at h
      · rename_i hxy
        cases k with
        | zero => simpa using hxy
        | succ k => simpa using ih ys k (by omega)
      · omega
theorem com_end (p : List UInt8) : ∀ q (h1 : com p q < p.length) (h2 : com p q < q.length), p[com p q] ≠ q[com p q] := by
  induction p with
  | nil => intro q h1; simp at h1
  | cons x xs ih =>
    intro q h1 h2
    cases q with
    | nil => simp at h2
    | cons y ys =>
      by_cases hxy : x = y
      · have e : com (x :: xs) (y :: ys) = com xs ys + 1 := by simp [com, hxy]; omega
        simp only [e, List.getElem_cons_succ]
        exact ih ys (by rw [e] at h1; simpa using h1) (by rw [e] at h2; simpa using h2)
      · have e : com (x :: xs) (y :: ys) = 0 := by simp [com, hxy]
        simp only [e, List.getElem_cons_zero]
        exact hxy
set_option maxHeartbeats 400000 in
theorem ncommon_any (p : List UInt8) : ∀ (q : List UInt8) (a b : Option Addr) (c d : Nat) (w : World), Bytes w (.slice a p.length c) p → Bytes w (.slice b q.length d) q →
    Calls Try.prog 92 #[.slice a p.length c, .slice b q.length d] w fun e w' => e = .returned (.int .i64 (com p q)) ∧ ∃ m, w' = w.drewN m := by
  induction p with
  | nil =>
    intro q a b c d w hp hq
    have g1 : (((0 : Nat) : Int) == 0) = true := rfl
    go_enter Try.func92, Try.ntmps92
    simp only [List.length_nil, com]
    go_wp2
    go_quiet (fail)
    go_wp2
    go_ret
    exact ⟨rfl, _, rfl⟩
  | cons x xs ih =>
    intro q a b c d w hp hq
    have hpl := hp.small
    have hql := hq.small
    unfold maxLen at hpl hql
    obtain ⟨n, hn⟩ : ∃ n, n = (x :: xs).length := ⟨_, rfl⟩
    have hn1 : n = xs.length + 1 := by simpa using hn
    rw [← hn] at hp hpl ⊢
    have g1 : ((n : Int) == 0) = false := by rw [beq_eq_false_iff_ne]; omega
    cases q with
    | nil =>
      clear hn hn1
      go_enter Try.func92, Try.ntmps92
      simp only [List.length_nil, com]
      have g2 : (((0 : Nat) : Int) == 0) = true := rfl
      go_wp2
      go_quiet (fail)
      go_wp2
      go_ret
      exact ⟨rfl, _, rfl⟩
    | cons y ys =>
      obtain ⟨m, hm⟩ : ∃ m, m = (y :: ys).length := ⟨_, rfl⟩
      have hm1 : m = ys.length + 1 := by simpa using hm
      rw [← hm] at hq hql ⊢
      have g2 : ((m : Int) == 0) = false := by rw [beq_eq_false_iff_ne]; omega
      obtain ⟨b1, o1, rfl, h1⟩ := hp.at 0 (by simp)
      obtain ⟨b2, o2, rfl, h2⟩ := hq.at 0 (by simp)
      have g3 : (0 : Int) < (n : Int) := by omega
      have g4 : (0 : Int) < (m : Int) := by omega
      simp only [List.getElem_cons_zero, Nat.add_zero] at h1 h2
      obtain ⟨a', c', s1, r1⟩ := RowOf.from elU8 hp 1 (by omega) 1 rfl
      obtain ⟨b', d', s2, r2⟩ := RowOf.from elU8 hq 1 (by omega) 1 rfl
      have e1 : n - 1 = xs.length := by omega
      have e2 : m - 1 = ys.length := by omega
      rw [e1] at s1 r1
      rw [e2] at s2 r2
      by_cases hxy : x = y
      · subst hxy
        have e3 : (1 : Int) + (com xs ys : Int) = ((1 + com xs ys : Nat) : Int) := by omega
        have E3 := Lib.hid e3
        have hb : (((x.toNat : Int) != (x.toNat : Int))) = false := by simp
        have hl := com_le xs ys
        have hlx : xs.length + 1 ≤ 9223372036854775807 := by omega
        have hcom : com (x :: xs) (x :: ys) = 1 + com xs ys := by simp [com]
        rw [hcom]
        clear e1 e2 e3 hn hn1 hm hm1 hcom
        go_enter Try.func92, Try.ntmps92
        go_wp2
        go_quiet (fail)
        go_wp2
        go_quiet ((go_at_call 92; exact Calls.quiet_of2 (ih ys a' b' c' d' _ (by exact r1) (by exact r2))))
        go_wp2
        go_ret
        exact ⟨ret_int E3.out, _, by first | rfl | rw [World.drewN_drewN]⟩
      · have hb : (((x.toNat : Int) != (y.toNat : Int))) = true := by rw [bne_iff_ne]; intro e; apply hxy; exact UInt8.toNat_inj.1 (by omega)
        have hcom : com (x :: xs) (y :: ys) = 0 := by simp [com, hxy]
        rw [hcom]
        clear e1 e2 hn hn1 hm hm1 hcom
        go_enter Try.func92, Try.ntmps92
        go_wp2
        go_quiet (fail)
        go_wp2
        go_ret
        exact ⟨rfl, _, by first | rfl | rw [World.drewN_drewN]⟩
end Go.Proofs.Ytljbbpcnoajfeaa
