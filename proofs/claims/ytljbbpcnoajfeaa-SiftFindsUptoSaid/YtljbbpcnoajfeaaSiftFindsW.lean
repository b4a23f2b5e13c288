/- The walk of the statement SiftFinds. -/
import Derived.Test.YtljbbpcnoajfeaaSf12
import Derived.Test.YtljbbpcnoajfeaaSf13
import Derived.Test.YtljbbpcnoajfeaaSf16
import Derived.Test.YtljbbpcnoajfeaaOpenPg
set_option linter.unusedSimpArgs false
set_option linter.unusedVariables false
namespace Go.Proofs.Ytljbbpcnoajfeaa
open Go.RowKit
theorem mem_pgF {lk : Rcp → Bool} {ps : List Pgv} {x : Fdv} (h : x ∈ pgF lk ps) : ∃ p ∈ ps, ∃ r ∈ p.rs, x.l ∈ r.ls := by
  unfold pgF at h
  obtain ⟨p, hp, h⟩ := List.mem_flatMap.1 h
  unfold rcF at h
  obtain ⟨y, hy, h⟩ := List.mem_flatMap.1 h
  refine ⟨p, hp, y.1, ?_, ?_⟩
  · exact (List.mem_zipIdx' hy).2 ▸ List.getElem_mem _
  · by_cases hl : lk y.1 = true
    · rw [if_pos hl] at h; exact mem_lgF h
    · rw [if_neg hl] at h; cases h
theorem Lgv.Ok.like {x y : Lgv} (h : y.Ok) (hl : x.Like y) : x.Ok := ⟨by rw [hl.t]; exact h.t, by rw [hl.d]; exact h.d, by rw [hl.t]; exact h.w⟩
theorem mem_tkF {f : Flt} {most : Int} {L : List Fdv} {x : Fdv} (h : x ∈ tkF f most L) : x ∈ L := (List.mem_filter.1 (List.mem_of_mem_take h)).1
/-- found logs that tell so -/
def FdT (B : Nat) (T : List (Nat × Nat × Nat × List UInt8 × List Nat × List UInt8)) : Ty := fun v w => ∃ xs, OwnOf fdc 13 86 w B v xs ∧ (∀ x ∈ xs, x.l.In w) ∧ xs.map tel = T
theorem FdT.mono (B : Nat) (T : List (Nat × Nat × Nat × List UInt8 × List Nat × List UInt8)) : Mono (FdT B T) := fun _ _ _ ⟨xs, h1, h2, h3⟩ hb => ⟨xs, h1.kept hb, fun x hx => (h2 x hx).kept hb, h3⟩
theorem like_mem {xs : List Fdv} {T : List (Nat × Nat × Nat × List UInt8 × List Nat × List UInt8)} {L : List Fdv} (hT : xs.map tel = T) (hL : T = L.map tel) (hO : ∀ y ∈ L, y.l.Ok) : ∀ x ∈ xs, x.l.Ok := fun x hx => by
  have : tel x ∈ L.map tel := by rw [← hL, ← hT]; exact List.mem_map_of_mem hx
  obtain ⟨y, hy, he⟩ := List.mem_map.1 this
  exact (hO y hy).like (tel_like he.symm).2.2.2
theorem same_fd {B : Nat} {T : List (Nat × Nat × Nat × List UInt8 × List Nat × List UInt8)} {L : List Fdv} (hL : T = L.map tel) (hn : L.length ≤ 1048576) (hO : ∀ y ∈ L, y.l.Ok) (v v' : Value) (u : World) (h1 : FdT B T v u) (h2 : FdT B T v' u) :
    Calls Try.prog 10 #[v, v'] u fun e w' => e = .returned (.bool true) ∧ Below u.heap.size u w' := by
  obtain ⟨xs, a1, a2, a3⟩ := h1
  obtain ⟨ys, b1, b2, b3⟩ := h2
  have l1 : xs.length = L.length := by have := congrArg List.length (a3.trans hL); simpa using this
  have l2 : ys.length = L.length := by have := congrArg List.length (b3.trans hL); simpa using this
  obtain ⟨aa, ac, rfl, _⟩ := a1.form' L.length l1
  obtain ⟨ba, bc, rfl, _⟩ := b1.form' L.length l2
  exact samefound_any aa ba L.length ac bc xs ys l1 (a3.trans b3.symm) hn (like_mem a3 hL hO) u a1.row b1.row a2 b2
set_option maxHeartbeats 4000000 in
set_option maxRecDepth 100000 in
theorem siftFinds_walk (v : Value) (ps : List Pgv) (f : Flt) (most : Int) (W : World) (hp : Pgs W v ps) (kp : PgOk ps) (kt : (ps.map pgW).sum ≤ 1048576) (hf : f.In W) (kf : f.Ok) :
    Calls Try.prog 4 #[v, .agg (flc f).toArray, .int .i64 most] W fun e w' => e = .returned (.bool true) ∧ Below W.heap.size W w' := by
  obtain ⟨w1, hw1⟩ : ∃ w1, w1 = W.alloc (.cells (flc f).toArray 36) := ⟨_, rfl⟩
  have z1 : Blk 36 w1 W.heap.size (flc f) := by rw [hw1]; exact Blk.new W _ _
  have hbel : Below W.heap.size W w1 := by rw [hw1]; exact (Below.refl _ _).alloc (Nat.le_refl _) _
  have r1 := z1.all0
  have hp1 := hp.below hbel
  have hf1 := hf.kept hbel
  have hl := fun (lk : Rcp → Bool) => Nat.le_trans (pgF_len lk ps) kt
  have hok : ∀ (lk : Rcp → Bool), ∀ y ∈ tkF f most (pgF lk ps), y.l.In W ∧ y.l.Ok := fun lk y hy => by
    obtain ⟨p, h1, r, h2, h3⟩ := mem_pgF (mem_tkF hy)
    exact hp.lg p h1 r h2 y.l h3
  have hmk : ∀ (lk : Rcp → Bool) (u w' : World) (v : Value) (xs : List Fdv), Below w1.heap.size w1 u → FdL w' u.heap.size v xs → xs.map tel = firstF f most (pgF lk ps) → FdT w1.heap.size ((tkF f most (pgF lk ps)).map tel) v w' := fun lk u w' v xs hu h1 h2 => ⟨xs, h1.own.lower hu.size, fun x hx => (h1.lg x hx).In, by rw [h2, tkF_tel]⟩
  have hmt : ∀ (lk : Rcp → Bool) (u w' : World) (v : Value), Below w1.heap.size w1 u → Below u.heap.size u w' → OwnOf fdc 13 86 w' u.heap.size v (tkF f most (pgF lk ps)) → FdT w1.heap.size ((tkF f most (pgF lk ps)).map tel) v w' := fun lk u w' v hu hw h1 => ⟨_, h1.lower hu.size, fun x hx => (hok lk x hx).1.kept (Below.then hbel (Below.then hu hw)), rfl⟩
  have ca := fun (u : World) (hu : Below w1.heap.size w1 u) => sall_any f kf most v ps kp (hl _) u (hp1.below hu) (hf1.kept hu)
  have cf := fun (u : World) (hu : Below w1.heap.size w1 u) => sfind_any f kf most v ps kp (hl _) u (hp1.below hu) (hf1.kept hu)
  have c0 := fun (u : World) (hu : Below w1.heap.size w1 u) => tfind_any f kf most false v ps kp (fun _ => true) rfl (hl _) u (hp1.below hu) (hf1.kept hu)
  have c1 := fun (u : World) (hu : Below w1.heap.size w1 u) => tfind_any f kf most true v ps kp (fun r => maB f r.bloom) (by funext r; simp) (hl _) u (hp1.below hu) (hf1.kept hu)
  have cs := fun (lk : Rcp → Bool) => same_fd (B := w1.heap.size) (T := (tkF f most (pgF lk ps)).map tel) rfl (Nat.le_trans (tkF_len _ _ _) (hl lk)) (fun y hy => (hok lk y hy).2)
  have ma := hmk (fun _ => true)
  have mf := hmk (fun r => maB f r.bloom)
  have n0 := hmt (fun _ => true)
  have n1 := hmt (fun r => maB f r.bloom)
  have sa := cs (fun _ => true)
  have sf := cs (fun r => maB f r.bloom)
  obtain ⟨LA, hLA⟩ : ∃ L, L = pgF (fun _ => true) ps := ⟨_, rfl⟩
  obtain ⟨LF, hLF⟩ : ∃ L, L = pgF (fun r => maB f r.bloom) ps := ⟨_, rfl⟩
  rw [← hLA] at ca c0 ma n0 sa
  rw [← hLF] at cf c1 mf n1 sf
  obtain ⟨pa, pc, rfl, _⟩ := hp.row.form
  obtain ⟨pn, hpn⟩ : ∃ n, n = ps.length := ⟨_, rfl⟩
  simp only [← hpn] at ca cf c0 c1 ⊢
  obtain ⟨FLC, hFLC⟩ : ∃ C, C = flc f := ⟨_, rfl⟩
  have hFl : FLC.length = 2 := by rw [hFLC]; rfl
  rw [← hFLC] at r1 hw1 ca cf c0 c1 ⊢
  have HWe := Lib.hid hw1
  have R1 := Lib.hid r1
  have HFl := Lib.hid hFl
  have Ca := Lib.hid ca
  have Cf := Lib.hid cf
  have C0 := Lib.hid c0
  have C1 := Lib.hid c1
  have Ma := Lib.hid ma
  have Mf := Lib.hid mf
  have N0 := Lib.hid n0
  have N1 := Lib.hid n1
  have Sa := Lib.hid sa
  have Sf := Lib.hid sf
  clear hw1 r1 hFl ca cf c0 c1 ma mf n0 n1 sa sf hFLC hpn hLA hLF cs hmk hmt hok hl hf1 hp1 z1 hp kp kt hf kf
  go_enter Try.func4, Try.ntmps4
  go_upto_region 1 with fail
  rw [← HWe.out]
  refine wp_region_typed w1 20 (by kernel_rfl) (by kernel_rfl) (Below.refl _ _) ?_; simp only [List.take_succ_cons, List.take_zero, List.take_nil]
  (refine wpX_step (by rfl) (fun K hK => ?_); go_simp; first | (refine hK _ ?_; clear hK K) | (apply Exists.intro; refine ⟨fun _ => ?_, hK _ ?_⟩; fail; clear hK K))
  (refine wpX_step (by rfl) (fun K hK => ?_); rw [if_pos (by rfl)]; refine ⟨_, fun u => const_loadm _ (.tmp 4) (by rfl) _ _ (by rfl) aggFl HFl.out (rangeAt.ext R1.out u), hK _ ?_⟩; clear hK K; simp only [Act.put, List.setIfInBounds_toArray, List.set_cons_zero, List.set_cons_succ])
  (refine wpX_step (by rfl) (fun K hK => ?_); go_simp; first | (refine hK _ ?_; clear hK K) | (apply Exists.intro; refine ⟨fun _ => ?_, hK _ ?_⟩; fail; clear hK K))
  refine wpX_rel 10 (FdT w1.heap.size ((tkF f most LA).map tel)) rfl (of_decide_eq_true rfl) (FdT.mono _ _) (fun u hu => ?_) ?_
  · change forallRel u [] _ _
    simp only [forallRel]
    refine ⟨by rfl, ?_⟩
    go_simp
    refine (Ca.out u hu).mono ?_
    rintro e w8 ⟨v8, xs, rfl, h1, h2, b8⟩
    exact ⟨_, rfl, Ma.out u w8 v8 xs hu h1 h2, b8⟩
  (refine wpX_step (by rfl) (fun K hK => ?_); go_simp; first | (refine hK _ ?_; clear hK K) | (apply Exists.intro; refine ⟨fun _ => ?_, hK _ ?_⟩; fail; clear hK K))
  (refine wpX_step (by rfl) (fun K hK => ?_); rw [if_pos (by rfl)]; refine ⟨_, fun u => const_loadm _ (.tmp 4) (by rfl) _ _ (by rfl) aggFl HFl.out (rangeAt.ext R1.out u), hK _ ?_⟩; clear hK K; simp only [Act.put, List.setIfInBounds_toArray, List.set_cons_zero, List.set_cons_succ])
  (refine wpX_step (by rfl) (fun K hK => ?_); go_simp; first | (refine hK _ ?_; clear hK K) | (apply Exists.intro; refine ⟨fun _ => ?_, hK _ ?_⟩; fail; clear hK K))
  refine wpX_rel 14 (FdT w1.heap.size ((tkF f most LA).map tel)) rfl (of_decide_eq_true rfl) (FdT.mono _ _) (fun u hu => ?_) ?_
  · change forallRel u [] _ _
    simp only [forallRel]
    refine ⟨by rfl, ?_⟩
    go_simp
    refine (C0.out u hu).mono ?_
    rintro e w8 ⟨v8, rfl, h1, b8⟩
    exact ⟨_, rfl, N0.out u w8 v8 hu b8 h1, b8⟩
  refine wpX_eq (.bool true) (fun u hu => ?_) ?_
  · change forallRel u [(14, _), (10, _)] _ _
    intro v14 h14 v10 h10
    simp only [forallRel]
    refine ⟨by rfl, ?_⟩
    go_simp
    refine (Sa.out v10 v14 u h10 h14).mono ?_
    rintro e w8 ⟨rfl, b8⟩
    exact ⟨_, rfl, rfl, b8⟩
  iterate 2 (refine wpX_step (by rfl) (fun K hK => ?_); go_simp; first | (refine hK _ ?_; clear hK K) | (apply Exists.intro; refine ⟨fun _ => ?_, hK _ ?_⟩; fail; clear hK K))
  (refine wpX_step (by rfl) (fun K hK => ?_); rw [if_pos (by rfl)]; refine ⟨_, fun u => const_loadm _ (.tmp 4) (by rfl) _ _ (by rfl) aggFl HFl.out (rangeAt.ext R1.out u), hK _ ?_⟩; clear hK K; simp only [Act.put, List.setIfInBounds_toArray, List.set_cons_zero, List.set_cons_succ])
  (refine wpX_step (by rfl) (fun K hK => ?_); go_simp; first | (refine hK _ ?_; clear hK K) | (apply Exists.intro; refine ⟨fun _ => ?_, hK _ ?_⟩; fail; clear hK K))
  refine wpX_rel 20 (FdT w1.heap.size ((tkF f most LF).map tel)) rfl (of_decide_eq_true rfl) (FdT.mono _ _) (fun u hu => ?_) ?_
  · change forallRel u [] _ _
    simp only [forallRel]
    refine ⟨by rfl, ?_⟩
    go_simp
    refine (Cf.out u hu).mono ?_
    rintro e w8 ⟨v8, xs, rfl, h1, h2, b8⟩
    exact ⟨_, rfl, Mf.out u w8 v8 xs hu h1 h2, b8⟩
  (refine wpX_step (by rfl) (fun K hK => ?_); go_simp; first | (refine hK _ ?_; clear hK K) | (apply Exists.intro; refine ⟨fun _ => ?_, hK _ ?_⟩; fail; clear hK K))
  (refine wpX_step (by rfl) (fun K hK => ?_); rw [if_pos (by rfl)]; refine ⟨_, fun u => const_loadm _ (.tmp 4) (by rfl) _ _ (by rfl) aggFl HFl.out (rangeAt.ext R1.out u), hK _ ?_⟩; clear hK K; simp only [Act.put, List.setIfInBounds_toArray, List.set_cons_zero, List.set_cons_succ])
  (refine wpX_step (by rfl) (fun K hK => ?_); go_simp; first | (refine hK _ ?_; clear hK K) | (apply Exists.intro; refine ⟨fun _ => ?_, hK _ ?_⟩; fail; clear hK K))
  refine wpX_rel 24 (FdT w1.heap.size ((tkF f most LF).map tel)) rfl (of_decide_eq_true rfl) (FdT.mono _ _) (fun u hu => ?_) ?_
  · change forallRel u [] _ _
    simp only [forallRel]
    refine ⟨by rfl, ?_⟩
    go_simp
    refine (C1.out u hu).mono ?_
    rintro e w8 ⟨v8, rfl, h1, b8⟩
    exact ⟨_, rfl, N1.out u w8 v8 hu b8 h1, b8⟩
  refine wpX_eq (.bool true) (fun u hu => ?_) ?_
  · change forallRel u [(24, _), (20, _)] _ _
    intro v24 h24 v20 h20
    simp only [forallRel]
    refine ⟨by rfl, ?_⟩
    go_simp
    refine (Sf.out v20 v24 u h20 h24).mono ?_
    rintro e w8 ⟨rfl, b8⟩
    exact ⟨_, rfl, rfl, b8⟩
  (refine wpX_step (by rfl) (fun K hK => ?_); go_simp; first | (refine hK _ ?_; clear hK K) | (apply Exists.intro; refine ⟨fun _ => ?_, hK _ ?_⟩; fail; clear hK K))
  refine wpX_nil ?_
  intro u2 hb2 v10 _ v14 _ v20 _ v24 _
  change wpList _ _ _ [_] _ _
  try simp only [Act.put, List.setIfInBounds_toArray, List.set_cons_zero, List.set_cons_succ]
  go_wp2_with fail
  go_ret
  exact ⟨rfl, Below.then hbel hb2⟩
end Go.Proofs.Ytljbbpcnoajfeaa
