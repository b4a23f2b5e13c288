/- client.Read: three kids. -/
import Derived.Test.YtffkjjpjfehcnaaCli5
import Derived.Test.YtffkjjpjfehcnaaCli4
set_option linter.unusedSimpArgs false
set_option linter.unusedVariables false
namespace Go.Proofs.Ytffkjjpjfehcnaa
open Go.RowKit
theorem pitT_bare {k : Itm} (h : BareI k) : pitT (erI k) = itt k := by
  cases h with
  | txt tv t kv => rw [erI_mk]; rfl
  | lst tv kv ks h => rw [erI_mk, if_pos rfl]; rfl
theorem kids3 {it : Itm} {p : Pit} (hb : BareI it) (he : erI it = p) (h : kidsN p = 3) : ∃ k0 k1 k2, itks it = [k0, k1, k2] ∧ p = .lst [erI k0, erI k1, erI k2] ∧ BareI k0 ∧ BareI k1 ∧ BareI k2 := by
  subst he
  cases hb with
  | txt tv t kv => rw [erI_mk] at h; simp [kidsN] at h
  | lst tv kv ks hk =>
    rw [erI_mk, if_pos rfl] at h ⊢
    simp only [kidsN, List.length_map] at h
    match ks, h with
    | [k0, k1, k2], _ => exact ⟨k0, k1, k2, rfl, rfl, hk _ (by simp), hk _ (by simp), hk _ (by simp)⟩
theorem dec_enc {b : List UInt8} (h : decE b = 0) : b = encP (decP b) := by
  unfold decE at h
  unfold decP
  cases hd : dec b with
  | none => rw [hd] at h; simp at h
  | some p => exact dec_back hd
theorem OwnOf.notB {α : Type} {f : α → List Value} {size : Nat} {e e' : TypeId} {w : World} {B g : Nat} {v : Value} {l : List α} {cs : List Value} (h : OwnOf f size e w B v l) (hz : Blk e' w g cs) (hne : e ≠ e') : v.ownBlock ≠ some g := by
  rcases h.2 with ⟨rfl, _⟩ | ⟨g', cap, cur, rfl, _, hg, _⟩
  · simp [Value.ownBlock]
  · intro e2
    simp only [Value.ownBlock, Option.some.injEq] at e2
    subst e2
    have hz2 : w.heap[g']? = some (.cells cs.toArray e' (0, 0)) := hz
    rw [hz2] at hg
    simp only [Option.some.injEq, Obj.cells.injEq] at hg
    exact hne hg.2.1.symm
theorem OwnOf.off {α : Type} {f : α → List Value} {size : Nat} {e e' : TypeId} {w w' : World} {B g : Nat} {v : Value} {l : List α} {cs : List Value} (h : OwnOf f size e w B v l) (hg : w.grownBy w' (some g)) (hz : Blk e' w g cs) (hne : e ≠ e') : OwnOf f size e w' B v l :=
  h.grown hg (fun k hk => by cases hk; exact h.notB hz hne)
def NumsT (l : List Nat) : Ty := fun v w => ∃ a n c, v = .slice a n c ∧ OwnOf u64c 1 24 w 0 v l
theorem NumsT.mono (l : List Nat) : Mono (NumsT l) := fun _ _ _ ⟨a, n, c, h1, h2⟩ hb => ⟨a, n, c, h1, h2.kept hb⟩
def StV (H : Hd) (s n : List Nat) : Ty := fun v w => ∃ sa sn sc na nn nc, v = .agg (hdcs H ++ [Value.slice sa sn sc, Value.slice na nn nc]).toArray ∧ OwnOf u64c 1 24 w 0 (.slice sa sn sc) s ∧ OwnOf u64c 1 24 w 0 (.slice na nn nc) n
theorem StV.mono (H : Hd) (s n : List Nat) : Mono (StV H s n) := fun _ _ _ ⟨sa, sn, sc, na, nn, nc, h1, h2, h3⟩ hb => ⟨sa, sn, sc, na, nn, nc, h1, h2.kept hb, h3.kept hb⟩
def PtrS (B : Nat) : Ty := fun v w => ∃ g, v = .pointer (some ⟨g, 0, none⟩) ∧ B ≤ g ∧ Blk 38 w g zst
theorem PtrS.mono (B : Nat) : Mono (PtrS B) := fun _ _ _ ⟨g, h1, h2, h3⟩ hb => ⟨g, h1, h2, h3.kept hb⟩
theorem kid_range {w1 : World} {bk ok n kc : Nat} {ks : List Itm} (hrow : RowOf icells 3 w1 (.slice (some ⟨bk, ok, none⟩) n kc) ks) (hkids : ∀ k ∈ ks, IsItm w1 k) (i : Nat) (hi : i < ks.length) :
    ∃ l ta tn tc t ka kn kc ks', ks[i] = .mk l (.slice ta tn tc) t (.slice ka kn kc) ks' ∧ t.length = tn ∧ ks'.length = kn ∧ ∀ u, Below w1.heap.size w1 u → u.rangeAt bk (ok + i * 3) [.bool l, .slice ta tn tc, .slice ka kn kc] ∧ IsItm u ks[i] := by
  obtain ⟨b, off, e, hr⟩ := RowOf.range icells_len hrow i hi
  simp only [Option.some.injEq, Addr.mk.injEq, and_true] at e
  obtain ⟨rfl, rfl⟩ := e
  have hI := hkids _ (List.getElem_mem hi)
  obtain ⟨kid, hkid⟩ : ∃ x, x = ks[i] := ⟨_, rfl⟩
  rw [← hkid] at hI hr ⊢
  obtain ⟨l, tv, t, kv, ks'⟩ := kid
  obtain ⟨ta, tc, rfl, _, _⟩ := hI.inv.1.form
  obtain ⟨ka, kc, rfl, _, _⟩ := hI.inv.2.1.form
  exact ⟨l, ta, _, tc, t, ka, _, kc, ks', rfl, rfl, rfl, fun u hu => ⟨World.rangeAt.below hr hu, hI.kept hu⟩⟩
theorem kids_facts {b : List UInt8} {l : Bool} {tv : Value} {t : List UInt8} {ka : Option Addr} {kc : Nat} {k0 k1 k2 : Itm} {w1 : World} (hI : IsItm w1 (.mk l tv t (.slice ka 3 kc) [k0, k1, k2])) (hp : decP b = .lst [erI k0, erI k1, erI k2]) (hb0 : BareI k0) (hb1 : BareI k1) (hb2 : BareI k2) (hle : (encP (decP b)).length ≤ 1048576) :
    ∃ bk ok l0 ta0 tn0 tc0 t0 ka0 kn0 kc0 l1 ta1 tn1 tc1 t1 ka1 kn1 kc1 ks1 l2 ta2 tn2 tc2 t2 ka2 kn2 kc2 ks2, ka = some ⟨bk, ok, none⟩ ∧ t0.length = tn0 ∧ tn0 ≤ 1048576 ∧ ks1.length = kn1 ∧ kn1 ≤ 1048576 ∧ ks2.length = kn2 ∧ kn2 ≤ 1048576 ∧
      pitT (qk (decP b) 0) = t0 ∧ kidT (qk (decP b) 1) = ks1.map itt ∧ kidT (qk (decP b) 2) = ks2.map itt ∧
      ∀ u, Below w1.heap.size w1 u → u.rangeAt bk ok [.bool l0, .slice ta0 tn0 tc0, .slice ka0 kn0 kc0] ∧ u.rangeAt bk (ok + 3) [.bool l1, .slice ta1 tn1 tc1, .slice ka1 kn1 kc1] ∧ u.rangeAt bk (ok + 6) [.bool l2, .slice ta2 tn2 tc2, .slice ka2 kn2 kc2] ∧
        Bytes u (.slice ta0 tn0 tc0) t0 ∧ IsItm u (.mk l1 (.slice ta1 tn1 tc1) t1 (.slice ka1 kn1 kc1) ks1) ∧ IsItm u (.mk l2 (.slice ta2 tn2 tc2) t2 (.slice ka2 kn2 kc2) ks2) := by
  have hrow := hI.inv.2.1
  have hkids := hI.inv.2.2
  obtain ⟨bk, ok, _, _, rfl, _⟩ := kid_text hrow hkids 0 (by simp)
  obtain ⟨l0, ta0, tn0, tc0, t0, ka0, kn0, kc0, ks0, e0, ht0, hk0, r0⟩ := kid_range hrow hkids 0 (by simp)
  obtain ⟨l1, ta1, tn1, tc1, t1, ka1, kn1, kc1, ks1, e1, ht1, hk1, r1⟩ := kid_range hrow hkids 1 (by simp)
  obtain ⟨l2, ta2, tn2, tc2, t2, ka2, kn2, kc2, ks2, e2, ht2, hk2, r2⟩ := kid_range hrow hkids 2 (by simp)
  change k0 = _ at e0
  change k1 = _ at e1
  change k2 = _ at e2
  subst e0 e1 e2
  have hk := fun k (hb : BareI k) (hm : erI k ∈ [erI (.mk l0 (.slice ta0 tn0 tc0) t0 (.slice ka0 kn0 kc0) ks0), erI (.mk l1 (.slice ta1 tn1 tc1) t1 (.slice ka1 kn1 kc1) ks1), erI (.mk l2 (.slice ta2 tn2 tc2) t2 (.slice ka2 kn2 kc2) ks2)]) => (show (itks k).length ≤ 1048576 from by
    have h1 := (kids_of hb rfl).1
    have h2 := kidsN_le (erI k)
    have h3 := encPL_mem hm
    rw [hp, encP, List.length_append] at hle
    omega)
  refine ⟨bk, ok, l0, ta0, tn0, tc0, t0, ka0, kn0, kc0, l1, ta1, tn1, tc1, t1, ka1, kn1, kc1, ks1, l2, ta2, tn2, tc2, t2, ka2, kn2, kc2, ks2, rfl, ht0, ?_, hk1, ?_, hk2, ?_, ?_, ?_, ?_, fun u hu => ?_⟩
  · have h1 := kidT_le (decP b) t0 (by
      rw [hp]
      show t0 ∈ List.map pitT _
      rw [List.map_cons, pitT_bare hb0]
      exact List.mem_cons_self)
    omega
  · have := hk _ hb1 (by simp)
    change ks1.length ≤ _ at this; omega
  · have := hk _ hb2 (by simp)
    change ks2.length ≤ _ at this; omega
  · rw [hp]; exact pitT_bare hb0
  · rw [hp]; exact (kids_of hb1 rfl).2.2.symm
  · rw [hp]; exact (kids_of hb2 rfl).2.2.symm
  · have s0 := r0 u hu
    have s1 := r1 u hu
    have s2 := r2 u hu
    rw [Nat.zero_mul, Nat.add_zero] at s0
    exact ⟨s0.1, s1.1, s2.1, s0.2.inv.1, s1.2, s2.2⟩
set_option maxHeartbeats 4000000 in
set_option maxRecDepth 100000 in
theorem readS_good (a : Option Addr) (L c : Nat) (b : List UInt8) (hL : b.length = L) (hLs : L ≤ 1048576) (hE : decE b = 0) (h3 : kidsN (decP b) = 3) (w : World) (h : Bytes w (.slice a L c) b) : Calls Try.prog 20 #[.slice a L c] w (ReadS b w) := by
  have hbe := dec_enc hE
  have hz : Blk 38 (w.alloc (.cells Try.zeroCells38 38)) w.heap.size zst := by rw [zcSt]; exact Blk.new w _ _
  have hbel : Below w.heap.size w (w.alloc (.cells Try.zeroCells38 38)) := (Below.refl _ _).alloc (Nat.le_refl _) _
  have hlt0 := hz.lt
  have cc := fun u (hu : Bytes u (.slice a L c) b) => decode_any a L c b hL hLs u hu
  rw [hE] at cc
  have C := Lib.hid cc
  have H3 := Lib.hid h3
  have hle : (encP (decP b)).length ≤ 1048576 := by rw [← hbe, hL]; exact hLs
  have Hle := Lib.hid hle
  have hl206 := zst_len
  clear cc hE h3 hL hLs hbe hle
  go_enter Try.func20, Try.ntmps20
  go_wp2_with (first
    | (go_at_call 74; (with_reducible refine (C.out _ (h.alloc _)).mono ?_); rintro e w1 ⟨it, rfl, b1, hF, hbare, he, _⟩; have hz1 := hz.kept b1; have hbel1 := Below.then hbel b1; have hs1 := Nat.lt_of_lt_of_le hlt0 b1.size; obtain ⟨l, tv, t, kv, ks⟩ := it; obtain ⟨k0, k1, k2, hks, hp, hb0, hb1, hb2⟩ := kids3 hbare he H3.out; change ks = _ at hks; subst hks; obtain ⟨ta, tc, rfl, _, _⟩ := hF.is.inv.1.form; obtain ⟨ka, kc, rfl, _, _⟩ := hF.is.inv.2.1.form; have hI1 := hF.is; simp only [icells, List.length_cons, List.length_nil, Nat.reduceAdd] at hI1 ⊢; obtain ⟨bk, ok, l0, ta0, tn0, tc0, t0, ka0, kn0, kc0, l1, ta1, tn1, tc1, t1, ka1, kn1, kc1, ks1, l2, ta2, tn2, tc2, t2, ka2, kn2, kc2, ks2, rfl, ht0, hl0, hk1, hl1, hk2, hl2, q0, q1, q2, hall⟩ := kids_facts hI1 hp hb0 hb1 hb2 Hle.out; have HA := Lib.hid hall; have Q0 := Lib.hid q0; have Q1 := Lib.hid q1; have Q2 := Lib.hid q2; clear hF hbare he hp hb0 hb1 hb2 hall q0 q1 q2 hI1)
    | ((with_reducible show wpList _ _ _ (⟨none, Op.store _ _ (Operand.tmp 11), _, _, _, _⟩ :: _) _ _); refine wpList_storeA (o := ⟨none, _, _, _, _, _⟩) (by rfl) 128 (.tmp 4) (.tmp 11) (by rfl) w1.heap.size [.bool l, .slice ta t.length tc, .slice (some ⟨bk, ok, none⟩) 3 kc] (by rfl) (by rfl) aggItem (Blk.new w1 128 [.bool false, .slice none 0 0, .slice none 0 0]) (by rfl) (by rfl) (by intro u hu; simp at hu; rcases hu with rfl | rfl | rfl <;> rfl) (((Below.refl w1.heap.size w1).alloc (Nat.le_refl _) (.cells #[.bool false, .slice none 0 0, .slice none 0 0] 128))) (Nat.le_refl _) ?_; intro w4 h4 b4 _; have hz4 := hz1.kept b4; have hbel4 := Below.then hbel1 b4; have c42 : w4.cell? ⟨w1.heap.size, 2, none⟩ = some (.slice (some ⟨bk, ok, none⟩) 3 kc) := h4.cell 2; obtain ⟨rg0, rg1, rg2, bt0, _, _⟩ := HA.out w4 b4; have ct : w4.cell? ⟨bk, ok + 1, none⟩ = some (.slice ta0 tn0 tc0) := rg0 1 _ rfl)
    | (go_at_call 14; (with_reducible refine (read_any' ta0 tn0 tc0 t0 ht0 hl0 _ bt0).mono ?_); rintro e w5 ⟨H, E, rfl, hH, hR, b5⟩; have hz5 := hz4.kept b5; have hbel5 := Below.then hbel4 b5; have b15 := b4.trans (b5.mono b4.size); have h45 := h4.kept b5; have hlH := hdcs_len hH; have hlz := hdcs_len zH_ok)
    | ((with_reducible show wpList _ _ _ (⟨none, Op.store _ _ (Operand.tmp 29), _, _, _, _⟩ :: _) _ _); refine wpList_storeA (o := ⟨none, _, _, _, _, _⟩) (by rfl) 28 (.tmp 6) (.tmp 29) (by rfl) w5.heap.size (hdcs H) (by rfl) (by rfl) aggHd (old := hdcs zH) (by rw [zcHd]; exact Blk.new w5 _ _) hlH hlz (hdcs_one _) ((Below.refl w5.heap.size w5).alloc (Nat.le_refl _) _) (Nat.le_refl _) ?_; intro w6 x6 b6 _; have hz6 := hz5.kept b6; have hbel6 := Below.then hbel5 b6; have b16 := b15.trans (b6.mono b15.size); have h46 := h45.kept b6))
  obtain ⟨s, hs⟩ : ∃ s, s = (ks1.map itt).map nfP := ⟨_, rfl⟩
  obtain ⟨n, hn⟩ : ∃ n, n = (ks2.map itt).map nfP := ⟨_, rfl⟩
  have eT : rdC nfP H (decP b) = ⟨H, s, n⟩ := by unfold rdC; rw [Q1.out, Q2.out, ← hs, ← hn]
  have hTok : (⟨H, s, n⟩ : Sto).Ok := by
    refine ⟨hH, fun x hx => ?_, fun x hx => ?_, ?_, ?_⟩
    · change x ∈ s at hx
      rw [hs] at hx
      obtain ⟨_, _, rfl⟩ := List.mem_map.1 hx
      exact nfP_lt _
    · change x ∈ n at hx
      rw [hn] at hx
      obtain ⟨_, _, rfl⟩ := List.mem_map.1 hx
      exact nfP_lt _
    · show s.length ≤ _
      rw [hs, List.length_map, List.length_map]; omega
    · show n.length ≤ _
      rw [hn, List.length_map, List.length_map]; omega
  have hE01 : E = 0 ∨ E = 1 := by rcases hR with ⟨h, _⟩ | ⟨h, _⟩ <;> simp [h]
  have hno : (E ≠ 0 ∨ wC ⟨H, s, n⟩ ≠ b) → RdC b zSto 1 := fun hb => rdC_not nfP_num hH (by rw [Q0.out]; exact hR) (by rw [eT]; exact hb)
  have m1 : ∀ u, Below w6.heap.size w6 u → _ := fun u hu => cnums_any l1 ta1 tn1 tc1 t1 ka1 kn1 kc1 ks1 hk1 hl1 u (HA.out u (Below.then b16 hu)).2.2.2.2.1
  have m2 : ∀ u, Below w6.heap.size w6 u → _ := fun u hu => cnums_any l2 ta2 tn2 tc2 t2 ka2 kn2 kc2 ks2 hk2 hl2 u (HA.out u (Below.then b16 hu)).2.2.2.2.2
  rw [← hs] at m1
  rw [← hn] at m2
  have M1 := Lib.hid m1
  have M2 := Lib.hid m2
  have R1 := Lib.hid (fun u : Ext w6 => (HA.out u.val (Below.then b16 u.bel)).2.1)
  have R2 := Lib.hid (fun u : Ext w6 => (HA.out u.val (Below.then b16 u.bel)).2.2.1)
  have RH := Lib.hid (Blk.all0 x6)
  have k42 := fun u : Ext w6 => u.cell ((h46.cell 2).trans (show _ = some (Value.slice (some ⟨bk, ok, none⟩) 3 kc) from rfl))
  have Hno := Lib.hid hno
  have HTok := Lib.hid hTok
  clear hz hbel hlt0 C H3 Hle b1 hz1 hbel1 HA Q0 Q1 Q2 b4 hz4 hbel4 h4 c42 rg0 rg1 rg2 bt0 ct hz5 hbel5 b15 h45 hR b5 x6 b6 b16 h46 hs hn eT hTok hno m1 m2 hH ht0 hl0 hk1 hl1 hk2 hl2
  refine wp_region_typed w6 13 (by kernel_rfl) (by kernel_rfl) (Below.refl _ _) ?_; simp only [List.take_succ_cons, List.take_zero, List.take_nil]
  (refine wpX_step (by rfl) (fun K hK => ?_); rw [if_pos (by rfl)]; refine ⟨_, fun u => const_loadm _ (.tmp 6) (by rfl) _ _ (by rfl) aggHd hlH (rangeAt.ext RH.out u), hK _ ?_⟩; clear hK K; simp only [Act.put, List.setIfInBounds_toArray, List.set_cons_zero, List.set_cons_succ])
  iterate 3 (refine wpX_step (by rfl) (fun K hK => ?_); go_simp; first | (refine hK _ ?_; clear hK K) | (apply Exists.intro; refine ⟨fun _ => ?_, hK _ ?_⟩; fail; clear hK K))
  (refine wpX_step (by rfl) (fun K hK => ?_); rw [if_pos (by rfl)]; refine ⟨_, fun u => const_loadm _ (.tmp 34) (by rfl) _ _ (by rfl) aggItem rfl (R1.out u), hK _ ?_⟩; clear hK K; simp only [Act.put, List.setIfInBounds_toArray, List.set_cons_zero, List.set_cons_succ])
  refine wpX_rel 36 (NumsT s) rfl (of_decide_eq_true rfl) (NumsT.mono _) (fun w2 hw2 => ?_) ?_
  · simp only [relOf, List.filter_nil, forallRel]
    refine ⟨rfl, ?_⟩
    go_simp
    refine (M1.out w2 hw2).mono ?_
    rintro e w3 ⟨v, rfl, o3, b3⟩
    obtain ⟨a3, c3, rfl, _⟩ := o3.form
    exact ⟨_, rfl, ⟨a3, _, c3, rfl, o3.lower (Nat.zero_le _)⟩, b3⟩
  iterate 3 (refine wpX_step (by rfl) (fun K hK => ?_); go_simp; first | (refine hK _ ?_; clear hK K) | (apply Exists.intro; refine ⟨fun _ => ?_, hK _ ?_⟩; fail; clear hK K))
  (refine wpX_step (by rfl) (fun K hK => ?_); rw [if_pos (by rfl)]; refine ⟨_, fun u => const_loadm _ (.tmp 39) (by rfl) _ _ (by rfl) aggItem rfl (R2.out u), hK _ ?_⟩; clear hK K; simp only [Act.put, List.setIfInBounds_toArray, List.set_cons_zero, List.set_cons_succ])
  refine wpX_rel 41 (NumsT n) rfl (of_decide_eq_true rfl) (NumsT.mono _) (fun w2 hw2 => ?_) ?_
  · simp only [relOf, List.filter_nil, List.filter_cons, forallRel]
    try simp only [forallRel]
    refine ⟨rfl, ?_⟩
    go_simp
    refine (M2.out w2 hw2).mono ?_
    rintro e w3 ⟨v, rfl, o3, b3⟩
    obtain ⟨a3, c3, rfl, _⟩ := o3.form
    exact ⟨_, rfl, ⟨a3, _, c3, rfl, o3.lower (Nat.zero_le _)⟩, b3⟩
  refine wpX_rel 42 (StV H s n) rfl (of_decide_eq_true rfl) (StV.mono _ _ _) (fun w2 hw2 => ?_) ?_
  · change forallRel w2 [(41, _), (36, _)] _ _
    rintro v41 ⟨a4, n4, c4, rfl, r4⟩ v36 ⟨a3, n3, c3, rfl, r3⟩
    simp only [forallRel]
    refine ⟨rfl, ?_⟩
    simp only [Act.put, List.setIfInBounds_toArray, List.set_cons_zero, List.set_cons_succ]
    exact good_build (o := ⟨some 42, _, _, _, _, _⟩) 38 [(0, .tmp 31), (1, .tmp 36), (2, .tmp 41)] (by rfl) _ (by rfl) _ (built_st HTok.out.hd a3 n3 c3 a4 n4 c4) ⟨a3, n3, c3, a4, n4, c4, rfl, r3, r4⟩
  refine wpX_rel 7 (PtrS w6.heap.size) rfl (of_decide_eq_true rfl) (PtrS.mono _) (fun w2 hw2 => ?_) ?_
  · simp only [relOf, List.filter_nil, List.filter_cons, forallRel]
    try simp only [forallRel]
    refine ⟨rfl, ?_⟩
    go_simp
    exact ⟨(Below.refl _ _).alloc (Nat.le_refl _) _, w2.heap.size, rfl, hw2.size, by rw [zcSt]; exact Blk.new w2 _ _⟩
  refine wpX_nil ?_
  intro u2 hb2 v36 h36 v41 h41 v42 h42 v7 h7
  change wpList _ _ _ [_] _ _
  obtain ⟨a3, n3, c3, rfl, _⟩ := h36
  obtain ⟨a4, n4, c4, rfl, _⟩ := h41
  obtain ⟨sa, sn, sc, na, nn, nc, rfl, r3, r4⟩ := h42
  obtain ⟨gs, rfl, hgs, hz7⟩ := h7
  have hz2 := hz6.kept hb2
  have hbel2 := Below.then hbel6 hb2
  have hlz := zst_len
  have hlT := stc_len HTok.out.hd (.slice sa sn sc) (.slice na nn nc)
  have hfar : w.heap.size < gs := by have := hbel6.size; have := hz6.lt; omega
  clear hz6 hbel6 M1 M2 R1 R2 RH k42
  simp only [Act.put, List.setIfInBounds_toArray, List.set_cons_zero, List.set_cons_succ]
  rcases hE01 with rfl | rfl
  · obtain ⟨WB, hWB⟩ : ∃ WB, WB = wC ⟨H, s, n⟩ := ⟨_, rfl⟩
    have wr := fun u (r3 : RowOf u64c 1 u (.slice sa sn sc) s) (r4 : RowOf u64c 1 u (.slice na nn nc) n) => cwrite_any ⟨H, s, n⟩ HTok.out (.slice sa sn sc) (.slice na nn nc) u r3 r4
    rw [← hWB] at wr
    have Wr := Lib.hid wr
    obtain ⟨r, hr⟩ : ∃ r, r = (WB == b) := ⟨_, rfl⟩
    have Hr := Lib.hid hr
    have HWB := Lib.hid hWB
    clear wr hr hWB
    cases r with
    | true =>
      go_wp2_with (first
        | ((with_reducible show wpList _ _ _ (⟨none, Op.store _ _ (Operand.tmp 42), _, _, _, _⟩ :: _) _ _); refine wpList_storeA (o := ⟨none, _, _, _, _, _⟩) (by rfl) 38 (.tmp 7) (.tmp 42) (by rfl) gs (hdcs H ++ [.slice sa sn sc, .slice na nn nc]) (by rfl) (by rfl) aggSt hz7 hlT hlz (stc_one _ _ _ _ _ _ _) (Below.refl gs u2) (Nat.le_refl _) ?_; intro w8 y8 bb8 gg8; have z8 := hz2.below bb8 hfar; have bel8 := hbel2.trans (bb8.mono (Nat.le_of_lt hfar)); have hB8 := RowOf.below (f := b8) (size := 1) h bel8; have r38 := r3.off gg8 hz7 (by decide); have r48 := r4.off gg8 hz7 (by decide))
        | (refine wpList_loadW (o := ⟨some 46, _, _, _, _, _⟩) 38 (.tmp 7) (by rfl) gs 0 (by rfl) aggSt hlT (Blk.all0 y8) (by rfl) ?_)
        | (go_at_call 22; (with_reducible refine (Wr.out _ r38.row r48.row).mono ?_); rintro e w9 ⟨v9, rfl, o9, bb9⟩; obtain ⟨a9, c9, rfl, _⟩ := o9.form; have y9 := y8.kept bb9; have z9 := z8.kept bb9; have bel9 := Below.then bel8 bb9; have hB9 := RowOf.below (f := b8) (size := 1) hB8 bb9; have r39 := r38.kept bb9; have r49 := r48.kept bb9)
        | (go_at_call 76; refine (bequal_any a9 a _ c9 L c WB b _ o9 hB9).mono ?_; rintro e w10 ⟨rfl, rfl⟩; rw [← Hr.out])
        | (refine wpList_loadA (o := ⟨some 53, _, _, _, _, _⟩) (by rfl) 38 (.tmp 7) (by rfl) gs (by rfl) aggSt y9 hlT ?_)
        | ((with_reducible show wpList _ _ _ (⟨none, Op.store _ _ (Operand.tmp 53), _, _, _, _⟩ :: _) _ _); refine wpList_storeA (o := ⟨none, _, _, _, _, _⟩) (by rfl) 38 (.tmp 2) (.tmp 53) (by rfl) w.heap.size (hdcs H ++ [.slice sa sn sc, .slice na nn nc]) (by rfl) (by rfl) aggSt z9 hlT hlz (stc_one _ _ _ _ _ _ _) bel9 (Nat.le_refl _) ?_; intro w5 hh5 hbel5 gg5; have f3 := (r39.off gg5 z9 (by decide)).row; have f4 := (r49.off gg5 z9 (by decide)).row))
      exact bodyPost_ret (v := .tuple #[.agg (hdcs H ++ [Value.slice sa sn sc, Value.slice na nn nc]).toArray, .int .i64 0]) (results_blk_tmp rfl _ _ w.heap.size aggSt hh5 hlT rfl rfl) rfl ⟨⟨H, s, n⟩, 0, _, _, rfl, HTok.out, .inl ⟨rfl, by have := Hr.out; rw [HWB.out] at this; simpa using this.symm⟩, f3, f4, hbel5⟩
    | false =>
      go_wp2_with (first
        | ((with_reducible show wpList _ _ _ (⟨none, Op.store _ _ (Operand.tmp 42), _, _, _, _⟩ :: _) _ _); refine wpList_storeA (o := ⟨none, _, _, _, _, _⟩) (by rfl) 38 (.tmp 7) (.tmp 42) (by rfl) gs (hdcs H ++ [.slice sa sn sc, .slice na nn nc]) (by rfl) (by rfl) aggSt hz7 hlT hlz (stc_one _ _ _ _ _ _ _) (Below.refl gs u2) (Nat.le_refl _) ?_; intro w8 y8 bb8 gg8; have z8 := hz2.below bb8 hfar; have bel8 := hbel2.trans (bb8.mono (Nat.le_of_lt hfar)); have hB8 := RowOf.below (f := b8) (size := 1) h bel8; have r38 := r3.off gg8 hz7 (by decide); have r48 := r4.off gg8 hz7 (by decide))
        | (refine wpList_loadW (o := ⟨some 46, _, _, _, _, _⟩) 38 (.tmp 7) (by rfl) gs 0 (by rfl) aggSt hlT (Blk.all0 y8) (by rfl) ?_)
        | (go_at_call 22; (with_reducible refine (Wr.out _ r38.row r48.row).mono ?_); rintro e w9 ⟨v9, rfl, o9, bb9⟩; obtain ⟨a9, c9, rfl, _⟩ := o9.form; have y9 := y8.kept bb9; have z9 := z8.kept bb9; have bel9 := Below.then bel8 bb9; have hB9 := RowOf.below (f := b8) (size := 1) hB8 bb9; have r39 := r38.kept bb9; have r49 := r48.kept bb9)
        | (go_at_call 76; refine (bequal_any a9 a _ c9 L c WB b _ o9 hB9).mono ?_; rintro e w10 ⟨rfl, rfl⟩; rw [← Hr.out])
        | ((with_reducible show wpList _ _ _ (⟨none, Op.store _ _ (Operand.tmp 52), _, _, _, _⟩ :: _) _ _); refine wpList_storeA (o := ⟨none, _, _, _, _, _⟩) (by rfl) 38 (.tmp 2) (.tmp 52) (by rfl) w.heap.size zst (by rfl) (by first | rfl | exact congrArg Value.agg zcSt) aggSt z9 hl206 hl206 zst_one bel9 (Nat.le_refl _) ?_; intro w5 hh5 hbel5 _))
      exact bodyPost_ret (v := .tuple #[.agg zst.toArray, .int .i64 1]) (results_blk_tmp rfl _ _ w.heap.size aggSt hh5 hl206 rfl rfl) rfl (ReadS.zero (Hno.out (.inr (by have := Hr.out; rw [HWB.out] at this; simpa using this.symm))) hbel5)
  · go_wp2_with (first
      | ((with_reducible show wpList _ _ _ (⟨none, Op.store _ _ (Operand.tmp 42), _, _, _, _⟩ :: _) _ _); refine wpList_storeA (o := ⟨none, _, _, _, _, _⟩) (by rfl) 38 (.tmp 7) (.tmp 42) (by rfl) gs (hdcs H ++ [.slice sa sn sc, .slice na nn nc]) (by rfl) (by rfl) aggSt hz7 hlT hlz (stc_one _ _ _ _ _ _ _) (Below.refl gs u2) (Nat.le_refl _) ?_; intro w8 y8 bb8 gg8; have z8 := hz2.below bb8 hfar; have bel8 := hbel2.trans (bb8.mono (Nat.le_of_lt hfar)); have hB8 := RowOf.below (f := b8) (size := 1) h bel8; have r38 := r3.off gg8 hz7 (by decide); have r48 := r4.off gg8 hz7 (by decide))
      | ((with_reducible show wpList _ _ _ (⟨none, Op.store _ _ (Operand.tmp 52), _, _, _, _⟩ :: _) _ _); refine wpList_storeA (o := ⟨none, _, _, _, _, _⟩) (by rfl) 38 (.tmp 2) (.tmp 52) (by rfl) w.heap.size zst (by rfl) (by first | rfl | exact congrArg Value.agg zcSt) aggSt z8 hl206 hl206 zst_one bel8 (Nat.le_refl _) ?_; intro w5 hh5 hbel5 _))
    exact bodyPost_ret (v := .tuple #[.agg zst.toArray, .int .i64 1]) (results_blk_tmp rfl _ _ w.heap.size aggSt hh5 hl206 rfl rfl) rfl (ReadS.zero (Hno.out (.inl (by simp))) hbel5)
theorem readS_any (a : Option Addr) (L c : Nat) (b : List UInt8) (hL : b.length = L) (hLs : L ≤ 1048576) (w : World) (h : Bytes w (.slice a L c) b) : Calls Try.prog 20 #[.slice a L c] w (ReadS b w) := by
  by_cases hE : decE b = 0
  · by_cases h3 : kidsN (decP b) = 3
    · exact readS_good a L c b hL hLs hE h3 w h
    · exact readS_bad2 a L c b hL hLs hE h3 w h
  · exact readS_bad1 a L c b hL hLs hE w h
end Go.Proofs.Ytffkjjpjfehcnaa
