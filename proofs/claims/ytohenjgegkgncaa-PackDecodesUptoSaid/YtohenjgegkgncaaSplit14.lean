/- The reference's SameItem (of items that mean the same) and Bare (of bare items): true. -/
import Derived.Test.YtohenjgegkgncaaSplit1
import Derived.Test.YtohenjgegkgncaaAppT
import Derived.Test.YtohenjgegkgncaaConv
set_option linter.unusedSimpArgs false
set_option linter.unusedVariables false
namespace Go.Proofs.Ytohenjgegkgncaa
open Go.RowKit
def TruePost (w : World) (e : Ending) (w' : World) : Prop := e = .returned (.bool true) ∧ Below w.heap.size w w'
set_option maxHeartbeats 1000000 in
set_option maxRecDepth 100000 in
theorem smi_text (ta ta' : Option Addr) (tn tc tc' : Nat) (t : List UInt8) (kv kv' : Value) (w : World) (h : Bytes w (.slice ta tn tc) t) (h' : Bytes w (.slice ta' tn tc') t) :
    Calls Try.prog 17 #[.agg #[.bool false, .slice ta tn tc, kv], .agg #[.bool false, .slice ta' tn tc', kv']] w (TruePost w) := by
  have hbel : Below w.heap.size w ((w.alloc (.cells #[.bool false, .slice ta tn tc, kv] 25)).alloc (.cells #[.bool false, .slice ta' tn tc', kv'] 25)) := ((Below.refl _ _).alloc (Nat.le_refl _) _).alloc (by simp) _
  have c1 := run_str (P := Try.prog) (src := 22) (dst := 9) elU8.ht (by kernel_rfl) (by kernel_rfl) (h.below hbel)
  have c2 := run_str (P := Try.prog) (src := 22) (dst := 9) elU8.ht (by kernel_rfl) (by kernel_rfl) (h'.below hbel)
  go_enter Try.func17, Try.ntmps17
  go_wp2
  go_ret
  exact ⟨rfl, hbel⟩
set_option maxHeartbeats 1000000 in
set_option maxRecDepth 100000 in
theorem smi_list (tv tv' : Value) (ka ka' : Option Addr) (kn kc kc' : Nat) (ks ks' : List Itm) (hkn : ks.length = kn) (hkn' : ks'.length = kn) (hkm : kn ≤ 1000000000000) (w : World) (hk : RowOf icells 3 w (.slice ka kn kc) ks) (hk' : RowOf icells 3 w (.slice ka' kn kc') ks')
    (hi : ∀ k ∈ ks, IsItm w k) (hi' : ∀ k ∈ ks', IsItm w k) (he : ks.map erI = ks'.map erI)
    (ih : ∀ k ∈ ks, ∀ k' w', IsItm w' k → IsItm w' k' → erI k = erI k' → Calls Try.prog 17 #[.agg (icells k).toArray, .agg (icells k').toArray] w' (TruePost w')) :
    Calls Try.prog 17 #[.agg #[.bool true, tv, .slice ka kn kc], .agg #[.bool true, tv', .slice ka' kn kc']] w (TruePost w) := by
  have hbel : Below w.heap.size w ((w.alloc (.cells #[.bool true, tv, .slice ka kn kc] 25)).alloc (.cells #[.bool true, tv', .slice ka' kn kc'] 25)) := ((Below.refl _ _).alloc (Nat.le_refl _) _).alloc (by simp) _
  have hB1 : Blk 25 ((w.alloc (.cells #[.bool true, tv, .slice ka kn kc] 25)).alloc (.cells #[.bool true, tv', .slice ka' kn kc'] 25)) w.heap.size [.bool true, tv, .slice ka kn kc] := (Blk.new w 25 [.bool true, tv, .slice ka kn kc]).alloc _
  have hB2 : Blk 25 ((w.alloc (.cells #[.bool true, tv, .slice ka kn kc] 25)).alloc (.cells #[.bool true, tv', .slice ka' kn kc'] 25)) (w.heap.size + 1) [.bool true, tv', .slice ka' kn kc'] := by
    have := Blk.new (w.alloc (.cells #[.bool true, tv, .slice ka kn kc] 25)) 25 [.bool true, tv', .slice ka' kn kc']
    simpa using this
  have Hkn := Lib.hid hkn
  have Hkn' := Lib.hid hkn'
  have Hi := Lib.hid hi
  have Hi' := Lib.hid hi'
  have He := Lib.hid he
  have Ih := Lib.hid ih
  have hne : ((kn : Int) != (kn : Int)) = false := by simp
  clear hkn hkn' hi hi' he ih
  go_enter Try.func17, Try.ntmps17
  go_wp2
  go_loopw [31] (fun ix wr => ∃ k : Nat, k ≤ kn ∧ ix = .int .i64 (k : Int) ∧ Below w.heap.size w wr ∧ Blk 25 wr w.heap.size [.bool true, tv, .slice ka kn kc] ∧ Blk 25 wr (w.heap.size + 1) [.bool true, tv', .slice ka' kn kc']) (fun ix _ => kn - (intOf ix).toNat)
  case atStart => exact ⟨0, by omega, rfl, hbel, hB1, hB2⟩
  case round =>
    clear hbel hB1 hB2
    obtain ⟨k, hkk, rfl, hbel, hB1, hB2⟩ := hrel
    by_cases hlt : k < kn
    · have hki : (k : Int) < (kn : Int) := by omega
      have hl1 : k < ks.length := by rw [Hkn.out]; exact hlt
      have hl2 : k < ks'.length := by rw [Hkn'.out]; exact hlt
      obtain ⟨b1, o1, rfl, hr1⟩ := RowOf.range icells_len (hk.below hbel) k hl1
      obtain ⟨b2, o2, rfl, hr2⟩ := RowOf.range icells_len (hk'.below hbel) k hl2
      have hI1 : IsItm wr ks[k] := (Hi.out _ (List.getElem_mem hl1)).kept hbel
      have hI2 : IsItm wr ks'[k] := (Hi'.out _ (List.getElem_mem hl2)).kept hbel
      have hee : erI ks[k] = erI ks'[k] := by
        have := congrArg (fun l => l[k]?) He.out
        simpa [List.getElem?_eq_getElem hl1, List.getElem?_eq_getElem hl2] using this
      have hc := fun (u : World) (hu : Below wr.heap.size wr u) => Ih.out _ (List.getElem_mem hl1) ks'[k] u (hI1.kept hu) (hI2.kept hu) hee
      have l1 := icells_len ks[k]
      have l2 := icells_len ks'[k]
      generalize icells ks[k] = C at *
      generalize icells ks'[k] = D at *
      have R1 := Lib.hid hr1
      have R2 := Lib.hid hr2
      have Hc := Lib.hid hc
      have k1 := fun u : Ext wr => u.cell ((hB1.cell 2).trans (show _ = some (Value.slice (some ⟨b1, o1, none⟩) kn kc) from rfl))
      have k2 := fun u : Ext wr => u.cell ((hB2.cell 2).trans (show _ = some (Value.slice (some ⟨b2, o2, none⟩) kn kc') from rfl))
      clear hr1 hr2 hI1 hI2 hee hc hl1 hl2
      go_wp2
      refine wp_region_typed wr 11 (by kernel_rfl) (by kernel_rfl) (Below.refl _ _) ?_; simp only [List.take_succ_cons, List.take_zero, List.take_nil]
      iterate 4 (refine wpX_step (by rfl) (fun K hK => ?_); go_simp; first | (refine hK _ ?_; clear hK K) | (apply Exists.intro; refine ⟨fun _ => ?_, hK _ ?_⟩; fail; clear hK K))
      (refine wpX_step (by rfl) (fun K hK => ?_); rw [if_pos (by rfl)]; refine ⟨_, fun u => const_loadm _ (.tmp 37) (by rfl) _ _ (by rfl) aggItem l1 (rangeAt.ext R1.out u), hK _ ?_⟩; clear hK K; simp only [Act.put, List.setIfInBounds_toArray, List.set_cons_zero, List.set_cons_succ])
      iterate 4 (refine wpX_step (by rfl) (fun K hK => ?_); go_simp; first | (refine hK _ ?_; clear hK K) | (apply Exists.intro; refine ⟨fun _ => ?_, hK _ ?_⟩; fail; clear hK K))
      (refine wpX_step (by rfl) (fun K hK => ?_); rw [if_pos (by rfl)]; refine ⟨_, fun u => const_loadm _ (.tmp 42) (by rfl) _ _ (by rfl) aggItem l2 (rangeAt.ext R2.out u), hK _ ?_⟩; clear hK K; simp only [Act.put, List.setIfInBounds_toArray, List.set_cons_zero, List.set_cons_succ])
      refine wpX_eq (.bool true) (fun w2 hw2 => ?_) ?_
      · change forallRel w2 [] _ _
        simp only [forallRel]
        refine ⟨rfl, ?_⟩
        go_simp
        refine (Hc.out w2 hw2).mono ?_
        rintro e w3 ⟨rfl, b3⟩
        exact ⟨_, rfl, rfl, b3⟩
      refine wpX_nil ?_
      intro u2 hb2
      have hbel2 := Below.then hbel hb2
      have hB1' := hB1.kept hb2
      have hB2' := hB2.kept hb2
      change wpList _ _ _ [_] _ _
      clear k1 k2
      go_wp2
      go_roundw
      case rel => exact ⟨k + 1, by omega, by go_num, hbel2, hB1', hB2'⟩
      case measure => simp [intOf]; omega
    · obtain rfl : k = kn := by omega
      go_wp2
      go_ret
      exact ⟨rfl, hbel⟩
theorem smi_any : ∀ (n : Nat) (x y : Itm) (w : World), bulkI x ≤ n → n ≤ 1000000000000 → IsItm w x → IsItm w y → erI x = erI y → Calls Try.prog 17 #[.agg (icells x).toArray, .agg (icells y).toArray] w (TruePost w)
  | 0, x, _, _, h, _, _, _, _ => by have := bulk_pos x; omega
  | n + 1, .mk l tv t kv ks, .mk l' tv' t' kv' ks', w, h, hn, hI, hJ, he => by
    obtain ⟨h1, h2, h3⟩ := hI.inv
    obtain ⟨g1, g2, g3⟩ := hJ.inv
    obtain ⟨ta, tc, rfl, _, _⟩ := h1.form
    obtain ⟨ka, kc, rfl, _, _⟩ := h2.form
    obtain ⟨ta', tc', rfl, _, _⟩ := g1.form
    obtain ⟨ka', kc', rfl, _, _⟩ := g2.form
    rw [erI_mk, erI_mk] at he
    unfold bulkI at h
    cases l with
    | false =>
      cases l' with
      | true => simp at he
      | false =>
        simp at he
        subst he
        exact smi_text ta ta' t.length tc tc' t _ _ w h1 g1
    | true =>
      cases l' with
      | false => simp at he
      | true =>
        simp only [if_true, Pit.lst.injEq] at he
        have hl : ks.length = ks'.length := by have := congrArg List.length he; simpa using this
        have hb := bulk_len ks
        show Calls Try.prog 17 #[.agg #[.bool true, .slice ta t.length tc, .slice ka ks.length kc], .agg #[.bool true, .slice ta' t'.length tc', .slice ka' ks'.length kc']] w _
        rw [← hl]
        exact smi_list _ _ ka ka' ks.length kc kc' ks ks' rfl hl.symm (by omega) w h2 (by rw [hl]; exact g2) h3 g3 he (fun k hk k' w' i1 i2 e => smi_any n k k' w' (by have := bulk_mem hk; omega) (by omega) i1 i2 e)
set_option maxHeartbeats 1000000 in
set_option maxRecDepth 100000 in
theorem bare_text (tv : Value) (ka : Option Addr) (kc : Nat) (w : World) : Calls Try.prog 18 #[.agg #[.bool false, tv, .slice ka 0 kc]] w (TruePost w) := by
  have hbel : Below w.heap.size w (w.alloc (.cells #[.bool false, tv, .slice ka 0 kc] 25)) := (Below.refl _ _).alloc (Nat.le_refl _) _
  go_enter Try.func18, Try.ntmps18
  go_wp2
  go_ret
  exact ⟨rfl, hbel⟩
set_option maxHeartbeats 1000000 in
set_option maxRecDepth 100000 in
theorem bare_list (ta : Option Addr) (tc : Nat) (ka : Option Addr) (kn kc : Nat) (ks : List Itm) (hkn : ks.length = kn) (hkm : kn ≤ 1000000000000) (w : World) (hk : RowOf icells 3 w (.slice ka kn kc) ks) (hi : ∀ k ∈ ks, IsItm w k)
    (ih : ∀ k ∈ ks, ∀ w', IsItm w' k → Calls Try.prog 18 #[.agg (icells k).toArray] w' (TruePost w')) :
    Calls Try.prog 18 #[.agg #[.bool true, .slice ta 0 tc, .slice ka kn kc]] w (TruePost w) := by
  have hbel : Below w.heap.size w (w.alloc (.cells #[.bool true, .slice ta 0 tc, .slice ka kn kc] 25)) := (Below.refl _ _).alloc (Nat.le_refl _) _
  have hB := Blk.new w 25 [.bool true, .slice ta 0 tc, .slice ka kn kc]
  have Hkn := Lib.hid hkn
  have Hi := Lib.hid hi
  have Ih := Lib.hid ih
  clear hkn hi ih
  go_enter Try.func18, Try.ntmps18
  go_wp2
  go_loopw [15] (fun ix wr => ∃ k : Nat, k ≤ kn ∧ ix = .int .i64 (k : Int) ∧ Below w.heap.size w wr ∧ Blk 25 wr w.heap.size [.bool true, .slice ta 0 tc, .slice ka kn kc]) (fun ix _ => kn - (intOf ix).toNat)
  case atStart => exact ⟨0, by omega, rfl, hbel, hB⟩
  case round =>
    clear hbel hB
    obtain ⟨k, hkk, rfl, hbel, hB⟩ := hrel
    by_cases hlt : k < kn
    · have hki : (k : Int) < (kn : Int) := by omega
      have hl1 : k < ks.length := by rw [Hkn.out]; exact hlt
      obtain ⟨b, off, rfl, hr⟩ := RowOf.range icells_len (hk.below hbel) k hl1
      have hI : IsItm wr ks[k] := (Hi.out _ (List.getElem_mem hl1)).kept hbel
      have hc := fun x hx => Ih.out _ (List.getElem_mem hl1) x hx
      obtain ⟨kid, hkid⟩ : ∃ x, x = ks[k] := ⟨_, rfl⟩
      rw [← hkid] at hr hI hc
      obtain ⟨l2, tv2, t2, kv2, ks2⟩ := kid
      obtain ⟨ta2, tc2, rfl, _, _⟩ := hI.inv.1.form
      obtain ⟨ka2, kc2, rfl, _, _⟩ := hI.inv.2.1.form
      obtain ⟨tn2, htn2⟩ : ∃ tn2, tn2 = t2.length := ⟨_, rfl⟩
      obtain ⟨kn2, hkn2⟩ : ∃ kn2, kn2 = ks2.length := ⟨_, rfl⟩
      rw [← htn2, ← hkn2] at hr hI hc
      change wr.rangeAt b (off + k * 3) [.bool l2, .slice ta2 tn2 tc2, .slice ka2 kn2 kc2] at hr
      change ∀ x, IsItm x _ → Calls Try.prog 18 #[.agg #[.bool l2, .slice ta2 tn2 tc2, .slice ka2 kn2 kc2]] x _ at hc
      have hbs := hbel.size
      have hbel2 : Below w.heap.size w (wr.alloc (.cells #[.bool l2, .slice ta2 tn2 tc2, .slice ka2 kn2 kc2] 25)) := hbel.alloc hbs _
      have hI2 := hI.kept ((Below.refl wr.heap.size wr).alloc (Nat.le_refl _) (.cells #[.bool l2, .slice ta2 tn2 tc2, .slice ka2 kn2 kc2] 25))
      have hB2 := hB.alloc (.cells #[.bool l2, .slice ta2 tn2 tc2, .slice ka2 kn2 kc2] 25)
      have Hc := Lib.hid hc
      clear hc hkid hI htn2 hkn2
      go_wp2_with (first
        | (refine wpList_load_mid (op := ⟨some 18, _, _, _, _, _⟩) (by rfl) 25 (.tmp 17) (by rfl) b (off + k * 3) (by rfl) [.bool l2, .slice ta2 tn2 tc2, .slice ka2 kn2 kc2] _ hr Try.underlying25 rfl (by kernel_rfl) ?_)
        | (go_at_call 18; (with_reducible refine (Hc.out _ hI2).mono ?_); rintro e w3 ⟨rfl, b3⟩; have hbel3 := Below.then hbel2 b3; have hB3 := hB2.kept b3))
      go_roundw
      case rel => exact ⟨k + 1, by omega, by go_num, hbel3, hB3⟩
      case measure => simp [intOf]; omega
    · obtain rfl : k = kn := by omega
      have k1 : wr.cell? ⟨w.heap.size, 1, none⟩ = some (.slice ta 0 tc) := hB.cell 1
      go_wp2
      go_ret
      exact ⟨rfl, hbel⟩
theorem bare_any : ∀ (n : Nat) (x : Itm) (w : World), bulkI x ≤ n → n ≤ 1000000000000 → IsItm w x → BareI x → Calls Try.prog 18 #[.agg (icells x).toArray] w (TruePost w)
  | 0, x, _, h, _, _, _ => by have := bulk_pos x; omega
  | n + 1, x, w, h, hn, hI, hb => by
    cases hb with
    | txt tv t kv =>
      obtain ⟨ka, kc, rfl, _, _⟩ := hI.inv.2.1.form
      exact bare_text tv ka kc w
    | lst tv kv ks hb =>
      obtain ⟨ta, tc, rfl, _, _⟩ := hI.inv.1.form
      obtain ⟨ka, kc, rfl, _, _⟩ := hI.inv.2.1.form
      unfold bulkI at h
      have hl := bulk_len ks
      exact bare_list ta tc ka ks.length kc ks rfl (by omega) w hI.inv.2.1 hI.inv.2.2 (fun k hk w' i => bare_any n k w' (by have := bulk_mem hk; omega) (by omega) i (hb k hk))
end Go.Proofs.Ytohenjgegkgncaa
