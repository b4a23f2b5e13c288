/- What lies there while a call makes a list of texts. -/
import Derived.Test.YtakhaanenlblmaaEncB
import Derived.Test.YtakhaanenlblmaaSplA
set_option linter.unusedSimpArgs false
set_option linter.unusedVariables false
namespace Go.Proofs.Ytakhaanenlblmaa
open Go.RowKit
structure LkW (w : World) (zs : List (TypeId × Nat × List Value)) (g9 : Nat) (kv : Value) (ks : List Itm) (u : World) : Prop where
  hb : Below w.heap.size w u
  hz : ∀ p ∈ zs, Blk p.1 u p.2.1 p.2.2 ∧ p.2.1 < g9
  hm : Blk 289 u g9 [.bool true, .slice none 0 0, kv]
  hO : OwnOf icells 3 289 u (g9 + 1) kv ks
  hF : ∀ k ∈ ks, Fp (fun x => g9 + 1 ≤ x ∧ kv.ownBlock ≠ some x) u k
  h1 : w.heap.size ≤ g9
section
variable {w : World} {zs : List (TypeId × Nat × List Value)} {g9 : Nat} {kv : Value} {ks : List Itm} {u : World}
theorem LkW.kept {u' : World} (h : LkW w zs g9 kv ks u) (hb : Below u.heap.size u u') : LkW w zs g9 kv ks u' :=
  ⟨Below.then h.hb hb, fun p hp => ⟨(h.hz p hp).1.kept hb, (h.hz p hp).2⟩, h.hm.kept hb, h.hO.kept hb, fun k hk => (h.hF k hk).to hb.size (fun x hx hl => ⟨hb.block x hl, hx⟩), h.h1⟩
theorem own_ltK {α : Type} {f : α → List Value} {size : Nat} {e : TypeId} {w : World} {B : Nat} {v : Value} {l : List α} (h : OwnOf f size e w B v l) {k : Nat} (hk : v.ownBlock = some k) : k < w.heap.size := (World.ownsRow.lt h k hk).2
theorem LkW.grew {u' : World} {kv' : Value} {it : Itm} (h : LkW w zs g9 kv ks u) (hit : Fp (fun x => g9 + 1 ≤ x ∧ kv.ownBlock ≠ some x) u it) (hg : u.grownBy u' kv.ownBlock) (hO : OwnOf icells 3 289 u' (g9 + 1) kv' (ks ++ [it]))
    (hp : ∀ k, kv'.ownBlock = some k → kv.ownBlock = some k ∨ u.heap.size ≤ k) : LkW w zs g9 kv' (ks ++ [it]) (u'.setCell ⟨g9, 2, none⟩ kv') := by
  have q1 := h.h1
  have hne : ∀ b, b ≤ g9 → kv.ownBlock ≠ some b := fun b hb e => by have := h.hO.lt b e; omega
  have hst : u'.grownBy (u'.setCell ⟨g9, 2, none⟩ kv') (some g9) := grown_cell 2 kv'
  have hall : ∀ k, Fp (fun x => g9 + 1 ≤ x ∧ kv.ownBlock ≠ some x) u k → Fp (fun x => g9 + 1 ≤ x ∧ kv'.ownBlock ≠ some x) (u'.setCell ⟨g9, 2, none⟩ kv') k := by
    intro k hk
    refine hk.to (Nat.le_trans hg.size hst.size) (fun x hx hlt => ⟨?_, hx.1, fun e => ?_⟩)
    · rw [hst.block x (Nat.lt_of_lt_of_le hlt hg.size) (by simp; omega), hg.block x hlt (fun e => hx.2 e.symm)]
    · rcases hp x e with h1 | h1
      · exact hx.2 h1
      · omega
  have hb2 := h.hb.grown hg h.hb.size (fun k hk => by have := h.hO.lt k hk; omega)
  refine ⟨hb2.setCell (by show w.heap.size ≤ g9; omega) _, fun p hp => ⟨((h.hz p hp).1.grown hg (hne _ (by have := (h.hz p hp).2; omega))).other _ (by have := (h.hz p hp).2; simp; omega) _, (h.hz p hp).2⟩, (h.hm.grown hg (hne _ (Nat.le_refl _))).set 2 kv', hO.grown hst (fun k hk e => by cases hk; have := hO.lt _ e; omega), fun k hk => ?_, h.h1⟩
  rcases List.mem_append.1 hk with hk | hk
  · exact hall k (h.hF k hk)
  · rw [List.mem_singleton] at hk; subst hk; exact hall k hit
theorem LkW.is (h : LkW w zs g9 kv ks u) : IsItm u (lst kv ks) := IsItm.lst h.hO.row (fun k hk => (h.hF k hk).is)
end
/-- a text that lies in memory made behind 'B' -/
def TxB (B : Nat) (t : List UInt8) : Ty := fun v w => Bytes w v t ∧ ∀ k, v.ownBlock = some k → B ≤ k
theorem TxB.mono (B : Nat) (t : List UInt8) : Mono (TxB B t) := fun _ _ _ ⟨h1, h2⟩ hb => ⟨RowOf.kept h1 hb, h2⟩
theorem TxB.own {B : Nat} {t : List UInt8} {v : Value} {w : World} (h : OwnOf b8 1 5 w B v t) : TxB B t v w := ⟨h.row, fun k hk => h.lt k hk⟩
theorem TxB.lower {B B' : Nat} {t : List UInt8} {v : Value} {w : World} (h : TxB B t v w) (hB : B' ≤ B) : TxB B' t v w := ⟨h.1, fun k hk => Nat.le_trans hB (h.2 k hk)⟩
theorem Bytes.onto {w u : World} {v : Value} {t : List UInt8} (h : Bytes w v t) (hu : ∀ b, v.ownBlock = some b → b < w.heap.size → u.heap[b]? = w.heap[b]?) : Bytes u v t := by
  obtain ⟨h0, a, c, rfl, h1, h2, h3⟩ := h
  refine ⟨h0, a, c, rfl, h1, h2, ?_⟩
  rcases h3 with h3 | ⟨b, off, s, rfl, hs, h3⟩
  · exact .inl h3
  · refine .inr ⟨b, off, s, rfl, hs, fun j x hx => ?_⟩
    have hc := h3 j x hx
    rw [← hc]
    exact World.cell?_of_block (w := w) (hu b rfl (World.block_lt_of_cell? w _ hc))
theorem fp_text {S : Nat → Prop} {w : World} {B : Nat} {v : Value} {t : List UInt8} (h : TxB B t v w) (hS : ∀ b, B ≤ b → S b) : Fp S w (txt v t) := by
  intro u hu
  exact .mk false v t _ [] (Bytes.onto h.1 (fun b h1 h2 => hu b (hS b (h.2 b h1)) h2)) (RowOf.nil icells 3 u) (by simp)
theorem LkW.text {w : World} {zs : List (TypeId × Nat × List Value)} {g9 : Nat} {kv : Value} {ks : List Itm} {u u' : World} {B : Nat} {v : Value} {t : List UInt8} (h : LkW w zs g9 kv ks u) (hB : u.heap.size ≤ B) (hit : TxB B t v u') : Fp (fun x => g9 + 1 ≤ x ∧ kv.ownBlock ≠ some x) u' (txt v t) := by
  have hlt := h.hm.lt
  exact fp_text hit (fun b hb => ⟨by omega, fun e => by have := own_ltK h.hO e; omega⟩)
/-- a text of the call's own, as an item; a list of one such -/
def TxtO (B : Nat) (t : List UInt8) : Ty := fun u w => ∃ a n c, u = .agg #[.bool false, .slice a n c, .slice none 0 0] ∧ TxB B t (.slice a n c) w
theorem TxtO.mono (B : Nat) (t : List UInt8) : Mono (TxtO B t) := fun _ _ _ ⟨a, n, c, h1, h2⟩ hb => ⟨a, n, c, h1, TxB.mono _ _ _ _ _ h2 hb⟩
def OneO (B : Nat) (t : List UInt8) : Ty := fun u w => ∃ g a n c, u = .slice (some ⟨g, 0, none⟩) 1 1 ∧ RowOf icells 3 w u [txt (.slice a n c) t] ∧ TxB B t (.slice a n c) w
theorem OneO.mono (B : Nat) (t : List UInt8) : Mono (OneO B t) := fun _ _ _ ⟨g, a, n, c, h1, h2, h3⟩ hb => ⟨g, a, n, c, h1, RowOf.kept h2 hb, TxB.mono _ _ _ _ _ h3 hb⟩
theorem add_block (p : Addr) (k : Nat) : (p.add k).block = p.block := by unfold Addr.add; split <;> rfl
/-- 's[lo:]' lies where s lies -/
theorem from_same {a : Option Addr} {n c : Nat} {l : List UInt8} {w : World} (h : Bytes w (.slice a n c) l) (lo : Nat) (h1 : lo ≤ n) (x : Int) (hx : x = lo) :
    ∃ a' c', (∀ k w', (Instr.slice 22 (.slice a n c) (some (.int k x)) none none).run Try.prog w' = .ok (.slice a' (n - lo) c') w') ∧ Bytes w (.slice a' (n - lo) c') (l.drop lo) ∧ ∀ k, (Value.slice a' (n - lo) c').ownBlock = some k → (Value.slice a n c).ownBlock = some k := by
  subst hx
  obtain ⟨hn, hnc, hcm⟩ := h.fits
  obtain ⟨a', c', h2, h3⟩ := h.part elU8.hf elU8.hsz lo n h1 (Nat.le_refl _)
  obtain ⟨i, hi, _, hsi, _⟩ := elU8.info
  have hel : Try.prog.elem 22 = 5 := by unfold Program.elem; rw [elU8.ht]
  refine ⟨a', c', fun k w' => ?_, by subst hn; simpa using h3, fun k hk => ?_⟩
  · rw [run_slice_l (P := Try.prog) w' (t := 22) (a := a) (len := n) (cap := c) (by rw [hel]; exact elU8.ht) k (lo : Int) (by omega) (by omega)]
    rw [hel]
    simp [sizeOf, typeInfo, hi, hsi, ← h2]
  · unfold sliced at h2
    simp only [Value.slice.injEq] at h2
    rw [← h2.1] at hk
    cases a with
    | none => simp [Value.ownBlock] at hk
    | some p =>
      by_cases hc : c = lo
      · rw [if_pos hc] at hk; exact hk
      · rw [if_neg hc] at hk
        simp only [Option.map_some, Value.ownBlock, add_block] at hk
        exact hk
set_option maxHeartbeats 400000 in
set_option maxRecDepth 100000 in
theorem pnum_fr (N : Nat) (w : World) :
    Calls Try.prog 185 #[wv N] w fun e w' => ∃ v, e = .returned v ∧ TxB w.heap.size (numB N) v w' ∧ Below w.heap.size w w' := by
  have hb0 := boxW w N
  have hbel0 : Below w.heap.size w (w.alloc (.cells (wcs N).toArray 40)) := (Below.refl _ _).alloc (Nat.le_refl _) _
  show Calls Try.prog 185 #[.agg (wcs N).toArray] w _
  go_enter Try.func185, Try.ntmps185
  go_wp2_with (first
    | (refine wpList_loadA rfl 40 (.tmp 1) rfl w.heap.size rfl aggWord hb0 (wcs_len _) ?_)
    | (go_at_call 112; refine (wbytes_any N _).mono ?_; rintro e w2 ⟨v, rfl, hv, b2⟩; obtain ⟨a, c, rfl, _⟩ := hv.form' 32 (wb_len N)))
  have hbel2 := hbel0.trans (b2.mono hbel0.size)
  have hr : Bytes w2 (.slice a 32 c) (wb N) := hv.row
  have hfr : ∀ k, (Value.slice a 32 c).ownBlock = some k → w.heap.size ≤ k := fun k hk => by have := hv.lt k hk; simp at this; omega
  have Hfr := Lib.hid hfr
  clear hbel0 b2 hv hb0 hfr
  go_loop [4, 5, 10] (fun _ _ i => ∃ k : Nat, k ≤ 32 ∧ i = .int .i64 (k : Int) ∧ numB N = bare ((wb N).drop k)) (fun _ _ i => 32 - (intOf i).toNat)
  case atStart => exact ⟨0, by omega, rfl, rfl⟩
  case round =>
    obtain ⟨k, hk, rfl, hbare⟩ := hrel
    by_cases hlt : k < 32
    · obtain ⟨b, off, rfl, hc⟩ := hr.at k (by rw [wb_len]; exact hlt)
      rw [List.drop_eq_getElem_cons (by rw [wb_len]; exact hlt)] at hbare
      obtain ⟨x, hx⟩ : ∃ x, x = (wb N)[k]'(by rw [wb_len]; exact hlt) := ⟨_, rfl⟩
      rw [← hx] at hc hbare
      have hki : (k : Int) < 32 := by omega
      by_cases h0 : x = 0
      · subst h0
        rw [bare_zero] at hbare
        have Hb := Lib.hid hbare
        clear hbare hx
        go_wp2
        go_round
        case rel => exact ⟨k + 1, by omega, by go_num, Hb.out⟩
        case measure => simp [intOf]; omega
      · have hxz := u8_nz' x h0
        rw [bare_else x _ h0, hx, ← List.drop_eq_getElem_cons] at hbare
        have Hb := Lib.hid hbare
        obtain ⟨a', c', s1, r1, f1⟩ := from_same hr k (by omega) (k : Int) rfl
        obtain ⟨m, hm⟩ : ∃ m, m = 32 - k := ⟨_, rfl⟩
        rw [← hm] at s1 r1 f1
        have hk' : k ≤ 32 := by omega
        have F1 := Lib.hid f1
        clear hbare hx hm f1
        go_wp2
        go_ret
        exact ⟨_, rfl, ⟨by rw [Hb.out]; exact r1, fun k hk => Hfr.out k (F1.out k hk)⟩, hbel2⟩
    · obtain rfl : k = 32 := by omega
      rw [List.drop_eq_nil_of_le (by rw [wb_len]; omega)] at hbare
      have hb : numB N = [] := hbare
      have Hb := Lib.hid hb
      clear hbare hb
      go_wp2
      go_ret
      exact ⟨_, rfl, ⟨by rw [Hb.out]; exact RowOf.nil _ _ _, fun k hk => by simp [Value.ownBlock] at hk⟩, hbel2⟩
end Go.Proofs.Ytakhaanenlblmaa
