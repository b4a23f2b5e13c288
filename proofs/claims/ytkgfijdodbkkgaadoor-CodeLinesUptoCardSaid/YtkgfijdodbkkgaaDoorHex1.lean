/- hex.Print and the reference's XPrint. -/
import Derived.Test.YtkgfijdodbkkgaaDoorNibA
import Derived.Test.YtkgfijdodbkkgaaDoorBase
import Derived.Lib.SlBytesConst
import Derived.ArgAppend
import Derived.Deep.Onto
set_option linter.unusedSimpArgs false
set_option linter.unusedVariables false
namespace Go.Proofs.YtkgfijdodbkkgaaDoor
open Go.RowKit
/-- a half's letter -/
def hexd (x : UInt8) : UInt8 := if x.toNat < 10 then 48 + x else 87 + x
def hexB (x : UInt8) : List UInt8 := [hexd (x / 16), hexd (x % 16)]
def hexL (l : List UInt8) : List UInt8 := l.flatMap hexB
def printL (l : List UInt8) : List UInt8 := 48 :: 120 :: hexL l
theorem hexL_len (l : List UInt8) : (hexL l).length = 2 * l.length := by
  induction l with
  | nil => rfl
  | cons x l ih => simp [hexL, hexB] at ih ⊢; omega
theorem printL_snoc (l : List UInt8) (x : UInt8) : printL (l ++ [x]) = printL l ++ [hexd (x / 16), hexd (x % 16)] := by simp [printL, hexL, hexB]
/-- the digits -/
def digs : ByteArray := ⟨#[48, 49, 50, 51, 52, 53, 54, 55, 56, 57, 97, 98, 99, 100, 101, 102]⟩
theorem digs_at (x : UInt8) (h : x.toNat < 16) : digs[x.toNat]'(by show x.toNat < 16; exact h) = hexd x := by
  have key : ∀ n : Fin 16, digs[n.val]'(by show n.val < 16; exact n.isLt) = hexd (UInt8.ofNat n.val) := by decide
  have := key ⟨x.toNat, h⟩
  simpa using this
/-- 'append(full, src...)': the row reads as a list and has no room, the source reads as a list and is not empty. -/
theorem wpList_appG {α : Type} {f : α → List Value} {P : Program} {w : World} {ops : Array Oper} {rest : List Oper} {o : Oper} {a : Act} {Q : Exit → Act → World → Prop} (hgd : o.guard = none) (s x : Operand) (t : TypeId)
    (ho : o.op = .call { callee := .builtin .append, args := #[s, x], argTypes := #[t, t] })
    {e : TypeId} {z : Value} {size bytes : Nat} (el : El P t e z size bytes f) {B : Nat} {w0 : World}
    {ao : Option Addr} {n cap : Nat} {l m : List α} (hs : a.eval s = .slice ao n cap) (hrow1 : RowOf f size w (.slice ao n cap) l)
    {u : Value} (hx : a.eval x = u) (hrow : RowOf f size w u m) (hm0 : m.length ≠ 0) (hfull : cap < n + m.length) (hbel : Below B w0 w) (hB : B ≤ w.heap.size)
    (hbytes : (l.length + m.length) * bytes ≤ 140737488355328) (h63 : l.length + m.length ≤ maxLen)
    (h : ∀ v' w', OwnOf f size e w' B v' (l ++ m) → Below B w0 w' → w.grownBy w' none → B ≤ w'.heap.size → wpList P ops Q rest (a.put o.dst v') w') : wpList P ops Q (o :: rest) a w := by
  obtain ⟨i, hi, hz, hsi, hby⟩ := el.info
  have hadd : ∀ (b off j : Nat), (⟨b, off, none⟩ : Addr).add j = ⟨b, off + j, none⟩ := fun b off j => by unfold Addr.add; split <;> simp_all
  obtain ⟨k0, ao', c', hv', _, _, k3⟩ := hrow1
  simp only [Value.slice.injEq] at hv'
  obtain ⟨rfl, rfl, rfl⟩ := hv'
  obtain ⟨h0, ad, c, rfl, _, _, h3⟩ := hrow
  rcases h3 with ⟨_, hm, _⟩ | ⟨b, off, sp, rfl, hsp, h3⟩
  · exact absurd hm hm0
  · obtain rfl : sp = none := hsp.resolve_right hm0
    refine wpList_append_grows w hgd s x t ho e i z size bytes el.ht hi hz hsi hby el.hzs el.hsz ao l.length cap (l.flatMap f) hs ?_ k0 ?_ ⟨b, off, none⟩ m.length c (m.flatMap f) hx h0 (fun j y hy => by rw [hadd]; exact h3 j y hy) (el.one m) hfull h63 hbytes
      (fun v' w' q1 q2 => h v' w' (by unfold OwnOf; rw [List.length_append, List.flatMap_append]; exact World.ownsRow.mono q1 hB) (hbel.grown q2 hB (fun k hk => by cases hk)) q2 (Nat.le_trans hB q2.size))
    · rintro rfl
      rcases k3 with ⟨_, q1, q2⟩ | ⟨b2, off2, sp2, q, _⟩
      · exact ⟨q1, q2⟩
      · cases q
    · rintro b1 rfl j u hu
      rcases k3 with ⟨q, _, _⟩ | ⟨b2, off2, sp2, q, hsp2, q3⟩
      · cases q
      · cases q
        have : sp2 = none := by
          rcases hsp2 with rfl | hl0
          · rfl
          · have : l = [] := List.eq_nil_of_length_eq_zero hl0
            subst this; simp at hu
        subst this
        rw [hadd]; exact q3 j u hu
set_option maxHeartbeats 400000 in
set_option maxRecDepth 100000 in
theorem print_any (a : Option Addr) (c : Nat) (l : List UInt8) (w : World) (h : Bytes w (.slice a l.length c) l) (hl : 2 * l.length + 2 ≤ 140737488355328) :
    Calls Tryd.prog 26 #[.slice a l.length c] w fun e w' => e = .returned (str (printL l)) ∧ Below w.heap.size w w' := by
  have hcv : (convert 22 22 (.slice (some ⟨w.heap.size, 0, none⟩) 2 2)).run Tryd.prog (w.alloc (.cells #[.int .u8 48, .int .u8 120] 5)) = .ok (.slice (some ⟨w.heap.size, 0, none⟩) 2 2) (w.alloc (.cells #[.int .u8 48, .int .u8 120] 5 (2, 3))) :=
    Lib.run_convert_bytes_const (P := Tryd.prog) w 22 5 #[.int .u8 48, .int .u8 120] 2 2 (by kernel_rfl) (by kernel_rfl)
  have hr0 : Bytes (w.alloc (.cells #[.int .u8 48, .int .u8 120] 5 (2, 3))) (.slice (some ⟨w.heap.size, 0, none⟩) 2 2) (printL []) := by
    refine ⟨rfl, _, _, rfl, Nat.le_refl _, by unfold maxLen; omega, .inr ⟨w.heap.size, 0, none, rfl, .inl rfl, fun j u hu => ?_⟩⟩
    rw [Nat.zero_add]
    have hg : (w.alloc (.cells #[.int .u8 48, .int .u8 120] 5 (2, 3))).heap[w.heap.size]? = some (.cells #[.int .u8 48, .int .u8 120] 5 (2, 3)) := heap_alloc_new w _
    rw [cell_of_row _ _ j _ _ (2, 3) hg]
    change ([Value.int .u8 48, .int .u8 120] : List Value)[j]? = some u at hu
    simpa using hu
  have hbel0 : Below w.heap.size w (w.alloc (.cells #[.int .u8 48, .int .u8 120] 5 (2, 3))) := (Below.refl _ _).alloc (Nat.le_refl _) _
  go_enter Tryd.func26, Tryd.ntmps26
  go_wp2
  go_loopw [3, 5, 10] (fun v _ i wr => ∃ k : Nat, k ≤ l.length ∧ i = .int .i64 (k : Int) ∧ Bytes wr v (printL (l.take k)) ∧ (OwnOf b8 1 5 wr w.heap.size v (printL (l.take k)) ∨ (k = 0 ∧ ∃ a, v = .slice a 2 2)) ∧ Below w.heap.size w wr ∧ w.heap.size ≤ wr.heap.size) (fun _ _ i _ => l.length - (intOf i).toNat)
  case atStart => exact ⟨0, Nat.zero_le _, rfl, hr0, .inr ⟨rfl, _, rfl⟩, hbel0, by simp⟩
  case round =>
    clear hcv hr0 hbel0
    obtain ⟨k, hk, rfl, hrow, hown, hbel, hB⟩ := hrel
    by_cases hlt : k < l.length
    · obtain ⟨b, off, rfl, hbl, hc⟩ := h.later hbel k hlt
      have hsn : printL (l.take (k + 1)) = printL (l.take k) ++ [hexd (l[k] / 16), hexd (l[k] % 16)] := by rw [snoc_at l k hlt, printL_snoc]
      obtain ⟨x, hx⟩ : ∃ x, x = l[k] := ⟨_, rfl⟩
      rw [← hx] at hc hsn
      have hx8 := u8_lt x
      have hpl : (printL (l.take k)).length = 2 * k + 2 := by
        have := hexL_len (l.take k)
        rw [List.length_take] at this
        simp [printL]; omega
      obtain ⟨y, hy⟩ : ∃ y, y = x / 16 := ⟨_, rfl⟩
      obtain ⟨z, hz⟩ : ∃ z, z = x % 16 := ⟨_, rfl⟩
      have hy16 : y.toNat < 16 := by rw [hy, UInt8.toNat_div, show (16 : UInt8).toNat = 16 from rfl]; omega
      have hz16 : z.toNat < 16 := by rw [hz, UInt8.toNat_mod, show (16 : UInt8).toNat = 16 from rfl]; omega
      have ey : (x.toNat : Int) / 16 = (y.toNat : Int) := by rw [hy, div_u8_16]
      have ez : bits .and .u8 (x.toNat : Int) 15 = (z.toNat : Int) := by rw [hz, bits_u8_15]
      rw [← hy, ← hz] at hsn
      have dy : (⟨#[48, 49, 50, 51, 52, 53, 54, 55, 56, 57, 97, 98, 99, 100, 101, 102]⟩ : ByteArray)[y.toNat]'(by show y.toNat < 16; exact hy16) = hexd y := digs_at y hy16
      have dz : (⟨#[48, 49, 50, 51, 52, 53, 54, 55, 56, 57, 97, 98, 99, 100, 101, 102]⟩ : ByteArray)[z.toNat]'(by show z.toNat < 16; exact hz16) = hexd z := digs_at z hz16
      have hyi : (y.toNat : Int) < 16 := by omega
      have hzi : (z.toNat : Int) < 16 := by omega
      have Hpl := Lib.hid hpl
      have Hsn := Lib.hid hsn
      clear hpl hsn hy hz hx
      go_wp2
      refine wp_region_typed wr 8 (by kernel_rfl) (by kernel_rfl) (Below.refl _ _) ?_; simp only [List.take_succ_cons, List.take_zero, List.take_nil]
      iterate 7 (refine wpX_step (by rfl) (fun K hK => ?_); go_simp; first | (refine hK _ ?_; clear hK K) | (apply Exists.intro; refine ⟨fun _ => ?_, hK _ ?_⟩; fail; clear hK K))
      refine wpX_rel 21 (fun v w1 => ∃ b, v = .slice (some ⟨b, 0, none⟩) 2 2 ∧ w.heap.size ≤ b ∧ Bytes w1 v [hexd y, hexd z]) rfl (of_decide_eq_true rfl) (fun v w1 w2 ⟨b, hv, hb, h1⟩ h2 => ⟨b, hv, hb, RowOf.kept h1 h2⟩) (fun w1 hw1 => ?_) ?_
      · change forallRel w1 [] _ _
        simp only [forallRel]
        refine ⟨rfl, ?_⟩
        go_simp
        exact ⟨(Below.refl _ _).alloc (Nat.le_refl _) _, Nat.le_trans hB hw1.size, RowOf.made b8 1 _ [hexd y, hexd z] _ _ 2 rfl rfl rfl (by decide)⟩
      refine wpX_nil ?_
      intro w1 hw1 v21 h21
      change wpList _ _ _ [_, _] _ _
      obtain ⟨g, rfl, hgb, hm⟩ := h21
      have hbel1 := hbel.trans (hw1.mono hB)
      have hB1 := Nat.le_trans hB hw1.size
      rcases hown with hown | ⟨rfl, a2, rfl⟩
      · have hown1 := hown.kept hw1
        go_wp2_with (at_builtin; (refine wpList_app rfl (.tmp 14) (.tmp 21) 22 rfl elU8 rfl hown1 rfl hm hbel1 hB1 (by rw [Hpl.out]; simp; omega) (by rw [Hpl.out]; simp [maxLen]; omega) ?_; intro v4 w4 hv4 hg4 _ hB4))
        rw [← Hsn.out] at hv4
        go_roundw
        case rel => exact ⟨k + 1, by omega, by go_num, hv4.row, .inl hv4, hg4, hB4⟩
        case measure => simp [intOf]; omega
      · have hrow1 := RowOf.kept hrow hw1
        go_wp2_with (at_builtin; (refine wpList_appG rfl (.tmp 14) (.tmp 21) 22 rfl elU8 rfl hrow1 rfl hm (by simp) (by simp) hbel1 hB1 (by rw [Hpl.out]; simp) (by rw [Hpl.out]; simp [maxLen]) ?_; intro v4 w4 hv4 hg4 _ hB4))
        rw [← Hsn.out] at hv4
        go_roundw
        case rel => exact ⟨0 + 1, by omega, by go_num, hv4.row, .inl hv4, hg4, hB4⟩
        case measure => simp [intOf]; omega
    · obtain rfl : k = l.length := by omega
      rw [List.take_of_length_le (Nat.le_refl _)] at hrow
      have hc := run_str (P := Tryd.prog) (w := wr) (src := 22) (dst := 9) elU8.ht (by kernel_rfl) (by kernel_rfl) hrow
      go_wp2
      go_ret
      exact ⟨rfl, hbel⟩
end Go.Proofs.YtkgfijdodbkkgaaDoor
