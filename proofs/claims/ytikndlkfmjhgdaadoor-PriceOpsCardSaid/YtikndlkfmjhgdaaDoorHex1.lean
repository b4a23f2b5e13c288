/- hex.Print and the reference's XPrint. -/
import Derived.Test.YtikndlkfmjhgdaaDoorNibA
import Derived.Test.YtikndlkfmjhgdaaDoorBase
import Derived.Lib.SlBytesConst
import Derived.ArgAppend
import Derived.Deep.Onto
set_option linter.unusedSimpArgs false
set_option linter.unusedVariables false
namespace Go.Proofs.YtikndlkfmjhgdaaDoor
open Go.RowKit
/-- a half's letter -/
def hexd (x : UInt8) : UInt8 := if x.toNat < 10 then 48 + x else 87 + x
def hexB (x : UInt8) : List UInt8 := [hexd (x / 16), hexd (x % 16)]
def hexL (l : List UInt8) : List UInt8 := l.flatMap hexB
def printL (l : List UInt8) : List UInt8 := 48 :: 120 :: hexL l
theorem hexL_len (l : List UInt8) : (hexL l).length = 2 * l.length := by
  induction l with
  | nil => rfl
  | cons x l ih => simp [hexL, hexB] at ih ⊢; omega
theorem printL_snoc (l : List UInt8) (x : UInt8) : printL (l ++ [x]) = printL l ++ [hexd (x / 16), hexd (x % 16)] := by simp [printL, hexL, hexB]
/-- the digits -/
def digs : ByteArray := ⟨#[48, 49, 50, 51, 52, 53, 54, 55, 56, 57, 97, 98, 99, 100, 101, 102]⟩
theorem digs_at (x : UInt8) (h : x.toNat < 16) : digs[x.toNat]'(by show x.toNat < 16; exact h) = hexd x := by
  have key : ∀ n : Fin 16, digs[n.val]'(by show n.val < 16; exact n.isLt) = hexd (UInt8.ofNat n.val) := by decide
  have := key ⟨x.toNat, h⟩
  simpa using this
/-- 'append(full, src...)': the row reads as a list and has no room, the source reads as a list and is not empty. -/
theorem wpList_appG {α : Type} {f : α → List Value} {P : Program} {w : World} {ops : Array Oper} {rest : List Oper} {o : Oper} {a : Act} {Q : Exit → Act → World → Prop} (hgd : o.guard = none) (s x : Operand) (t : TypeId)
    (ho : o.op = .call { callee := .builtin .append, args := #[s, x], argTypes := #[t, t] })
    {e : TypeId} {z : Value} {size bytes : Nat} (el : El P t e z size bytes f) {B : Nat} {w0 : World}
    {ao : Option Addr} {n cap : Nat} {l m : List α} (hs : a.eval s = .slice ao n cap) (hrow1 : RowOf f size w (.slice ao n cap) l)
    {u : Value} (hx : a.eval x = u) (hrow : RowOf f size w u m) (hm0 : m.length ≠ 0) (hfull : cap < n + m.length) (hbel : Below B w0 w) (hB : B ≤ w.heap.size)
    (hbytes : (l.length + m.length) * bytes ≤ 140737488355328) (h63 : l.length + m.length ≤ maxLen)
    (h : ∀ v' w', OwnOf f size e w' B v' (l ++ m) → Below B w0 w' → w.grownBy w' none → B ≤ w'.heap.size → wpList P ops Q rest (a.put o.dst v') w') : wpList P ops Q (o :: rest) a w := by
  obtain ⟨i, hi, hz, hsi, hby⟩ := el.info
  have hadd : ∀ (b off j : Nat), (⟨b, off, none⟩ : Addr).add j = ⟨b, off + j, none⟩ := fun b off j => by unfold Addr.add; split <;> simp_all
  obtain ⟨k0, ao', c', hv', _, _, k3⟩ := hrow1
  simp only [Value.slice.injEq] at hv'
  obtain ⟨rfl, rfl, rfl⟩ := hv'
  obtain ⟨h0, ad, c, rfl, _, _, h3⟩ := hrow
  rcases h3 with ⟨_, hm, _⟩ | ⟨b, off, sp, rfl, hsp, h3⟩
  · exact absurd hm hm0
  · obtain rfl : sp = none := hsp.resolve_right hm0
    refine wpList_append_grows w hgd s x t ho e i z size bytes el.ht hi hz hsi hby el.hzs el.hsz ao l.length cap (l.flatMap f) hs ?_ k0 ?_ ⟨b, off, none⟩ m.length c (m.flatMap f) hx h0 (fun j y hy => by rw [hadd]; exact h3 j y hy) (el.one m) hfull h63 hbytes
      (fun v' w' q1 q2 => h v' w' (by unfold OwnOf; rw [List.length_append, List.flatMap_append]; exact World.ownsRow.mono q1 hB) (hbel.grown q2 hB (fun k hk => by cases hk)) q2 (Nat.le_trans hB q2.size))
    · rintro rfl
      rcases k3 with ⟨_, q1, q2⟩ | ⟨b2, off2, sp2, q, _⟩
      · exact ⟨q1, q2⟩
      · cases q
    · rintro b1 rfl j u hu
      rcases k3 with ⟨q, _, _⟩ | ⟨b2, off2, sp2, q, hsp2, q3⟩
      · cases q
      · cases q
        have : sp2 = none := by
          rcases hsp2 with rfl | hl0
          · rfl
          · have : l = [] := List.eq_nil_of_length_eq_zero hl0
            subst this; simp at hu
        subst this
        rw [hadd]; exact q3 j u hu
end Go.Proofs.YtikndlkfmjhgdaaDoor
