/- What reading lists of texts needs; a list of texts in the making; parts of blocks. -/
import Derived.Test.YtakhaanenlblmaaLits
import Derived.Test.YtakhaanenlblmaaEncB
import Derived.Test.YtakhaanenlblmaaCanon
import Derived.Test.YtakhaanenlblmaaOpenA
import Derived.Test.YtakhaanenlblmaaKids
import Derived.Test.YtakhaanenlblmaaKid0
set_option linter.unusedSimpArgs false
set_option linter.unusedVariables false
namespace Go.Proofs.Ytakhaanenlblmaa
open Go.RowKit
/-- the parts -/
theorem mid_drop {α : Type} (a b c : List α) (n m : Nat) (hn : a.length = n) (hm : b.length = m) : ((a ++ (b ++ c)).drop n).take m = b := by
  rw [List.drop_left' hn, List.take_left' hm]
theorem end_drop {α : Type} (a b : List α) (n m : Nat) (hn : a.length = n) (hm : b.length = m) : ((a ++ b).drop n).take m = b := by
  rw [List.drop_left' hn, List.take_of_length_le (by omega)]
theorem lsB_enc (ts : List (List UInt8)) : lsB ts = encP (.lst (ts.map .txt)) := by
  have : ∀ ts : List (List UInt8), ts.flatMap textB = encPL (ts.map .txt) := by
    intro ts
    induction ts with
    | nil => rfl
    | cons t ts ih => rw [List.flatMap_cons, List.map_cons, encPL, ih]; rfl
  unfold lsB
  rw [encP, this]
theorem textB_len (t : List UInt8) : (textB t).length ≤ t.length + 9 ∨ 18446744073709551616 ≤ t.length := by
  by_cases h64 : t.length < 18446744073709551616
  · left
    unfold textB
    split
    · omega
    · unfold headB
      rw [List.length_append]
      split
      · rw [List.length_cons, List.length_nil]; omega
      · have := numB_8 t.length h64
        rw [List.length_cons]; omega
  · right; omega
theorem textB_short {t : List UInt8} (h : t.length ≤ 32) : (textB t).length ≤ 41 := by
  rcases textB_len t with h1 | h1 <;> omega
theorem flat_short : ∀ (ts : List (List UInt8)), (∀ t ∈ ts, t.length ≤ 32) → (ts.flatMap textB).length ≤ 41 * ts.length
  | [], _ => by simp
  | t :: ts, h => by
    rw [List.flatMap_cons, List.length_append, List.length_cons]
    have h1 := textB_short (h t List.mem_cons_self)
    have h2 := flat_short ts (fun x hx => h x (List.mem_cons_of_mem _ hx))
    omega
theorem txt_inj : ∀ {a b : List (List UInt8)}, a.map Pit.txt = b.map Pit.txt → a = b
  | [], [], _ => rfl
  | [], _ :: _, h => by simp at h
  | _ :: _, [], h => by simp at h
  | x :: a, y :: b, h => by
    simp only [List.map_cons, List.cons.injEq, Pit.txt.injEq] at h
    rw [h.1, txt_inj h.2]
theorem numB_inj {x y : Nat} (hx : x < 18446744073709551616) (hy : y < 18446744073709551616) (h : numB x = numB y) : x = y := by
  rw [← numB_num x (by unfold W256; omega), ← numB_num y (by unfold W256; omega), h]
/-- 'copy' into noughts -/
def cpy (n : Nat) (t : List UInt8) : List UInt8 := t.take n ++ List.replicate (n - t.length) 0
theorem cpy_len (n : Nat) (t : List UInt8) : (cpy n t).length = n := by unfold cpy; simp; omega
theorem cpy_full {n : Nat} {t : List UInt8} (h : t.length = n) : cpy n t = t := by unfold cpy; rw [List.take_of_length_le (by omega), h, Nat.sub_self]; simp
def nfP (t : List UInt8) : Nat := lim (numV t) 0
def nfR (t : List UInt8) : Nat := lim (numL (last32 t)) 0
theorem lim_small {x : Nat} (h : x < 18446744073709551616) : lim x 0 = x := by unfold lim; simp; exact h
theorem nfP_num : ∀ x < 18446744073709551616, nfP (numB x) = x := by
  intro x hx
  unfold nfP
  have h8 := numB_8 x hx
  have hok : okNum (numB x) = true := by
    unfold okNum
    have := bare_head (wb x)
    simp only [Bool.and_eq_true, decide_eq_true_eq, Bool.not_eq_true', beq_eq_false_iff_ne]
    exact ⟨by omega, this⟩
  unfold numV
  rw [if_pos hok, numB_num x (by unfold W256; omega), lim_small hx]
theorem nfR_num : ∀ x < 18446744073709551616, nfR (numB x) = x := by
  intro x hx
  unfold nfR
  have h8 := numB_8 x hx
  rw [last_small _ (by omega), numB_num x (by unfold W256; omega), lim_small hx]
structure LkV (w : World) (zs : List (TypeId × Nat × List Value)) (B g9 : Nat) (kv : Value) (ks : List Itm) (u : World) : Prop where
  hb : Below w.heap.size w u
  hz : ∀ p ∈ zs, Blk p.1 u p.2.1 p.2.2 ∧ p.2.1 < B
  hm : Blk 289 u g9 [.bool true, .slice none 0 0, kv]
  hO : OwnOf icells 3 289 u B kv ks
  hn : kv.ownBlock ≠ some g9
  hF : ∀ k ∈ ks, Fp (fun x => x ≠ g9 ∧ kv.ownBlock ≠ some x) u k
  h1 : w.heap.size ≤ B
  h2 : B ≤ g9
section
variable {w : World} {zs : List (TypeId × Nat × List Value)} {B g9 : Nat} {kv : Value} {ks : List Itm} {u : World}
theorem LkV.kept {u' : World} (h : LkV w zs B g9 kv ks u) (hb : Below u.heap.size u u') : LkV w zs B g9 kv ks u' :=
  ⟨Below.then h.hb hb, fun p hp => ⟨(h.hz p hp).1.kept hb, (h.hz p hp).2⟩, h.hm.kept hb, h.hO.kept hb, h.hn, fun k hk => (h.hF k hk).to hb.size (fun x hx hl => ⟨hb.block x hl, hx⟩), h.h1, h.h2⟩
theorem LkV.grew {u' : World} {kv' : Value} {it : Itm} (h : LkV w zs B g9 kv ks u) (hit : Fp (fun x => x ≠ g9 ∧ kv.ownBlock ≠ some x) u it) (hg : u.grownBy u' kv.ownBlock) (hO : OwnOf icells 3 289 u' B kv' (ks ++ [it]))
    (hp : ∀ k, kv'.ownBlock = some k → kv.ownBlock = some k ∨ u.heap.size ≤ k) : LkV w zs B g9 kv' (ks ++ [it]) (u'.setCell ⟨g9, 2, none⟩ kv') := by
  have q1 := h.h1
  have q2 := h.h2
  have hl9 := h.hm.lt
  have hst : u'.grownBy (u'.setCell ⟨g9, 2, none⟩ kv') (some g9) := grown_cell 2 kv'
  have hn' : kv'.ownBlock ≠ some g9 := fun e => by
    rcases hp _ e with h1 | h1
    · exact h.hn h1
    · omega
  have hall : ∀ k, Fp (fun x => x ≠ g9 ∧ kv.ownBlock ≠ some x) u k → Fp (fun x => x ≠ g9 ∧ kv'.ownBlock ≠ some x) (u'.setCell ⟨g9, 2, none⟩ kv') k := by
    intro k hk
    refine hk.to (Nat.le_trans hg.size hst.size) (fun x hx hlt => ⟨?_, hx.1, fun e => ?_⟩)
    · have hx1 := hx.1
      rw [hst.block x (Nat.lt_of_lt_of_le hlt hg.size) (by simp; omega), hg.block x hlt (fun e => hx.2 e.symm)]
    · rcases hp x e with h1 | h1
      · exact hx.2 h1
      · omega
  have hb2 := h.hb.grown hg h.hb.size (fun k hk => by have := h.hO.lt k hk; omega)
  have hne : ∀ b, b < B → kv.ownBlock ≠ some b := fun b hb e => by have := h.hO.lt b e; omega
  refine ⟨hb2.setCell (by show w.heap.size ≤ g9; omega) _, fun p hp => ⟨((h.hz p hp).1.grown hg (hne _ (h.hz p hp).2)).other _ (by have := (h.hz p hp).2; simp; omega) _, (h.hz p hp).2⟩, (h.hm.grown hg h.hn).set 2 kv', hO.grown hst (fun k hk e => by cases hk; exact hn' e), hn', fun k hk => ?_, q1, q2⟩
  rcases List.mem_append.1 hk with hk | hk
  · exact hall k (h.hF k hk)
  · rw [List.mem_singleton] at hk; subst hk; exact hall k hit
/-- .. by several -/
theorem LkV.growL {u' : World} {kv' : Value} {its : List Itm} (h : LkV w zs B g9 kv ks u) (hit : ∀ it ∈ its, Fp (fun x => x ≠ g9 ∧ kv.ownBlock ≠ some x) u it) (hg : u.grownBy u' kv.ownBlock) (hO : OwnOf icells 3 289 u' B kv' (ks ++ its))
    (hp : ∀ k, kv'.ownBlock = some k → kv.ownBlock = some k ∨ u.heap.size ≤ k) : LkV w zs B g9 kv' (ks ++ its) (u'.setCell ⟨g9, 2, none⟩ kv') := by
  have q1 := h.h1
  have q2 := h.h2
  have hl9 := h.hm.lt
  have hst : u'.grownBy (u'.setCell ⟨g9, 2, none⟩ kv') (some g9) := grown_cell 2 kv'
  have hn' : kv'.ownBlock ≠ some g9 := fun e => by
    rcases hp _ e with h1 | h1
    · exact h.hn h1
    · omega
  have hall : ∀ k, Fp (fun x => x ≠ g9 ∧ kv.ownBlock ≠ some x) u k → Fp (fun x => x ≠ g9 ∧ kv'.ownBlock ≠ some x) (u'.setCell ⟨g9, 2, none⟩ kv') k := by
    intro k hk
    refine hk.to (Nat.le_trans hg.size hst.size) (fun x hx hlt => ⟨?_, hx.1, fun e => ?_⟩)
    · have hx1 := hx.1
      rw [hst.block x (Nat.lt_of_lt_of_le hlt hg.size) (by simp; omega), hg.block x hlt (fun e => hx.2 e.symm)]
    · rcases hp x e with h1 | h1
      · exact hx.2 h1
      · omega
  have hb2 := h.hb.grown hg h.hb.size (fun k hk => by have := h.hO.lt k hk; omega)
  have hne : ∀ b, b < B → kv.ownBlock ≠ some b := fun b hb e => by have := h.hO.lt b e; omega
  refine ⟨hb2.setCell (by show w.heap.size ≤ g9; omega) _, fun p hp => ⟨((h.hz p hp).1.grown hg (hne _ (h.hz p hp).2)).other _ (by have := (h.hz p hp).2; simp; omega) _, (h.hz p hp).2⟩, (h.hm.grown hg h.hn).set 2 kv', hO.grown hst (fun k hk e => by cases hk; exact hn' e), hn', fun k hk => ?_, q1, q2⟩
  rcases List.mem_append.1 hk with hk | hk
  · exact hall k (h.hF k hk)
  · exact hall k (hit k hk)
theorem LkV.is (h : LkV w zs B g9 kv ks u) : IsItm u (lst kv ks) := IsItm.lst h.hO.row (fun k hk => (h.hF k hk).is)
theorem fp_at {S : Nat → Prop} {w : World} {v : Value} {t : List UInt8} (h : Bytes w v t) (hS : ∀ b, v.ownBlock = some b → S b) : Fp S w (txt v t) := by
  intro u hu
  exact .mk false v t _ [] (Bytes.onto h (fun b h1 h2 => hu b (hS b h1) h2)) (RowOf.nil icells 3 u) (by simp)
/-- a text made since -/
theorem LkV.text {u' : World} {v : Value} {t : List UInt8} (h : LkV w zs B g9 kv ks u) {B' : Nat} (hB : u.heap.size ≤ B') (hit : TxB B' t v u') : Fp (fun x => x ≠ g9 ∧ kv.ownBlock ≠ some x) u' (txt v t) := by
  have hlt := h.hm.lt
  exact fp_text hit (fun b hb => ⟨by omega, fun e => by have := own_ltK h.hO e; omega⟩)
/-- a text that lies below -/
theorem LkV.low {u' : World} {v : Value} {t : List UInt8} (h : LkV w zs B g9 kv ks u) (hit : Bytes u' v t) (hlow : ∀ b, v.ownBlock = some b → b < B) : Fp (fun x => x ≠ g9 ∧ kv.ownBlock ≠ some x) u' (txt v t) := by
  have h2 := h.h2
  exact fp_at hit (fun b hb => ⟨by have := hlow b hb; omega, fun e => by have := h.hO.lt b e; have := hlow b hb; omega⟩)
end
/-- a part of a block, as bytes -/
theorem Blk.bytesAt {e : TypeId} {w : World} {g : Nat} {cs : List Value} (hb : Blk e w g cs) (off n : Nat) (t : List UInt8) (ht : (cs.drop off).take n = by8 t) (hl : t.length = n) (hn : n ≤ maxLen) : Bytes w (.slice (some ⟨g, off, none⟩) n n) t := by
  subst hl
  refine ⟨flat_len (f := b8) (size := 1) (fun _ => rfl) t, _, _, rfl, Nat.le_refl _, hn, .inr ⟨g, off, none, rfl, .inl rfl, fun j u hu => ?_⟩⟩
  rw [flat_b8] at hu
  have hj : j < t.length := by have := (List.getElem?_eq_some_iff.1 hu).1; simpa using this
  rw [hb.cell]
  have : (by8 t)[j]? = some u := hu
  rw [← ht, List.getElem?_take_of_lt hj, List.getElem?_drop] at this
  exact this
theorem run_part_at {P : Program} {e : TypeId} (ha : ∀ w, (isAgg e).run P w = .ok false w) {cs : Array Value} {k : Nat} {v : Value} (h : cs[k]? = some v) (w : World) : (part e cs k).run P w = .ok v w := by
  unfold part
  simp [ha, h]
/-- 'a[i]' of an array of plain values -/
theorem run_index_at {P : Program} {t e : TypeId} {n : Nat} (ht : P.underlying t = some (.array n e)) (hs : (P.info? e).map (·.size) = some 1) (ha : ∀ w, (isAgg e).run P w = .ok false w) (cs : Array Value) (k : Nat) (hk : k < n) {v : Value} (h : cs[k]? = some v) (w : World) (ik : IntKind) :
    (Instr.index t (.agg cs) (.int ik (k : Int))).run P w = .ok v w := run_index_agg ht hs cs k hk w ik (run_part_at ha h w)
theorem sl32 (g off : Nat) (w : World) : (Instr.sliceAt 69 (.pointer (some ⟨g, off, none⟩)) none none none).run Try.prog w = .ok (.slice (some ⟨g, off, none⟩) 32 32) w := by
  rw [run_sliceAt_array_all w 69 ⟨g, off, none⟩ (by kernel_rfl)]
  have e1 : Try.prog.arrayLen 69 = 32 := by kernel_rfl
  have hs : (Try.prog.info? (Try.prog.elem 69)).map (·.size) = some 1 := by kernel_rfl
  cases hq : Try.prog.info? (Try.prog.elem 69) with
  | none => simp [hq] at hs
  | some q =>
    have hs1 : q.size = 1 := by simpa [hq] using hs
    simp [sizeOf, typeInfo, hq, hs1, e1, slicedAt, Addr.add]
theorem sl8 (g off : Nat) (w : World) : (Instr.sliceAt 46 (.pointer (some ⟨g, off, none⟩)) none none none).run Try.prog w = .ok (.slice (some ⟨g, off, none⟩) 8 8) w := by
  rw [run_sliceAt_array_all w 46 ⟨g, off, none⟩ (by kernel_rfl)]
  have e1 : Try.prog.arrayLen 46 = 8 := by kernel_rfl
  have hs : (Try.prog.info? (Try.prog.elem 46)).map (·.size) = some 1 := by kernel_rfl
  cases hq : Try.prog.info? (Try.prog.elem 46) with
  | none => simp [hq] at hs
  | some q =>
    have hs1 : q.size = 1 := by simpa [hq] using hs
    simp [sizeOf, typeInfo, hq, hs1, e1, slicedAt, Addr.add]
theorem txts_snoc' (ps : List (Value × List UInt8)) (p : Value × List UInt8) : txts (ps ++ [p]) = txts ps ++ [txt p.1 p.2] := by unfold txts; rw [List.map_append]; rfl
/-- a list of one item -/
def OneC (v : Value) (t : List UInt8) : Ty := fun u w => ∃ g, u = .slice (some ⟨g, 0, none⟩) 1 1 ∧ RowOf icells 3 w u [txt v t]
theorem OneC.mono (v : Value) (t : List UInt8) : Mono (OneC v t) := fun _ _ _ ⟨g, h1, h2⟩ hb => ⟨g, h1, RowOf.kept h2 hb⟩
theorem by8_take (n : Nat) (m : List UInt8) : by8 (m.take n) = (by8 m).take n := by unfold by8; rw [List.map_take]
/-- 'copy(own[off:off+n], src)': as much as fits -/
theorem wpList_copyMin {P : Program} {w : World} {ops : Array Oper} {rest : List Oper} {o : Oper} {a : Act} {Q : Exit → Act → World → Prop} (hgd : o.guard = none) (d s : Operand) (dT sT : TypeId)
    (ho : o.op = .call { callee := .builtin .copy, args := #[d, s], argTypes := #[dT, sT] }) {e t : TypeId} {z : Value} {bytes : Nat} (el : El P dT t z 1 bytes b8)
    (g off dLen dCap : Nat) (hd : a.eval d = .slice (some ⟨g, off, none⟩) dLen dCap) (u : Value) (m : List UInt8) (hs : a.eval s = u) (hrow : Bytes w u m)
    (cur : List Value) (hg : Blk e w g cur) (hfit : off + dLen ≤ cur.length)
    (h : ∀ w', Blk e w' g (splice cur off (by8 (m.take dLen))) → Below g w w' → wpList P ops Q rest (a.put o.dst (goInt (m.take dLen).length)) w') :
    wpList P ops Q (o :: rest) a w := by
  obtain ⟨i, hi, hz, hsi, hby⟩ := el.info
  obtain ⟨h0, ad, c, rfl, _, _, h3⟩ := hrow
  have hl : (by8 (m.take dLen)).length = Nat.min m.length dLen := by rw [by8_len, List.length_take]; exact Nat.min_comm _ _
  have hle : (by8 (m.take dLen)).length ≤ dLen := by rw [hl]; exact Nat.min_le_right _ _
  have hle2 : (by8 (m.take dLen)).length ≤ m.length := by rw [hl]; exact Nat.min_le_left _ _
  refine wpList_copy_splice hgd d s dT sT ho t el.ht (by rw [hi]; simp [hsi]) _ ad dLen dCap m.length c hd hs g off cur e hg (by8 (m.take dLen)) hl ?_ (by omega) ?_ g w (Below.refl _ _) (Nat.le_refl _) ?_
  · intro hpos
    rcases h3 with ⟨_, hm, _⟩ | ⟨b, o2, sp, rfl, hsp, h3⟩
    · rw [hl, hm] at hpos; simp at hpos
    · obtain rfl : sp = none := hsp.resolve_right (by omega)
      refine ⟨rfl, _, rfl, fun j v hv => ?_⟩
      have hadd : (⟨b, o2, none⟩ : Addr).add j = ⟨b, o2 + j, none⟩ := by unfold Addr.add; split <;> simp_all
      rw [hadd]
      refine h3 j v ?_
      rw [flat_b8]
      have hj : j < dLen := by
        have := (List.getElem?_eq_some_iff.1 hv).1
        omega
      rw [by8_take, List.getElem?_take_of_lt hj] at hv
      exact hv
  · intro u hu
    obtain ⟨x, _, rfl⟩ := List.mem_map.1 hu
    rfl
  · rw [by8_len]
    exact fun w' h1 h2 => h w' h1.out h2
theorem splice_at (A C : List Value) (X t : List UInt8) (off n : Nat) (hA : A.length = off) (hX : X = zeroB n) : splice (A ++ (by8 X ++ C)) off (by8 (t.take n)) = A ++ (by8 (cpy n t) ++ C) := by
  subst hX
  have hl : (by8 (t.take n)).length = min n t.length := by rw [by8_len, List.length_take]
  have hz : (by8 (zeroB n)).length = n := by rw [by8_len]; unfold zeroB; simp
  unfold splice
  rw [List.take_left' hA, ← List.drop_drop, List.drop_left' hA, List.drop_append_of_le_length (by omega), hl]
  have : (by8 (zeroB n)).drop (min n t.length) = by8 (List.replicate (n - t.length) 0) := by
    unfold by8 zeroB
    rw [← List.map_drop, List.drop_replicate]
    congr 2
    omega
  rw [this]
  unfold cpy by8
  rw [List.map_append]
  simp only [List.append_assoc]
theorem zeroB_len (n : Nat) : (zeroB n).length = n := by unfold zeroB; simp
theorem dec_read {p : Pit} (h : (encP p).length < 18446744073709551616) : dec (encP p) = some p := by
  have h1 := par_read (encP p).length p [] (Nat.le_refl _) h
  rw [List.append_nil] at h1
  unfold dec
  rw [h1]
theorem kidT_txts (ts : List (List UInt8)) : kidT (.lst (ts.map .txt)) = ts := by
  show (ts.map Pit.txt).map pitT = ts
  rw [List.map_map]
  exact List.map_id' ts
theorem nfP_lt (t : List UInt8) : nfP t < 18446744073709551616 := by unfold nfP lim; omega
theorem nfR_lt (t : List UInt8) : nfR t < 18446744073709551616 := by unfold nfR lim; omega
theorem decE_01 (b : List UInt8) (h : decE b ≠ 0) : decE b = 1 := by
  unfold decE at h ⊢
  split at h
  · exact absurd rfl h
  · rename_i hn; rw [if_neg hn]
/-- the text of a kid -/
theorem kid_text {w1 : World} {ka : Option Addr} {n kc : Nat} {ks : List Itm} (hrow : RowOf icells 3 w1 (.slice ka n kc) ks) (hkids : ∀ k ∈ ks, IsItm w1 k) (i : Nat) (hi : i < ks.length) : ∃ b off ta tc, ka = some ⟨b, off, none⟩ ∧
    ∀ u, Below w1.heap.size w1 u → u.cell? ⟨b, off + i * 3 + 1, none⟩ = some (.slice ta ((ks.map itt)[i]?.getD []).length tc) ∧ Bytes u (.slice ta ((ks.map itt)[i]?.getD []).length tc) ((ks.map itt)[i]?.getD []) := by
  obtain ⟨b, off, rfl, hc⟩ := RowOf.cells icells_len hrow i hi
  have hI := hkids _ (List.getElem_mem hi)
  have e : (ks.map itt)[i]?.getD [] = itt ks[i] := by rw [List.getElem?_map, List.getElem?_eq_getElem hi]; rfl
  rw [e]
  obtain ⟨kid, hkid⟩ : ∃ x, x = ks[i] := ⟨_, rfl⟩
  rw [← hkid] at hI
  obtain ⟨l, tv, t, kv, kks⟩ := kid
  obtain ⟨ta, tc, rfl, _, _⟩ := hI.inv.1.form
  rw [← hkid]
  refine ⟨b, off, ta, tc, rfl, fun u hu => ⟨?_, RowOf.below (f := b8) (size := 1) hI.inv.1 hu⟩⟩
  obtain ⟨b', off', e', hc'⟩ := RowOf.cells icells_len (RowOf.below hrow hu) i hi
  simp only [Option.some.injEq, Addr.mk.injEq, and_true] at e'
  obtain ⟨rfl, rfl⟩ := e'
  rw [Nat.add_assoc]
  exact hc' 1 _ (by rw [← hkid]; rfl)
theorem idx0w (N : Nat) (w : World) : (Instr.index 40 (.agg (wcs N).toArray) (.int .i64 0)).run Try.prog w = .ok (.int .u64 (lim N 0 : Int)) w :=
  run_index_at (n := 4) (e := 36) Try.underlying40 (by kernel_rfl) (fun w => run_isAgg_plain Try.underlying36 rfl w) _ 0 (by omega) rfl w .i64
theorem kid_texts {w1 : World} {ka : Option Addr} {n kc : Nat} {ks : List Itm} (hrow : RowOf icells 3 w1 (.slice ka n kc) ks) (hkids : ∀ k ∈ ks, IsItm w1 k) (h0 : 0 < ks.length) : ∃ b off, ka = some ⟨b, off, none⟩ ∧ ∀ i, i < ks.length → ∃ ta tc, 
    ∀ u, Below w1.heap.size w1 u → u.cell? ⟨b, off + i * 3 + 1, none⟩ = some (.slice ta ((ks.map itt)[i]?.getD []).length tc) ∧ Bytes u (.slice ta ((ks.map itt)[i]?.getD []).length tc) ((ks.map itt)[i]?.getD []) := by
  obtain ⟨b, off, _, _, rfl, _⟩ := kid_text hrow hkids 0 h0
  refine ⟨b, off, rfl, fun i hi => ?_⟩
  obtain ⟨b', off', ta, tc, e, h⟩ := kid_text hrow hkids i hi
  simp only [Option.some.injEq, Addr.mk.injEq, and_true] at e
  obtain ⟨rfl, rfl⟩ := e
  exact ⟨ta, tc, h⟩
/-- a text that was there before -/
theorem LkV.low' {w : World} {zs : List (TypeId × Nat × List Value)} {B g9 : Nat} {kv : Value} {ks : List Itm} {u w0 : World} {v : Value} {t : List UInt8} (h : LkV w zs B g9 kv ks u) (h0 : Bytes w0 v t) (hB : w0.heap.size ≤ B) (hb : Below w0.heap.size w0 u) : Fp (fun x => x ≠ g9 ∧ kv.ownBlock ≠ some x) u (txt v t) := by
  have h2 := h.h2
  intro u' hu
  refine .mk false v t _ [] (Bytes.onto h0 (fun b h1 hlt => ?_)) (RowOf.nil icells 3 u') (by simp)
  rw [← hb.block b hlt]
  exact hu b ⟨by omega, fun e => by have := h.hO.lt b e; omega⟩ (Nat.lt_of_lt_of_le hlt hb.size)
/-- a list of n texts, one behind the other -/
def TxsN (n : Nat) (ts : List (List UInt8)) : Ty := fun u w => ∃ a c ps, u = .slice a n c ∧ Texts w u ps ∧ ps.map (·.2) = ts
theorem Texts.kept' {w w' : World} {v : Value} {ps : List (Value × List UInt8)} (h : Texts w v ps) (hb : Below w.heap.size w w') : Texts w' v ps := h.below hb
theorem TxsN.mono (n : Nat) (ts : List (List UInt8)) : Mono (TxsN n ts) := fun _ _ _ ⟨a, c, ps, h1, h2, h3⟩ hb => ⟨a, c, ps, h1, h2.below hb, h3⟩
theorem tcell_len : ∀ p : Value × List UInt8, (tcell p).length = 1 := fun _ => rfl
end Go.Proofs.Ytakhaanenlblmaa
