/- What (*memory.Memory).do goes through: spans. -/
import Derived.Test.YtakhaanenlblmaaMem7
set_option linter.unusedSimpArgs false
set_option linter.unusedVariables false
namespace Go.Proofs.Ytakhaanenlblmaa
open Go.RowKit
def spc (p : Nat × Nat) : List Value := wcs p.1 ++ wcs p.2
theorem spc_len (p : Nat × Nat) : (spc p).length = 8 := rfl
theorem spc_one (p : Nat × Nat) : ∀ u ∈ spc p, u.oneCell' = true := by
  intro u hu
  unfold spc at hu
  rcases List.mem_append.1 hu with h | h
  · exact wcs_one _ u h
  · exact wcs_one _ u h
theorem aggSp : Agg Try.prog 208 8 := ⟨_, Try.underlying208, rfl, by kernel_rfl⟩
theorem aggAns : Agg Try.prog 42 6 := ⟨_, Try.underlying42, rfl, by kernel_rfl⟩
theorem aggOp : Agg Try.prog 118 18 := ⟨_, Try.underlying118, rfl, by kernel_rfl⟩
theorem manc_one (a : Man) : ∀ u ∈ manc a, u.oneCell' = true := by
  intro u hu
  unfold manc at hu
  rcases List.mem_append.1 hu with h | h
  · rw [List.mem_singleton] at h; subst h; rfl
  · rcases List.mem_append.1 h with h | h
    · exact wcs_one _ u h
    · rw [List.mem_singleton] at h; subst h; rfl
def spansL (o : Mop) (N : Nat) : List (Nat × Nat) := (o.A, N) :: if o.k = 4 then [(o.F, o.L)] else []
def needT (b : Nat) (l : List (Nat × Nat)) : Option Nat := l.foldl (fun acc p => acc.bind fun s => (needP b p.1 p.2).map (max s)) (some 0)
theorem needT_snoc (b : Nat) (l : List (Nat × Nat)) (p : Nat × Nat) : needT b (l ++ [p]) = (needT b l).bind fun s => (needP b p.1 p.2).map (max s) := by
  unfold needT
  rw [List.foldl_append]
  rfl
theorem needT_none (b : Nat) (l m : List (Nat × Nat)) (h : needT b l = none) : needT b (l ++ m) = none := by
  induction m generalizing l with
  | nil => simpa using h
  | cons p m ih =>
    have := ih (l ++ [p]) (by rw [needT_snoc, h]; rfl)
    rw [List.append_assoc] at this
    exact this
theorem needT_next {b : Nat} {l : List (Nat × Nat)} {i s x : Nat} (hi : i < l.length) (h : needT b (l.take i) = some s) (hx : needP b l[i].1 l[i].2 = some x) : needT b (l.take (i + 1)) = some (max s x) := by
  rw [List.take_succ_eq_append_getElem hi, needT_snoc, h]
  show (needP b l[i].1 l[i].2).map (max s) = _
  rw [hx]; rfl
theorem needT_stop {b : Nat} {l : List (Nat × Nat)} {i s : Nat} (hi : i < l.length) (h : needT b (l.take i) = some s) (hx : needP b l[i].1 l[i].2 = none) : needT b l = none := by
  have h1 : needT b (l.take (i + 1)) = none := by
    rw [List.take_succ_eq_append_getElem hi, needT_snoc, h]
    show (needP b l[i].1 l[i].2).map (max s) = _
    rw [hx]; rfl
  have := needT_none b _ (l.drop (i + 1)) h1
  rwa [List.take_append_drop] at this
theorem needT_size {b : Nat} (o : Mop) (N : Nat) (hb : b ≤ 4096) (hN : spanN o = some N) : needT b (spansL o N) = sizeM b o N := by
  unfold spansL sizeM fromN
  by_cases h4 : o.k = 4
  · have hL : N = o.L := by
      unfold spanN at hN
      rw [h4] at hN
      simpa using hN.symm
    rw [if_pos h4, if_pos h4, hL]
    unfold needT
    simp only [List.foldl_cons, List.foldl_nil, Option.bind_some]
    cases needP b o.A o.L with
    | none => rfl
    | some x => cases needP b o.F o.L with
      | none => rfl
      | some y => simp
  · rw [if_neg h4, if_neg h4]
    have h0 : needP b o.F 0 = some b := by unfold needP; rw [if_pos rfl]
    rw [h0]
    unfold needT
    simp only [List.foldl_cons, List.foldl_nil, Option.bind_some]
    cases hx : needP b o.A N with
    | none => rfl
    | some x =>
      have := needP_le hb hx
      simp only [Option.map_some, Option.some.injEq]
      omega
theorem stepM_bad {M : List UInt8} {o : Mop} (h : spanN o = none) : stepM M o = (M, ⟨30, 0, 0⟩) := by unfold stepM; rw [h]
theorem stepM_much {M : List UInt8} {o : Mop} {N : Nat} (h : spanN o = some N) (hs : sizeM M.length o N = none) : stepM M o = (M, ⟨6, 0, 0⟩) := by unfold stepM; rw [h]; dsimp only; rw [hs]
theorem stepM_does {M : List UInt8} {o : Mop} {N s : Nat} (h : spanN o = some N) (hs : sizeM M.length o N = some s) : stepM M o = (putM (growM M s) o.A (dataM (growM M s) o), ⟨0, wordM (growM M s) o, priceN M.length s⟩) := by unfold stepM; rw [h]; dsimp only; rw [hs]
theorem Blk.apartT {e e' : TypeId} {w : World} {g k : Nat} {cs cs' : List Value} (h : Blk e w g cs) (h' : Blk e' w k cs') (hne : e ≠ e') : g ≠ k := by
  intro he
  subst he
  have h1 : w.heap[g]? = some (.cells cs.toArray e (0, 0)) := h
  have h2 : w.heap[g]? = some (.cells cs'.toArray e' (0, 0)) := h'
  rw [h1] at h2
  simp only [Option.some.injEq, Obj.cells.injEq] at h2
  exact hne h2.2.1
def z6 : List Value := [.int .i64 0, .int .u64 0, .int .u64 0, .int .u64 0, .int .u64 0, .int .u64 0]
def z8 : List Value := [.int .u64 0, .int .u64 0, .int .u64 0, .int .u64 0, .int .u64 0, .int .u64 0, .int .u64 0, .int .u64 0]
/-- the box of the operation, the answer's cell -/
structure DoW (w : World) (o : Mop) (u : World) : Prop where
  b : Blk 118 u w.heap.size (mopc o)
  a : Blk 42 u (w.heap.size + 1) z6
  bel : Below w.heap.size w u
theorem DoW.kept {w u u' : World} {o : Mop} (h : DoW w o u) (hb : Below u.heap.size u u') : DoW w o u' := ⟨h.b.kept hb, h.a.kept hb, Below.then h.bel hb⟩
theorem DoW.start (w : World) (o : Mop) : DoW w o ((w.alloc (.cells (mopc o).toArray 118)).alloc (.cells z6.toArray 42)) :=
  ⟨(Blk.new w 118 (mopc o)).alloc _, by have := Blk.new (w.alloc (.cells (mopc o).toArray 118)) 42 z6; simpa using this, ((Below.refl _ _).alloc (Nat.le_refl _) _).alloc (by simp) _⟩
/-- .. and the spans -/
structure SpW (w : World) (o : Mop) (N gs : Nat) (u : World) : Prop where
  d : DoW w o u
  s : Blk 208 u gs ((spansL o N).flatMap spc)
theorem SpW.kept {w u u' : World} {o : Mop} {N gs : Nat} (h : SpW w o N gs u) (hb : Below u.heap.size u u') : SpW w o N gs u' := ⟨h.d.kept hb, h.s.kept hb⟩
theorem SpW.range {w u : World} {o : Mop} {N gs : Nat} (h : SpW w o N gs u) (i : Nat) (hi : i < (spansL o N).length) : u.rangeAt gs (i * 8) (spc (spansL o N)[i]) := by
  have hlen : (spansL o N).length ≤ 2 := by unfold spansL; split <;> simp
  obtain ⟨b, off, hb, hr⟩ := RowOf.range spc_len (Blk.own (f := spc) (size := 8) (B := 0) h.s _ spc_len rfl (Nat.zero_le _) (by unfold maxLen; omega)).row i hi
  simp only [Option.some.injEq, Addr.mk.injEq, and_true] at hb
  obtain ⟨rfl, rfl⟩ := hb
  simpa using hr
/-- behind Grow -/
structure GrW (w : World) (o : Mop) (N gs g B : Nat) (v v' : Value) (M' : List UInt8) (u : World) : Prop where
  b : Blk 118 u w.heap.size (mopc o)
  a : Blk 42 u (w.heap.size + 1) z6
  s : Blk 208 u gs ((spansL o N).flatMap spc)
  m : MemAt u g B v' M'
  t : But2 g v w u
  l : ∀ k, v'.ownBlock = some k → v.ownBlock = some k ∨ w.heap.size ≤ k
theorem GrW.made {w u u' : World} {o : Mop} {N gs g B : Nat} {v v' : Value} {M M' : List UInt8} (h : SpW w o N gs u) (hm : MemAt u g B v M) (ht : But2 g v u u') (hm' : MemAt u' g B v' M') (hl : ∀ k, v'.ownBlock = some k → v.ownBlock = some k ∨ u.heap.size ≤ k) : GrW w o N gs g B v v' M' u' where
  b := h.d.b.but ht (h.d.b.apartT hm.z (by decide)) (hm.o.notT h.d.b (by decide))
  a := h.d.a.but ht (h.d.a.apartT hm.z (by decide)) (hm.o.notT h.d.a (by decide))
  s := h.s.but ht (h.s.apartT hm.z (by decide)) (hm.o.notT h.s (by decide))
  m := hm'
  t := But2.trans ((But2.refl g v w).kept h.d.bel) (fun k hk => .inl hk) ht
  l := fun k hk => (hl k hk).imp id (fun h1 => Nat.le_trans h.d.bel.size h1)
theorem GrW.kept {w u u' : World} {o : Mop} {N gs g B : Nat} {v v' : Value} {M' : List UInt8} (h : GrW w o N gs g B v v' M' u) (hb : Below u.heap.size u u') : GrW w o N gs g B v v' M' u' :=
  ⟨h.b.kept hb, h.a.kept hb, h.s.kept hb, h.m.kept hb, h.t.kept hb, h.l⟩
theorem DoW.sets4 {w u : World} {o : Mop} {gs : Nat} {cs : List Value} (h : DoW w o u) (hs : Blk 208 u gs cs) (hgs : w.heap.size ≤ gs) (m0 m1 m2 m3 : Value) :
    DoW w o ((((u.setCell ⟨gs, 4, none⟩ m0).setCell ⟨gs, 5, none⟩ m1).setCell ⟨gs, 6, none⟩ m2).setCell ⟨gs, 7, none⟩ m3) where
  b := (((h.b.other ⟨gs, 4, none⟩ (hs.apartT h.b (by decide)) _).other ⟨gs, 5, none⟩ (hs.apartT h.b (by decide)) _).other ⟨gs, 6, none⟩ (hs.apartT h.b (by decide)) _).other ⟨gs, 7, none⟩ (hs.apartT h.b (by decide)) _
  a := (((h.a.other ⟨gs, 4, none⟩ (hs.apartT h.a (by decide)) _).other ⟨gs, 5, none⟩ (hs.apartT h.a (by decide)) _).other ⟨gs, 6, none⟩ (hs.apartT h.a (by decide)) _).other ⟨gs, 7, none⟩ (hs.apartT h.a (by decide)) _
  bel := (((h.bel.setCell (p := ⟨gs, 4, none⟩) hgs _).setCell (p := ⟨gs, 5, none⟩) hgs _).setCell (p := ⟨gs, 6, none⟩) hgs _).setCell (p := ⟨gs, 7, none⟩) hgs _
theorem spans_lt {o : Mop} (k : o.Ok) {N : Nat} (hN : spanN o = some N) (p : Nat × Nat) (hp : p ∈ spansL o N) : p.1 < W256 ∧ p.2 < W256 := by
  have hNl : N < W256 := by
    unfold spanN at hN
    split at hN
    · simp only [Option.some.injEq] at hN; rw [← hN]; unfold W256; omega
    · split at hN
      · simp only [Option.some.injEq] at hN; rw [← hN]; unfold W256; omega
      · split at hN
        · simp only [Option.some.injEq] at hN; rw [← hN]; exact k.L
        · split at hN
          · simp only [Option.some.injEq] at hN; rw [← hN]; have := k.D; unfold W256; omega
          · cases hN
  unfold spansL at hp
  rcases List.mem_cons.1 hp with rfl | hp
  · exact ⟨k.A, hNl⟩
  · split at hp
    · rw [List.mem_singleton] at hp; subst hp; exact ⟨k.F, k.L⟩
    · simp at hp
/-- 'copy(own[off:off+n], src)', with what else is kept -/
theorem wpList_copyG {P : Program} {w : World} {ops : Array Oper} {rest : List Oper} {o : Oper} {a : Act} {Q : Exit → Act → World → Prop} (hgd : o.guard = none) (d s : Operand) (dT sT : TypeId)
    (ho : o.op = .call { callee := .builtin .copy, args := #[d, s], argTypes := #[dT, sT] }) {e t : TypeId} {z : Value} {bytes : Nat} (el : El P dT t z 1 bytes b8)
    (g off dLen dCap : Nat) (hd : a.eval d = .slice (some ⟨g, off, none⟩) dLen dCap) (u : Value) (m : List UInt8) (hs : a.eval s = u) (hrow : Bytes w u m)
    (cur : List Value) (hg : Blk e w g cur) (hfit : off + dLen ≤ cur.length)
    (h : ∀ w', Blk e w' g (splice cur off (by8 (m.take dLen))) → w.grownBy w' (some g) → wpList P ops Q rest (a.put o.dst (goInt (m.take dLen).length)) w') :
    wpList P ops Q (o :: rest) a w := by
  obtain ⟨i, hi, hz, hsi, hby⟩ := el.info
  obtain ⟨h0, ad, c, rfl, _, _, h3⟩ := hrow
  have hl : (by8 (m.take dLen)).length = Nat.min m.length dLen := by rw [by8_len, List.length_take]; exact Nat.min_comm _ _
  by_cases hp : Nat.min m.length dLen = 0
  · have hnil : m.take dLen = [] := List.eq_nil_of_length_eq_zero (by rw [by8_len] at hl; omega)
    refine wpList_copy_nothing hgd d s dT sT ho t el.ht (by rw [hi]; simp [hsi]) _ _ _ _ _ _ hd hs hp ?_
    have := h w (by rw [hnil]; unfold splice; simpa [by8] using hg) ⟨rfl, rfl, rfl, Nat.le_refl _, fun _ _ _ => rfl⟩
    rw [hnil] at this
    exact this
  · have hmin : Nat.min m.length dLen ≤ m.length := Nat.min_le_left m.length dLen
    have hmin2 : Nat.min m.length dLen ≤ dLen := Nat.min_le_right m.length dLen
    rcases h3 with ⟨_, hm, _⟩ | ⟨b, o2, sp, rfl, hsp, h3⟩
    · exfalso; rw [hm] at hmin hp; omega
    · obtain rfl : sp = none := hsp.resolve_right (by omega)
      have hgg : w.heap[g]? = some (.cells cur.toArray e (0, 0)) := hg
      refine wpList_copy_own hgd d s dT sT ho t el.ht (by rw [hi]; simp [hsi]) g off dLen dCap ⟨b, o2, none⟩ m.length c hd hs cur.toArray e hgg (by8 (m.take dLen)) hl ?_ ?_ ?_ ?_
      · intro j v hv
        have hadd : (⟨b, o2, none⟩ : Addr).add j = ⟨b, o2 + j, none⟩ := by unfold Addr.add; split <;> simp_all
        rw [hadd]
        refine h3 j v ?_
        rw [flat_b8]
        have hj : j < dLen := by
          have := (List.getElem?_eq_some_iff.1 hv).1
          omega
        rw [by8_take, List.getElem?_take_of_lt hj] at hv
        exact hv
      · rw [List.size_toArray]; omega
      · intro u hu
        obtain ⟨x, _, rfl⟩ := List.mem_map.1 hu
        rfl
      · have := h (w.setRow g (splice cur off (by8 (m.take dLen))).toArray) (setRow_heap w g _ _ e _ hgg) ⟨rfl, rfl, rfl, by simp, fun k _ hk => setRow_other w g k _ (fun e => hk (by rw [e]))⟩
        rw [by8_len]
        unfold splice at this
        rw [by8_len] at this
        simpa using this
/-- a part of an own row -/
theorem OwnOf.partAt {e : TypeId} {w : World} {B g n c : Nat} {l : List UInt8} (h : OwnOf b8 1 e w B (.slice (some ⟨g, 0, none⟩) n c) l) (A N : Nat) (hA : A + N ≤ n) (hN : 0 < N) : Bytes w (.slice (some ⟨g, A, none⟩) N (c - A)) ((l.drop A).take N) := by
  obtain ⟨cs, hb, hl, hnc, _, _, _, _⟩ := h.blk one_u8
  obtain ⟨a', c', h1, h2⟩ := RowOf.part (f := b8) (size := 1) (fun _ => rfl) (by omega) h.row A (A + N) (by omega) hA
  have hne : ¬ c = A := by omega
  rw [show A + N - A = N from by omega] at h1 h2
  have hs : sliced (some (⟨g, 0, none⟩ : Addr)) A (A + N) c 1 = .slice (some ⟨g, A, none⟩) N (c - A) := by
    simp [sliced, hne, Addr.add]
    all_goals omega
  rw [hs] at h1
  simp only [Value.slice.injEq, true_and] at h1
  obtain ⟨rfl, rfl⟩ := h1
  rw [List.drop_take, show A + N - A = N from by omega] at h2
  exact h2
theorem GrW.put {w u u' : World} {o : Mop} {N gs g B gb n c : Nat} {v : Value} {M' : List UInt8} (h : GrW w o N gs g B v (.slice (some ⟨gb, 0, none⟩) n c) M' u) {cur : List Value} (hc : Blk 5 u gb cur) (off : Nat) (d : List UInt8) (hf : off + d.length ≤ n)
    (hn : Blk 5 u' gb (splice cur off (by8 d))) (hg : u.grownBy u' (some gb)) : GrW w o N gs g B v (.slice (some ⟨gb, 0, none⟩) n c) (putM M' off d) u' where
  b := h.b.grown hg (fun e => hc.apartT h.b (by decide) (by simpa using e))
  a := h.a.grown hg (fun e => hc.apartT h.a (by decide) (by simpa using e))
  s := h.s.grown hg (fun e => hc.apartT h.s (by decide) (by simpa using e))
  m := ⟨h.m.z.grown hg (fun e => hc.apartT h.m.z (by decide) (by simpa using e)), h.m.o.spliced hc off d hf hn⟩
  t := h.t.grown hg (fun k hk => by
    rcases h.l k (by rw [← hk]; rfl) with h1 | h1
    · exact .inr (.inl h1)
    · exact .inr (.inr h1))
  l := h.l
theorem GrW.done {w u u' : World} {o : Mop} {N gs g B : Nat} {v v' : Value} {M' : List UInt8} (h : GrW w o N gs g B v v' M' u) (hg : u.grownBy u' (some (w.heap.size + 1))) : ∃ v', MemAt u' g B v' M' ∧ But2 g v w u' ∧ ∀ k, v'.ownBlock = some k → v.ownBlock = some k ∨ w.heap.size ≤ k :=
  ⟨v', ⟨h.m.z.grown hg (fun e => h.a.apartT h.m.z (by decide) (by simpa using e)), h.m.o.grown hg (fun k hk e => h.m.o.notT h.a (by decide) (by rw [e, hk]))⟩, h.t.grown hg (fun k hk => .inr (.inr (by simp only [Option.some.injEq] at hk; omega))), h.l⟩
theorem GrW.other {w u : World} {o : Mop} {N gs g B : Nat} {v v' : Value} {M' : List UInt8} (h : GrW w o N gs g B v v' M' u) {k : Nat} {cs : List Value} {u' : World} (hk : Blk 42 u k cs) (hw : w.heap.size + 1 < k) (hg : u.grownBy u' (some k)) : GrW w o N gs g B v v' M' u' where
  b := h.b.grown hg (fun e => hk.apartT h.b (by decide) (by simpa using e))
  a := h.a.grown hg (fun e => by simp only [Option.some.injEq] at e; omega)
  s := h.s.grown hg (fun e => hk.apartT h.s (by decide) (by simpa using e))
  m := ⟨h.m.z.grown hg (fun e => hk.apartT h.m.z (by decide) (by simpa using e)), h.m.o.grown hg (fun j hj e => h.m.o.notT hk (by decide) (by rw [e, hj]))⟩
  t := h.t.grown hg (fun j hj => .inr (.inr (by simp only [Option.some.injEq] at hj; omega)))
  l := h.l
theorem manc_zero (C : Nat) : manc ⟨0, 0, C⟩ = [.int .i64 0, .int .u64 0, .int .u64 0, .int .u64 0, .int .u64 0, .int .u64 (C : Int)] := by
  unfold manc
  rw [show wcs 0 = [.int .u64 0, .int .u64 0, .int .u64 0, .int .u64 0] from rfl]
  rfl
theorem low_byte (N : Nat) : IntKind.u8.wrap (lim N 0 : Int) = ((wbyte N 31).toNat : Int) := by
  rw [lim0]
  have h1 : (wbyte N 31).toNat = N % 256 := by unfold wbyte; simp
  rw [h1]
  have h2 : IntKind.u8.wrap ((N % 18446744073709551616 : Nat) : Int) = (((N % 18446744073709551616) % 256 : Nat) : Int) := by
    show ((N % 18446744073709551616 : Nat) : Int) % 256 = _
    omega
  rw [h2]
  omega
theorem wb_last (N : Nat) : (wb N).drop 31 = [wbyte N 31] := by
  refine List.ext_getElem? fun j => ?_
  rw [List.getElem?_drop]
  cases j with
  | zero => rw [wb_at N 31 (by omega)]; rfl
  | succ j => rw [List.getElem?_eq_none (by rw [wb_len]; omega)]; rfl
end Go.Proofs.Ytakhaanenlblmaa
