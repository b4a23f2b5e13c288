/- The reference's PEncode: its bytes lie in a block that the call made. -/
import Derived.Test.YtnhbfnegpjkojaaEncB
set_option linter.unusedSimpArgs false
set_option linter.unusedVariables false
namespace Go.Proofs.Ytnhbfnegpjkojaa
open Go.RowKit
theorem wpList_bytesOwn {P : Program} {w : World} {ops : Array Oper} {rest : List Oper} {o : Oper} {a : Act} {Q : Exit → Act → World → Prop} (hgd : o.guard = none) (src dst : TypeId) (x : Operand)
    (ho : o.op = .convert src dst x) {e : TypeId} (hs : P.underlying src = some .string) (hd : P.underlying dst = some (.slice e)) (he : P.underlying e = some (.int .u8)) (l : List UInt8) (hx : a.eval x = str l) (hl : l.length ≤ maxLen)
    (h : ∀ v' w', Bytes w' v' l → (∀ k, v'.ownBlock = some k → w.heap.size ≤ k ∧ k < w'.heap.size) → Below w.heap.size w w' → wpList P ops Q rest (a.put o.dst v') w') : wpList P ops Q (o :: rest) a w := by
  refine wpList_plain hgd fun K hK => ?_
  have hr := Lib.run_convert_string_bytes (P := P) w src dst e ⟨l.toArray⟩ hs hd he
  have hb := bytes_of w e l hl
  unfold Oper.wp execOp
  unfold str at hx
  simp only [ho, hx, hr, Sem.run_bind, Result.andThen_ok, Sem.run_pure]
  exact hK _ _ (h _ _ hb.1 (fun k hk => by simp only [Value.ownBlock, Option.some.injEq] at hk; rw [Lib.bytesWorld_size]; omega) hb.2)
def PEncOwn (x : Itm) (w : World) (e : Ending) (w' : World) : Prop := ∃ v, e = .returned v ∧ Bytes w' v (encI x) ∧ (∀ k, v.ownBlock = some k → w.heap.size ≤ k ∧ k < w'.heap.size) ∧ Below w.heap.size w w'
set_option maxHeartbeats 1000000 in
set_option maxRecDepth 100000 in
theorem penco_text (ta : Option Addr) (tn tc : Nat) (t : List UInt8) (htn : t.length = tn) (kv : Value) (ks : List Itm) (w : World) (h : Bytes w (.slice ta tn tc) t) (hN : tn ≤ 1000000000000) :
    Calls Try.prog 98 #[.agg #[.bool false, .slice ta tn tc, kv]] w (PEncOwn (.mk false (.slice ta tn tc) t kv ks) w) := by
  have hbel1 : Below w.heap.size w (w.alloc (.cells #[.bool false, .slice ta tn tc, kv] 156)) := (Below.refl _ _).alloc (Nat.le_refl _) _
  have hs := run_str (P := Try.prog) (src := 22) (dst := 9) elU8.ht (by kernel_rfl) (by kernel_rfl) (h.below hbel1)
  have hse : (⟨t.toArray⟩ : ByteArray).size = tn := htn
  by_cases h1 : tn = 1 ∧ (t[0]?.getD 0).toNat < 128
  · obtain ⟨h1, h128⟩ := h1
    obtain ⟨x, rfl⟩ : ∃ x, t = [x] := List.length_eq_one_iff.1 (htn.trans h1)
    subst h1
    have hx : (x.toNat : Int) < 128 := by simp at h128; omega
    have hE : encI (.mk false (.slice ta 1 tc) [x] kv ks) = [x] := by
      unfold encI textB
      rw [if_neg (by simp), if_pos (by simp at h128 ⊢; exact h128)]
    have HE := Lib.hid hE
    have hx0 : ∀ h, (⟨#[x]⟩ : ByteArray)[0]'h = x := fun _ => rfl
    clear hE htn h128 hse
    go_enter Try.func98, Try.ntmps98
    go_wp2_with (refine wpList_bytesOwn (o := ⟨some 33, _, _, _, _, _⟩) (by rfl) 9 22 (.tmp 32) (by rfl) (by kernel_rfl) elU8.ht (by kernel_rfl) [x] (by rfl) (by unfold maxLen; simp) ?_; intro v2 w2 h2 h3 b2; have h3 := fun q hq => And.intro (Nat.le_trans (Below.size hbel1) (h3 q hq).1) (h3 q hq).2; have hbel2 := Below.then hbel1 b2)
    go_ret
    exact ⟨_, rfl, by rw [HE.out]; exact h2, h3, hbel2⟩
  · have hE : encI (.mk false (.slice ta tn tc) t kv ks) = headB 128 tn ++ t := by
      unfold encI textB
      rw [if_neg (by simp), if_neg (by rw [htn]; exact h1), htn]
    have hhl := headB_len 128 tn (by omega)
    have ch : ∀ x, Calls Try.prog 151 #[.int .i64 (tn : Int), .bool false] x _ := fun x => phead_any tn false (by omega) x
    change ∀ x, Calls Try.prog 151 #[.int .i64 (tn : Int), .bool false] x (fun e w' => e = .returned (str (headB 128 tn)) ∧ Below x.heap.size x w') at ch
    obtain ⟨w1, hw1⟩ : ∃ w1, w1 = w.alloc (.cells #[.bool false, .slice ta tn tc, kv] 156) := ⟨_, rfl⟩
    obtain ⟨Hd, hHd⟩ : ∃ Hd, Hd = headB 128 tn := ⟨_, rfl⟩
    rw [← hHd] at hE hhl
    simp only [← hHd] at ch
    have hadd := str_add Hd t
    have hll : (Hd ++ t).length ≤ 2000000000000 := by rw [List.length_append, htn]; omega
    have HE := Lib.hid hE
    have Ch := Lib.hid ch
    have Hadd := Lib.hid hadd
    clear hE hw1 ch hHd hadd
    by_cases ht1 : tn = 1
    · subst ht1
      obtain ⟨x, rfl⟩ : ∃ x, t = [x] := List.length_eq_one_iff.1 htn
      have hx : ¬ (x.toNat : Int) < 128 := fun hx => h1 ⟨rfl, by simp; omega⟩
      have hx0 : ∀ h, (⟨#[x]⟩ : ByteArray)[0]'h = x := fun _ => rfl
      clear htn h1 hse
      go_enter Try.func98, Try.ntmps98
      go_wp2_with (first
        | (go_at_call 151; refine (Ch.out _).mono ?_; rintro e w3 ⟨rfl, b3⟩; have hbel3 := Below.then hbel1 b3)
        | (refine wpList_bytesOwn (o := ⟨some 41, _, _, _, _, _⟩) (by rfl) 9 22 (.tmp 40) (by rfl) (by kernel_rfl) elU8.ht (by kernel_rfl) (Hd ++ [x]) Hadd.out (by unfold maxLen; omega) ?_; intro v2 w2 h2 h3 b2; have h3 := fun q hq => And.intro (Nat.le_trans (Below.size hbel3) (h3 q hq).1) (h3 q hq).2; have hbel2 := Below.then hbel3 b2))
      go_ret
      exact ⟨_, rfl, by rw [HE.out]; exact h2, h3, hbel2⟩
    · have hne : ((tn : Int) == 1) = false := by rw [beq_eq_false_iff_ne]; omega
      have htl : t.length ≤ 1000000000000 := by omega
      clear h1 ht1
      go_enter Try.func98, Try.ntmps98
      go_wp2_with (first
        | (go_at_call 151; refine (Ch.out _).mono ?_; rintro e w3 ⟨rfl, b3⟩; have hbel3 := Below.then hbel1 b3)
        | (refine wpList_bytesOwn (o := ⟨some 41, _, _, _, _, _⟩) (by rfl) 9 22 (.tmp 40) (by rfl) (by kernel_rfl) elU8.ht (by kernel_rfl) (Hd ++ t) Hadd.out (by unfold maxLen; omega) ?_; intro v2 w2 h2 h3 b2; have h3 := fun q hq => And.intro (Nat.le_trans (Below.size hbel3) (h3 q hq).1) (h3 q hq).2; have hbel2 := Below.then hbel3 b2))
      go_ret
      exact ⟨_, rfl, by rw [HE.out]; exact h2, h3, hbel2⟩
set_option maxHeartbeats 1000000 in
set_option maxRecDepth 100000 in
theorem penco_list (w0 : World) (ta : Option Addr) (tn tc : Nat) (t : List UInt8) (hbt : Bytes w0 (.slice ta tn tc) t) (ka : Option Addr) (kn kc : Nat) (ks : List Itm) (hkn : ks.length = kn) (w : World) (hw0 : w0 = w) (hk : RowOf icells 3 w (.slice ka kn kc) ks) (hi : ∀ k ∈ ks, IsItm w k) (hN : bulkL ks ≤ 1000000000000)
    (ih : ∀ k ∈ ks, ∀ w', IsItm w' k → Calls Try.prog 98 #[.agg (icells k).toArray] w' (PEncPost k w')) :
    Calls Try.prog 98 #[.agg #[.bool true, .slice ta tn tc, .slice ka kn kc]] w (PEncOwn (.mk true (.slice ta tn tc) t (.slice ka kn kc) ks) w) := by
  subst hw0
  have hbel1 : Below w0.heap.size w0 (w0.alloc (.cells #[.bool true, .slice ta tn tc, .slice ka kn kc] 156)) := (Below.refl _ _).alloc (Nat.le_refl _) _
  have hB1 := Blk.new w0 156 [.bool true, .slice ta tn tc, .slice ka kn kc]
  have hsc := run_str (P := Try.prog) (src := 22) (dst := 9) elU8.ht (by kernel_rfl) (by kernel_rfl) (hbt.below hbel1)
  have hE : encI (.mk true (.slice ta tn tc) t (.slice ka kn kc) ks) = headB 192 (encL ks).length ++ encL ks := by
    unfold encI
    rw [if_pos rfl]
  have hll : (encL ks).length ≤ 10000000000000 := by have := len_encL ks hN; omega
  have hhl := headB_len 192 (encL ks).length (by omega)
  have hnl : kn ≤ 1000000000000 := by have := bulk_len ks; omega
  have hle := fun k => encL_le ks k
  have hst := fun k hk => encL_step ks k hk
  have hall : encL (ks.take kn) = encL ks := by rw [← hkn, List.take_length]
  have hbk : ∀ k, k ∈ ks → (encI k).length ≤ 10000000000000 := fun k hk => by
    have h1 := bulk_mem hk
    have := len_encI (bulkI k) k (Nat.le_refl _) (by omega)
    omega
  have Hkn := Lib.hid hkn
  have HE := Lib.hid hE
  have Hle := Lib.hid hle
  have Hst := Lib.hid hst
  have Hi := Lib.hid hi
  have Ih := Lib.hid ih
  have Hall := Lib.hid hall
  have Hbk := Lib.hid hbk
  have Hll := Lib.hid hll
  have Hhl := Lib.hid hhl
  clear hkn hE hle hst hi ih hall hbk hll hhl hN
  go_enter Try.func98, Try.ntmps98
  go_wp2_with fail
  go_loopw [3, 14] (fun v ix wr => ∃ k : Nat, k ≤ kn ∧ ix = .int .i64 (k : Int) ∧ v = .string ⟨(encL (ks.take k)).toArray⟩ ∧ Blk 156 wr w0.heap.size [.bool true, .slice ta tn tc, .slice ka kn kc] ∧ Below w0.heap.size w0 wr) (fun _ ix _ => kn - (intOf ix).toNat)
  case atStart => exact ⟨0, by omega, rfl, rfl, hB1, hbel1⟩
  case round =>
    clear hbel1 hB1 hsc
    obtain ⟨k, hk', rfl, rfl, hB, hbel⟩ := hrel
    by_cases hlt : k < kn
    · have hki : (k : Int) < (kn : Int) := by omega
      have hkl : k < ks.length := by rw [Hkn.out]; exact hlt
      obtain ⟨b, off, rfl, hr⟩ := RowOf.range icells_len (hk.below hbel) k hkl
      have hI : IsItm wr ks[k] := (Hi.out _ (List.getElem_mem hkl)).kept hbel
      have hc := fun x hx => Ih.out _ (List.getElem_mem hkl) x hx
      have hs := Hst.out k hkl
      have hl := Hle.out k
      have hm := Hbk.out _ (List.getElem_mem hkl)
      obtain ⟨kid, hkid⟩ : ∃ x, x = ks[k] := ⟨_, rfl⟩
      rw [← hkid] at hr hI hc hs hm
      obtain ⟨S0, hS0⟩ : ∃ S0, S0 = encL (ks.take k) := ⟨_, rfl⟩
      obtain ⟨S1, hS1⟩ : ∃ S1, S1 = encL (ks.take (k + 1)) := ⟨_, rfl⟩
      rw [← hS0] at hs hl
      rw [← hS1] at hs
      obtain ⟨T, hT⟩ : ∃ T, T = encI kid := ⟨_, rfl⟩
      unfold PEncPost at hc
      rw [← hT] at hc hs hm
      obtain ⟨l2, tv2, t2, kv2, ks2⟩ := kid
      obtain ⟨ta2, tc2, rfl, _, _⟩ := hI.inv.1.form
      obtain ⟨ka2, kc2, rfl, _, _⟩ := hI.inv.2.1.form
      obtain ⟨tn2, htn2⟩ : ∃ tn2, tn2 = t2.length := ⟨_, rfl⟩
      obtain ⟨kn2, hkn2⟩ : ∃ kn2, kn2 = ks2.length := ⟨_, rfl⟩
      rw [← htn2, ← hkn2] at hr hI hc
      change wr.rangeAt b (off + k * 3) [.bool l2, .slice ta2 tn2 tc2, .slice ka2 kn2 kc2] at hr
      change ∀ x, IsItm x _ → Calls Try.prog 98 #[.agg #[.bool l2, .slice ta2 tn2 tc2, .slice ka2 kn2 kc2]] x _ at hc
      have hbs := hbel.size
      have hbel2 : Below w0.heap.size w0 (wr.alloc (.cells #[.bool l2, .slice ta2 tn2 tc2, .slice ka2 kn2 kc2] 156)) := hbel.alloc hbs _
      have hI2 := hI.kept ((Below.refl wr.heap.size wr).alloc (Nat.le_refl _) (.cells #[.bool l2, .slice ta2 tn2 tc2, .slice ka2 kn2 kc2] 156))
      have hB2 := hB.alloc (.cells #[.bool l2, .slice ta2 tn2 tc2, .slice ka2 kn2 kc2] 156)
      have hbb : S0.length + T.length ≤ 30000000000000 := by have := Hll.out; omega
      have hadd := str_add S0 T
      rw [← hs, hS1] at hadd
      have Hadd := Lib.hid hadd
      have Hc := Lib.hid hc
      clear hs hc hadd hS1 hT hkid hI hl hm htn2 hkn2
      rw [← hS0]
      clear hS0
      go_wp2_with (first
        | (refine wpList_load_mid (op := ⟨some 17, _, _, _, _, _⟩) (by rfl) 156 (.tmp 16) (by rfl) b (off + k * 3) (by rfl) [.bool l2, .slice ta2 tn2 tc2, .slice ka2 kn2 kc2] _ hr Try.underlying156 rfl (by kernel_rfl) ?_)
        | (go_at_call 98; (with_reducible refine (Hc.out _ hI2).mono ?_); rintro e w3 ⟨v3, rfl, o3, b3⟩; have hbel3 := Below.then hbel2 b3; have hB3 := hB2.kept b3; have hsc := run_str (P := Try.prog) (src := 22) (dst := 9) elU8.ht (by kernel_rfl) (by kernel_rfl) o3))
      go_roundw
      case rel => exact ⟨k + 1, by omega, by go_num, Hadd.out, hB3, hbel3⟩
      case measure => simp [intOf]; omega
    · obtain rfl : k = kn := by omega
      rw [Hall.out]
      have hN2 : (encL ks).length ≤ 10000000000000 := by have := Hll.out; omega
      obtain ⟨S, hS⟩ : ∃ S, S = encL ks := ⟨_, rfl⟩
      have hhl := Hhl.out
      have hE := HE.out
      rw [← hS] at hhl hE hN2
      rw [← hS]
      obtain ⟨sn, hsn⟩ : ∃ sn, sn = S.length := ⟨_, rfl⟩
      rw [← hsn] at hhl hE
      have ch : ∀ x, Calls Try.prog 151 #[.int .i64 ((S.length : Nat) : Int), .bool true] x _ := fun x => phead_any S.length true (by omega) x
      change ∀ x, Calls Try.prog 151 #[.int .i64 ((S.length : Nat) : Int), .bool true] x (fun e w' => e = .returned (str (headB 192 S.length)) ∧ Below x.heap.size x w') at ch
      rw [hsn] at hE hhl
      obtain ⟨Hd, hHd⟩ : ∃ Hd, Hd = headB 192 S.length := ⟨_, rfl⟩
      rw [← hHd] at hhl hE
      simp only [← hHd] at ch
      have hadd := str_add Hd S
      have hll : (Hd ++ S).length ≤ 20000000000000 := by rw [List.length_append]; omega
      have Ch := Lib.hid ch
      have HE2 := Lib.hid hE
      have Hadd := Lib.hid hadd
      clear ch hE hsn hHd hS hadd
      have hbs := hbel.size
      have hc0 := hB.cell 0
      have hc0' : wr.cell? ⟨w0.heap.size, 0, none⟩ = some (.bool true) := hc0
      clear hc0
      go_wp2_with (first
        | (go_at_call 151; (with_reducible refine (Ch.out _).mono ?_); rintro e w3 ⟨rfl, b3⟩; have hbel3 := Below.then hbel b3)
        | (refine wpList_bytesOwn (o := ⟨some 41, _, _, _, _, _⟩) (by rfl) 9 22 (.tmp 40) (by rfl) (by kernel_rfl) elU8.ht (by kernel_rfl) (Hd ++ S) Hadd.out (by unfold maxLen; omega) ?_; intro v2 w2 h2 h3 b2; have h3 := fun q hq => And.intro (Nat.le_trans (Below.size hbel3) (h3 q hq).1) (h3 q hq).2; have hbel2 := Below.then hbel3 b2))
      go_ret
      exact ⟨_, rfl, by rw [HE2.out]; exact h2, h3, hbel2⟩
theorem pencode_own (n : Nat) (x : Itm) (w : World) (h : bulkI x ≤ n) (hn : n ≤ 1000000000000) (hI : IsItm w x) : Calls Try.prog 98 #[.agg (icells x).toArray] w (PEncOwn x w) := by
  obtain ⟨l, tv, t, kv, ks⟩ := x
  obtain ⟨h1, h2, h3⟩ := hI.inv
  obtain ⟨ta, tc, rfl, _, _⟩ := h1.form
  obtain ⟨ka, kc, rfl, _, _⟩ := h2.form
  unfold bulkI at h
  cases l with
  | false => exact penco_text ta t.length tc t rfl _ ks w h1 (by omega)
  | true => exact penco_list w ta t.length tc t h1 ka ks.length kc ks rfl w rfl h2 h3 (by omega) (fun k hk w' hI' => pencode_any n k w' (by have := bulk_mem hk; omega) (by omega) hI')
end Go.Proofs.Ytnhbfnegpjkojaa
