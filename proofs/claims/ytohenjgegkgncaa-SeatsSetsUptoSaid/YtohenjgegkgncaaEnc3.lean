/- pack.Encode. -/
import Derived.Test.YtohenjgegkgncaaEnc2
set_option linter.unusedSimpArgs false
set_option linter.unusedVariables false
namespace Go.Proofs.Ytohenjgegkgncaa
open Go.RowKit
set_option maxHeartbeats 1000000 in
set_option maxRecDepth 100000 in
theorem enc_list (tv : Value) (t : List UInt8) (ka : Option Addr) (kn kc : Nat) (ks : List Itm) (hkn : ks.length = kn) (w : World) (hk : RowOf icells 3 w (.slice ka kn kc) ks) (hi : ∀ k ∈ ks, IsItm w k) (hN : bulkL ks ≤ 1000000000000)
    (ih : ∀ k ∈ ks, ∀ w', IsItm w' k → Calls Try.prog 87 #[.agg (icells k).toArray] w' (EncPost k w')) :
    Calls Try.prog 87 #[.agg #[.bool true, tv, .slice ka kn kc]] w (EncPost (.mk true tv t (.slice ka kn kc) ks) w) := by
  have hbel1 : Below w.heap.size w (w.alloc (.cells #[.bool true, tv, .slice ka kn kc] 25)) := (Below.refl _ _).alloc (Nat.le_refl _) _
  have hE : encI (.mk true tv t (.slice ka kn kc) ks) = headB 192 (encL ks).length ++ encL ks := by
    unfold encI
    rw [if_pos rfl]
  have hll : (encL ks).length ≤ 10000000000000 := by have := len_encL ks hN; omega
  have hhl := headB_len 192 (encL ks).length (by omega)
  have hnl : kn ≤ 1000000000000 := by have := bulk_len ks; omega
  have hle := fun k => encL_le ks k
  have hst := fun k hk => encL_step ks k hk
  have hall : encL (ks.take kn) = encL ks := by rw [← hkn, List.take_length]
  have hbk : ∀ k, k ∈ ks → (encI k).length ≤ 10000000000000 := fun k hk => by
    have h1 := bulk_mem hk
    have := len_encI (bulkI k) k (Nat.le_refl _) (by omega)
    omega
  have Hkn := Lib.hid hkn
  have HE := Lib.hid hE
  have Hle := Lib.hid hle
  have Hst := Lib.hid hst
  have Hi := Lib.hid hi
  have Ih := Lib.hid ih
  have Hall := Lib.hid hall
  have Hbk := Lib.hid hbk
  have Hll := Lib.hid hll
  have Hhl := Lib.hid hhl
  clear hkn hE hle hst hi ih hall hbk hll hhl hN
  go_enter Try.func87, Try.ntmps87
  go_wp2_with fail
  go_loopw [3, 35] (fun v ix wr => ∃ k : Nat, k ≤ kn ∧ ix = .int .i64 (k : Int) ∧ OwnOf b8 1 5 wr w.heap.size v (encL (ks.take k)) ∧ Below w.heap.size w wr) (fun _ ix _ => kn - (intOf ix).toNat)
  case atStart => exact ⟨0, by omega, rfl, OwnOf.nil b8 1 _ _ _, hbel1⟩
  case round =>
    clear hbel1
    obtain ⟨k, hk', rfl, hO, hbel⟩ := hrel
    by_cases hlt : k < kn
    · have hki : (k : Int) < (kn : Int) := by omega
      have hkl : k < ks.length := by rw [Hkn.out]; exact hlt
      obtain ⟨b, off, rfl, hr⟩ := RowOf.range icells_len (hk.below hbel) k hkl
      have hI : IsItm wr ks[k] := (Hi.out _ (List.getElem_mem hkl)).kept hbel
      have hc := fun x hx => Ih.out _ (List.getElem_mem hkl) x hx
      have hs := Hst.out k hkl
      have hl := Hle.out k
      have hm := Hbk.out _ (List.getElem_mem hkl)
      obtain ⟨kid, hkid⟩ : ∃ x, x = ks[k] := ⟨_, rfl⟩
      rw [← hkid] at hr hI hc hs hm
      obtain ⟨S0, hS0⟩ : ∃ S0, S0 = encL (ks.take k) := ⟨_, rfl⟩
      obtain ⟨S1, hS1⟩ : ∃ S1, S1 = encL (ks.take (k + 1)) := ⟨_, rfl⟩
      rw [← hS0] at hO hs hl
      rw [← hS1] at hs
      obtain ⟨T, hT⟩ : ∃ T, T = encI kid := ⟨_, rfl⟩
      unfold EncPost at hc
      rw [← hT] at hc hs hm
      obtain ⟨l2, tv2, t2, kv2, ks2⟩ := kid
      obtain ⟨ta2, tc2, rfl, _, _⟩ := hI.inv.1.form
      obtain ⟨ka2, kc2, rfl, _, _⟩ := hI.inv.2.1.form
      obtain ⟨tn2, htn2⟩ : ∃ tn2, tn2 = t2.length := ⟨_, rfl⟩
      obtain ⟨kn2, hkn2⟩ : ∃ kn2, kn2 = ks2.length := ⟨_, rfl⟩
      rw [← htn2, ← hkn2] at hr hI hc
      change wr.rangeAt b (off + k * 3) [.bool l2, .slice ta2 tn2 tc2, .slice ka2 kn2 kc2] at hr
      change ∀ x, IsItm x _ → Calls Try.prog 87 #[.agg #[.bool l2, .slice ta2 tn2 tc2, .slice ka2 kn2 kc2]] x _ at hc
      have hbs := hbel.size
      have hbel2 : Below w.heap.size w (wr.alloc (.cells #[.bool l2, .slice ta2 tn2 tc2, .slice ka2 kn2 kc2] 25)) := hbel.alloc hbs _
      have hI2 := hI.kept ((Below.refl wr.heap.size wr).alloc (Nat.le_refl _) (.cells #[.bool l2, .slice ta2 tn2 tc2, .slice ka2 kn2 kc2] 25))
      have hO2 := hO.alloc (.cells #[.bool l2, .slice ta2 tn2 tc2, .slice ka2 kn2 kc2] 25)
      have hlo := OwnOf.lt hO
      have hbb : S0.length + T.length ≤ 30000000000000 := by have := Hll.out; omega
      have Hs := Lib.hid hs
      have Hc := Lib.hid hc
      have HS1 := Lib.hid hS1
      clear hs hc hS1 hS0 hT hkid hI hl hm htn2 hkn2
      go_wp2_with (first
        | (refine wpList_load_mid (op := ⟨some 38, _, _, _, _, _⟩) (by rfl) 25 (.tmp 37) (by rfl) b (off + k * 3) (by rfl) [.bool l2, .slice ta2 tn2 tc2, .slice ka2 kn2 kc2] _ hr Try.underlying25 rfl (by kernel_rfl) ?_)
        | (go_at_call 87; (with_reducible refine (Hc.out _ hI2).mono ?_); rintro e w3 ⟨v3, rfl, o3, b3⟩; have hbel3 := Below.then hbel2 b3; have hO3 := hO2.kept b3; have hlo3 := hlo)
        | (refine wpList_appA (o := ⟨some 42, _, _, _, _, _⟩) (by rfl) (.tmp 39) (.tmp 41) 22 (by rfl) elU8 (by rfl) hO3 (by rfl) o3.row hbel3.size (by omega) (by unfold maxLen; omega) ?_; intro v5 w5 o5 g5 _; have hbel5 := hbel3.grown g5 hbel3.size hlo3; rw [← Hs.out, HS1.out] at o5))
      go_roundw
      case rel => exact ⟨k + 1, by omega, by go_num, o5, hbel5⟩
      case measure => simp [intOf]; omega
    · obtain rfl : k = kn := by omega
      rw [Hall.out] at hO
      have hN2 : (encL ks).length ≤ 10000000000000 := by have := Hll.out; omega
      obtain ⟨S, hS⟩ : ∃ S, S = encL ks := ⟨_, rfl⟩
      have hhl := Hhl.out
      have hE := HE.out
      rw [← hS] at hO hhl hE hN2
      obtain ⟨sn, hsn⟩ : ∃ sn, sn = S.length := ⟨_, rfl⟩
      rw [← hsn] at hhl hE hN2
      obtain ⟨a3, c3, rfl, _⟩ := hO.form' sn hsn.symm
      have ch := fun x => head_any 192 sn (by omega) (by omega) x
      obtain ⟨Hd, hHd⟩ : ∃ Hd, Hd = headB 192 sn := ⟨_, rfl⟩
      rw [← hHd] at hhl hE
      simp only [← hHd] at ch
      change ∀ x, Calls Try.prog 135 #[.int .u8 192, .int .i64 (sn : Int)] x _ at ch
      have Ch := Lib.hid ch
      have HE2 := Lib.hid hE
      have Hsn := Lib.hid hsn
      clear ch hE hsn hHd hS
      have hbs := hbel.size
      go_wp2_with (first
        | (go_at_call 135; (with_reducible refine (Ch.out _).mono ?_); rintro e w3 ⟨v3, rfl, o3, b3⟩; have hbel3 := Below.then hbel b3; have hO3 := hO.kept b3; have o3' := OwnOf.lower o3 hbs; have hlo3 := OwnOf.lt o3')
        | (refine wpList_appA (o := ⟨some 48, _, _, _, _, _⟩) (by rfl) (.tmp 46) (.tmp 47) 22 (by rfl) elU8 (by rfl) o3' (by rfl) hO3.row hbel3.size (by rw [← Hsn.out]; omega) (by rw [← Hsn.out]; unfold maxLen; omega) ?_; intro v5 w5 o5 g5 _; have hbel5 := hbel3.grown g5 hbel3.size hlo3))
      go_ret
      exact ⟨_, rfl, by rw [HE2.out]; exact o5, hbel5⟩
theorem encode_any : ∀ (n : Nat) (x : Itm) (w : World), bulkI x ≤ n → n ≤ 1000000000000 → IsItm w x → Calls Try.prog 87 #[.agg (icells x).toArray] w (EncPost x w)
  | 0, x, _, h, _, _ => by have := bulk_pos x; omega
  | n + 1, .mk l tv t kv ks, w, h, hn, hI => by
    obtain ⟨h1, h2, h3⟩ := hI.inv
    obtain ⟨ta, tc, rfl, _, _⟩ := h1.form
    obtain ⟨ka, kc, rfl, _, _⟩ := h2.form
    unfold bulkI at h
    cases l with
    | false => exact enc_text ta t.length tc t rfl _ ks w h1 (by omega)
    | true => exact enc_list _ t ka ks.length kc ks rfl w h2 h3 (by omega) (fun k hk w' hI' => encode_any n k w' (by have := bulk_mem hk; omega) (by omega) hI')
end Go.Proofs.Ytohenjgegkgncaa
