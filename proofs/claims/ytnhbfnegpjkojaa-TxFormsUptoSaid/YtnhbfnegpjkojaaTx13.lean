/- Receipts: what they are written as; what WriteReceipt makes on its way. -/
import Derived.Test.YtnhbfnegpjkojaaTx4
import Derived.Test.YtnhbfnegpjkojaaTx10
set_option linter.unusedSimpArgs false
set_option linter.unusedVariables false
namespace Go.Proofs.Ytnhbfnegpjkojaa
open Go.RowKit
structure Rcv where
  good : Bool
  used : Nat
  hu : used < 18446744073709551616
  bloom : List UInt8
  hb : bloom.length = 32
  lv : Value
  ls : List Lgv
def rcc (r : Rcv) : List Value := [.bool r.good, u64v r.used] ++ (by8 r.bloom ++ [r.lv])
theorem rcc_len (r : Rcv) : (rcc r).length = 35 := by unfold rcc; simp only [List.length_append, by8_len, r.hb, List.length_cons, List.length_nil]
theorem aggRc : Agg Try.prog 80 35 := ⟨_, Try.underlying80, rfl, by kernel_rfl⟩
theorem rcc_bloom (r : Rcv) : ((rcc r).drop 2).take 32 = by8 r.bloom := by
  show (by8 r.bloom ++ [r.lv]).take 32 = _
  exact List.take_left' (by rw [by8_len, r.hb])
theorem rcc_logs (r : Rcv) : (rcc r)[34]? = some r.lv := by
  show (by8 r.bloom ++ [r.lv])[32]? = _
  rw [List.getElem?_append_right (by rw [by8_len, r.hb]; omega), by8_len, r.hb]; rfl
/-- what it means -/
def lgP (l : Lgv) : Pit := .lst [.txt l.addr, .lst ((l.tops.map wb).map .txt), .txt l.dat]
def rcP (r : Rcv) : Pit := .lst [.txt (numB (mkN r.good)), .txt (numB r.used), .txt r.bloom, .lst (r.ls.map lgP)]
def wR (r : Rcv) : List UInt8 := encP (rcP r)
theorem erI_lst (kv : Value) (ks : List Itm) : erI (lst kv ks) = .lst (ks.map erI) := by unfold lst; rw [erI_mk, if_pos rfl]
theorem erI_txt (v : Value) (t : List UInt8) : erI (txt v t) = .txt t := by unfold txt; rw [erI_mk, if_neg (by simp)]
theorem erI_txts (ps : List (Value × List UInt8)) : (txts ps).map erI = (ps.map (·.2)).map .txt := by
  unfold txts
  rw [List.map_map, List.map_map]
  exact List.map_congr_left fun p _ => erI_txt p.1 p.2
/-- a log's item -/
def lgI (v0 : Value) (tkv : Value) (ps : List (Value × List UInt8)) (kv : Value) (l : Lgv) : Itm := lst kv [txt v0 l.addr, lst tkv (txts ps), txt l.dv l.dat]
theorem lgI_er {v0 tkv kv : Value} {ps : List (Value × List UInt8)} {l : Lgv} (h : ps.map (·.2) = l.tops.map wb) : erI (lgI v0 tkv ps kv l) = lgP l := by
  unfold lgI lgP
  rw [erI_lst, List.map_cons, List.map_cons, List.map_cons, List.map_nil, erI_txt, erI_lst, erI_txts, h, erI_txt]
theorem lgI_bulk {v0 tkv kv : Value} {ps : List (Value × List UInt8)} {l : Lgv} (h : ps.map (·.2) = l.tops.map wb) : bulkI (lgI v0 tkv ps kv l) ≤ 45 * lgM l := by
  have hs : (ps.map fun p => 1 + p.2.length).sum = 33 * l.tops.length := by
    have e1 : (ps.map fun p => 1 + p.2.length) = (l.tops.map wb).map fun t => 1 + t.length := by rw [← h, List.map_map]; rfl
    rw [e1, List.map_map]
    generalize l.tops = T
    induction T with
    | nil => rfl
    | cons N T ih => rw [List.map_cons, List.sum_cons, ih, List.length_cons]; simp only [Function.comp, wb_len]; omega
  unfold lgI
  rw [bulk_lst, bulkL, bulkL, bulkL, bulkL, bulk_txt, bulk_lst, bulkL_txts, hs, bulk_txt, l.len]
  unfold lgM
  omega
theorem bulkL_app (l m : List Itm) : bulkL (l ++ m) = bulkL l + bulkL m := by
  induction l with
  | nil => simp [bulkL]
  | cons x l ih => rw [List.cons_append, bulkL, bulkL, ih]; omega
/-- what a call makes there -/
def One2 (B n : Nat) (cs : List Value) : Ty := fun v w => ∃ g g', v = .slice (some ⟨g', 0, none⟩) 1 1 ∧ B ≤ g ∧ B ≤ g' ∧ Blk 156 w g cs ∧ Blk 156 w g' [.bool true, .slice none 0 0, .slice (some ⟨g, 0, none⟩) n n]
theorem One2.mono (B n : Nat) (cs : List Value) : Mono (One2 B n cs) := fun _ _ _ ⟨g, g', h1, h2, h3, h4, h5⟩ hb => ⟨g, g', h1, h2, h3, h4.kept hb, h5.kept hb⟩
def FourO (B : Nat) (T1 T2 : List UInt8) (v3 : Value) (T3 : List UInt8) (it : Itm) : Ty := fun v w => ∃ g a1 n1 c1 a2 n2 c2, v = .slice (some ⟨g, 0, none⟩) 4 4 ∧ RowOf icells 3 w v [txt (.slice a1 n1 c1) T1, txt (.slice a2 n2 c2) T2, txt v3 T3, it] ∧ TxB B T1 (.slice a1 n1 c1) w ∧ TxB B T2 (.slice a2 n2 c2) w
theorem FourO.mono (B : Nat) (T1 T2 : List UInt8) (v3 : Value) (T3 : List UInt8) (it : Itm) : Mono (FourO B T1 T2 v3 T3 it) := fun _ _ _ ⟨g, a1, n1, c1, a2, n2, c2, h1, h2, h3, h4⟩ hb => ⟨g, a1, n1, c1, a2, n2, c2, h1, RowOf.kept h2 hb, TxB.mono _ _ _ _ _ h3 hb, TxB.mono _ _ _ _ _ h4 hb⟩
def AgFour (B : Nat) (T1 T2 : List UInt8) (v3 : Value) (T3 : List UInt8) (it : Itm) : Ty := fun v w => ∃ g a1 n1 c1 a2 n2 c2, v = .agg #[.bool true, .slice none 0 0, .slice (some ⟨g, 0, none⟩) 4 4] ∧ RowOf icells 3 w (.slice (some ⟨g, 0, none⟩) 4 4) [txt (.slice a1 n1 c1) T1, txt (.slice a2 n2 c2) T2, txt v3 T3, it] ∧ TxB B T1 (.slice a1 n1 c1) w ∧ TxB B T2 (.slice a2 n2 c2) w
theorem AgFour.mono (B : Nat) (T1 T2 : List UInt8) (v3 : Value) (T3 : List UInt8) (it : Itm) : Mono (AgFour B T1 T2 v3 T3 it) := fun _ _ _ ⟨g, a1, n1, c1, a2, n2, c2, h1, h2, h3, h4⟩ hb => ⟨g, a1, n1, c1, a2, n2, c2, h1, RowOf.kept h2 hb, TxB.mono _ _ _ _ _ h3 hb, TxB.mono _ _ _ _ _ h4 hb⟩
def BytT (T : List UInt8) : Ty := fun v w => Bytes w v T
theorem BytT.mono (T : List UInt8) : Mono (BytT T) := fun _ _ _ h hb => RowOf.kept h hb
/-- the whole, as an item -/
def rcI (g : Nat) (v1 : Value) (T1 : List UInt8) (v2 : Value) (T2 : List UInt8) (v3 : Value) (T3 : List UInt8) (it : Itm) : Itm := lst (.slice (some ⟨g, 0, none⟩) 4 4) [txt v1 T1, txt v2 T2, txt v3 T3, it]
theorem rcI_is {w : World} {g : Nat} {v1 v2 v3 : Value} {T1 T2 T3 : List UInt8} {it : Itm} (hr : RowOf icells 3 w (.slice (some ⟨g, 0, none⟩) 4 4) [txt v1 T1, txt v2 T2, txt v3 T3, it]) (h1 : Bytes w v1 T1) (h2 : Bytes w v2 T2) (h3 : Bytes w v3 T3) (h4 : IsItm w it) : IsItm w (rcI g v1 T1 v2 T2 v3 T3 it) := by
  refine IsItm.lst hr (fun k hk => ?_)
  simp only [List.mem_cons, List.not_mem_nil, or_false] at hk
  rcases hk with rfl | rfl | rfl | rfl
  · exact .mk false v1 T1 _ [] h1 (RowOf.nil icells 3 w) (by simp)
  · exact .mk false v2 T2 _ [] h2 (RowOf.nil icells 3 w) (by simp)
  · exact .mk false v3 T3 _ [] h3 (RowOf.nil icells 3 w) (by simp)
  · exact h4
theorem rcI_enc {r : Rcv} {g : Nat} {v1 v2 v3 kv : Value} {ks : List Itm} (h : ks.map erI = r.ls.map lgP) : encI (rcI g v1 (numB (mkN r.good)) v2 (numB r.used) v3 r.bloom (lst kv ks)) = wR r := by
  unfold wR rcP rcI
  rw [encP_er, erI_lst, List.map_cons, List.map_cons, List.map_cons, List.map_cons, List.map_nil, erI_txt, erI_txt, erI_txt, erI_lst, h]
theorem rcI_bulk {r : Rcv} {g M : Nat} {v1 v2 v3 kv : Value} {ks : List Itm} (h : bulkL ks ≤ 45 * M) : bulkI (rcI g v1 (numB (mkN r.good)) v2 (numB r.used) v3 r.bloom (lst kv ks)) ≤ 200 + 45 * M := by
  unfold rcI
  rw [bulk_lst, bulkL, bulkL, bulkL, bulkL, bulkL, bulk_txt, bulk_txt, bulk_txt, bulk_lst, r.hb]
  have h1 := numB_32 (mkN r.good)
  have h2 := numB_32 r.used
  omega
/-- the log's item hangs on what it is made of -/
theorem fp_sub {S S' : Nat → Prop} {w : World} {it : Itm} (h : Fp S w it) (hs : ∀ b, S b → S' b) : Fp S' w it := h.to (Nat.le_refl _) (fun b hb _ => ⟨rfl, hs b hb⟩)
theorem lgI_fp {S : Nat → Prop} {w w0 : World} {zs : List (TypeId × Nat × List Value)} {g g5 g6 : Nat} {l : Lgv} {tkv : Value} {ps : List (Value × List UInt8)} (hG : LkW w0 zs g6 tkv (txts ps) w)
    (hb : Blk 156 w g [.bool false, .slice (some ⟨g5, 0, none⟩) 8 8, .slice none 0 0, .bool true, .slice none 0 0, tkv, .bool false, l.dv, .slice none 0 0])
    (hB : g6 + 1 ≤ g) (h5 : S g5) (hS : ∀ b, g6 + 1 ≤ b → S b) (ha : Bytes w (.slice (some ⟨g5, 0, none⟩) 8 8) l.addr) (hd : Fp S w (txt l.dv l.dat)) : Fp S w (lgI (.slice (some ⟨g5, 0, none⟩) 8 8) tkv ps (.slice (some ⟨g, 0, none⟩) 3 3) l) := by
  have hO := Blk.own (f := icells) (size := 3) (l := [txt (.slice (some ⟨g5, 0, none⟩) 8 8) l.addr, lst tkv (txts ps), txt l.dv l.dat]) hb 3 icells_len rfl hB (by unfold maxLen; omega)
  refine Fp.lst hO (fun k hk => ?_) hS
  simp only [List.mem_cons, List.not_mem_nil, or_false] at hk
  rcases hk with rfl | rfl | rfl
  · exact fp_at ha (fun b hb => by simp only [Value.ownBlock, Option.some.injEq] at hb; subst hb; exact h5)
  · exact Fp.lst hG.hO (fun k hk => fp_sub (hG.hF k hk) (fun b hb => hS b hb.1)) hS
  · exact hd
end Go.Proofs.Ytnhbfnegpjkojaa
