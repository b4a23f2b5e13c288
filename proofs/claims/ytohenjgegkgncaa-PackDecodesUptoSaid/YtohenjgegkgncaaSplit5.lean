/- (*reader).item: what it answers; the ways that read a text. -/
import Derived.Test.YtohenjgegkgncaaSplit4
import Derived.Test.YtohenjgegkgncaaStep
import Derived.Test.YtohenjgegkgncaaItem0
set_option linter.unusedSimpArgs false
set_option linter.unusedVariables false
namespace Go.Proofs.Ytohenjgegkgncaa
open Go.RowKit
/-- a store into a block that was not there before -/
theorem grown_fresh {w u u' : World} {g : Nat} {row : Option Nat} (h : w.grownBy u (some g)) (k : u.grownBy u' row) (hf : ∀ x, row = some x → w.heap.size ≤ x) : w.grownBy u' (some g) :=
  ⟨k.os.trans h.os, k.tape.trans h.tape, k.output.trans h.output, Nat.le_trans h.size k.size, fun i hi hne => (k.block i (Nat.lt_of_lt_of_le hi h.size) (fun e => by have := hf i e.symm; omega)).trans (h.block i hi hne)⟩
theorem length_any (c base : Nat) (hb : base ≤ 192) (h1 : base ≤ c) (h256 : c < 256) (a : Option Addr) (cc L : Nat) (r : List UInt8) (hL : r.length = L) (hLm : L ≤ maxLen) (g : Nat) (w : World) (hB : Blk 113 w g [.slice a L cc]) (h : Bytes w (.slice a L cc) r) :
    Calls Try.prog 124 #[.pointer (some ⟨g, 0, none⟩), .int .u8 (c : Int), .int .u8 (base : Int)] w (HdrPost (hdr c base r) (.slice a L cc) r g w) := by
  by_cases h2 : c < base + 48
  · have hh : hdr c base r = some (c - base, r) := by unfold hdr; rw [if_pos h2]
    rw [hh]
    refine (length_small c base hb h1 h2 g w).mono ?_
    rintro e w' ⟨rfl, rfl⟩
    exact ⟨a, cc, rfl, by rw [hL]; exact SubB.refl _ _, by rw [hL]; exact hB, World.grownBy.refl _ _⟩
  · exact length_big c base hb (by omega) h256 a cc L r hL hLm g w hB h
theorem HdrPost_none (v : Value) (r : List UInt8) (g : Nat) (w : World) : HdrPost none v r g w = fun e w' => e = .panicked mis ∧ w.grownBy w' (some g) := rfl
theorem HdrPost_some (k : Nat) (r' : List UInt8) (v : Value) (r : List UInt8) (g : Nat) (w : World) : HdrPost (some (k, r')) v r g w = fun e w' => ∃ a' c', e = .returned (.int .u64 (k : Int)) ∧ SubB v r (.slice a' r'.length c') r' ∧ Blk 113 w' g [.slice a' r'.length c'] ∧ w.grownBy w' (some g) := rfl
/-- what reading an item answers -/
def ItemPost (o : Option (Pit × List UInt8)) (v : Value) (b : List UInt8) (g : Nat) (w : World) (e : Ending) (w' : World) : Prop :=
  match o with
  | none => e = .panicked mis ∧ w.grownBy w' (some g)
  | some (p, r) => ∃ it a' c', e = .returned (.agg (icells it).toArray) ∧ SubB v b (.slice a' r.length c') r ∧ Blk 113 w' g [.slice a' r.length c'] ∧ w.grownBy w' (some g) ∧ Fp (fun x => w.heap.size ≤ x) w' it ∧ erI it = p ∧ BareI it
/-- the reader, on its way -/
structure Rd (w : World) (v0 : Value) (b0 : List UInt8) (g : Nat) (u : World) (a : Option Addr) (L c : Nat) (b : List UInt8) : Prop where
  hg : w.grownBy u (some g)
  hB : Blk 113 u g [.slice a L c]
  hs : SubB v0 b0 (.slice a L c) b
  hL : b.length = L
  hm : L ≤ maxLen
theorem Rd.start {w : World} {g : Nat} {a : Option Addr} {L c : Nat} {b : List UInt8} (hB : Blk 113 w g [.slice a L c]) (hL : b.length = L) (hm : L ≤ maxLen) : Rd w (.slice a L c) b g w a L c b :=
  ⟨World.grownBy.refl _ _, hB, SubB.refl _ _, hL, hm⟩
theorem Rd.alloc {w : World} {v0 : Value} {b0 : List UInt8} {g : Nat} {u : World} {a : Option Addr} {L c : Nat} {b : List UInt8} (h : Rd w v0 b0 g u a L c b) (o : Obj) : Rd w v0 b0 g (u.alloc o) a L c b :=
  ⟨grown_trans h.hg (World.grownBy_alloc _ _ _), h.hB.alloc o, h.hs, h.hL, h.hm⟩
theorem Rd.kept {w : World} {v0 : Value} {b0 : List UInt8} {g : Nat} {u u' : World} {a : Option Addr} {L c : Nat} {b : List UInt8} (h : Rd w v0 b0 g u a L c b) (hb : Below u.heap.size u u') : Rd w v0 b0 g u' a L c b :=
  ⟨grown_bel' h.hg hb, h.hB.kept hb, h.hs, h.hL, h.hm⟩
theorem Rd.fresh {w : World} {v0 : Value} {b0 : List UInt8} {g : Nat} {u u' : World} {a : Option Addr} {L c : Nat} {b : List UInt8} {row : Option Nat} (h : Rd w v0 b0 g u a L c b) (k : u.grownBy u' row) (hf : ∀ x, row = some x → w.heap.size ≤ x) (hg : g < w.heap.size) : Rd w v0 b0 g u' a L c b :=
  ⟨grown_fresh h.hg k hf, h.hB.grown k (fun e => by have := hf g e; omega), h.hs, h.hL, h.hm⟩
theorem Rd.next {w : World} {v0 : Value} {b0 : List UInt8} {g : Nat} {u u' : World} {a a' : Option Addr} {L c L' c' : Nat} {b b' : List UInt8} (h : Rd w v0 b0 g u a L c b) (hg : u.grownBy u' (some g)) (hB : Blk 113 u' g [.slice a' L' c']) (hs : SubB (.slice a L c) b (.slice a' L' c') b') (hL : b'.length = L') (hle : L' ≤ L) : Rd w v0 b0 g u' a' L' c' b' :=
  ⟨grown_trans h.hg hg, hB, h.hs.trans hs, hL, by have := h.hm; omega⟩
theorem Rd.bytes {w : World} {v0 : Value} {b0 : List UInt8} {g : Nat} {u : World} {a : Option Addr} {L c : Nat} {b : List UInt8} (h : Rd w v0 b0 g u a L c b) (h0 : ∀ u, w.grownBy u (some g) → Bytes u v0 b0) : Bytes u (.slice a L c) b := h.hs u (h0 u h.hg)
set_option maxHeartbeats 1000000 in
set_option maxRecDepth 100000 in
/-- no byte, or one that stands for itself -/
theorem item_low (n : Nat) (a : Option Addr) (L c : Nat) (b : List UInt8) (hL : b.length = L) (hLm : L ≤ maxLen) (h128 : ∀ x r, b = x :: r → x.toNat < 128) (g : Nat) (w : World) (hB : Blk 113 w g [.slice a L c]) (h : Bytes w (.slice a L c) b) :
    Calls Try.prog 72 #[.pointer (some ⟨g, 0, none⟩)] w (ItemPost (par (n + 1) b) (.slice a L c) b g w) := by
  have hglt := hB.lt
  have R0 := Rd.start hB hL hLm
  have h0 : ∀ u, w.grownBy u (some g) → Bytes u (.slice a L c) b := fun u hu => Bytes.off_r h hB ⟨_, _, _, rfl⟩ hu
  have hz1 := Blk.new w 25 [.bool false, .slice none 0 0, .slice none 0 0]
  have R1 := R0.alloc (.cells #[.bool false, .slice none 0 0, .slice none 0 0] 25)
  have hsz1 : w.heap.size ≤ (w.alloc (.cells #[.bool false, .slice none 0 0, .slice none 0 0] 25)).heap.size := by simp
  obtain ⟨w1, hw1⟩ : ∃ w1, w1 = w.alloc (.cells #[.bool false, .slice none 0 0, .slice none 0 0] 25) := ⟨_, rfl⟩
  rw [← hw1] at R1 hsz1
  change Blk _ (w.alloc (.cells #[.bool false, .slice none 0 0, .slice none 0 0] 25)) _ _ at hz1
  rw [← hw1] at hz1
  have hlt1 := hz1.lt
  have Hw1 := Lib.hid hw1
  clear hw1
  cases b with
  | nil =>
    have hp : par (n + 1) [] = none := by simp [par]
    rw [hp]
    have t1 : Calls Try.prog 123 #[.pointer (some ⟨g, 0, none⟩), .int .u64 1] w1 _ := take_bad a c L 1 hLm (by simp at hL; omega) g w1 R1.hB
    have hg1 := R1.hg
    have T1 := Lib.hid t1
    have HL := Lib.hid hL
    clear t1 hp h0 R0 R1 hL
    go_enter Try.func72, Try.ntmps72
    go_wp2_with fail
    rw [← Hw1.out]
    go_wp2_with (go_at_call 123; (with_reducible refine T1.out.mono ?_); rintro e w2 ⟨rfl, rfl⟩)
    exact ⟨rfl, rfl, hg1⟩
  | cons x r =>
    have hx := h128 x r rfl
    have hp : par (n + 1) (x :: r) = some (.txt [x], r) := by simp [par, hx]
    rw [hp]
    have t1 : Calls Try.prog 123 #[.pointer (some ⟨g, 0, none⟩), .int .u64 1] w1 _ := take_ok a c L 1 (x :: r) hL hLm (by rw [← hL]; simp) g w1 R1.hB (R1.bytes h0)
    have hrl : r.length = L - 1 := by rw [← hL]; simp
    have hxi : (x.toNat : Int) < 128 := by omega
    have hxd : decide ((x.toNat : Int) < 128) = true := by rw [decide_eq_true_eq]; exact hxi
    simp only [List.take_succ_cons, List.take_zero, List.drop_succ_cons, List.drop_zero] at t1
    have T1 := Lib.hid t1
    have Hrl := Lib.hid hrl
    have H0 := Lib.hid h0
    have HL := Lib.hid hL
    clear t1 hp h0 hrl hL h128 hx
    go_enter Try.func72, Try.ntmps72
    go_wp2_with fail
    rw [← Hw1.out]
    go_wp2_with (first
      | (go_at_call 123; (with_reducible refine T1.out.mono ?_); rintro e w2 ⟨a1, c1, a2, c2, rfl, r1, r2, B2, g2⟩; have R2 : Rd w (.slice a L c) (x :: r) g w2 a2 (L - 1) c2 r := R1.next g2 B2 r2 Hrl.out (by omega); have hz2 := hz1.grown g2 (by simp; omega); obtain ⟨b, off, rfl, hc⟩ := Bytes.at (r1 w2 (H0.out w2 R2.hg)) 0 (by simp); simp only [List.getElem_cons_zero, Nat.add_zero] at hc)
      | (refine wpList_build1 (o := ⟨some 15, _, _, _, _, _⟩) (by rfl) (.tmp 14) 22 (by rfl) elU8 (.int .u8 (x.toNat : Int)) [.int .u8 (x.toNat : Int)] (by rfl) (by rfl) rfl (by omega) ?_; have o3 := OwnOf.made b8 1 5 w2 w.heap.size [x] #[.int .u8 (x.toNat : Int)] 1 rfl rfl rfl (Nat.le_trans hsz1 g2.size) (by unfold maxLen; omega); have hz3 := hz2.alloc (.cells #[.int .u8 (x.toNat : Int)] 5); have R3 := R2.alloc (.cells #[.int .u8 (x.toNat : Int)] 5); have hsz2 := g2.size)
      | ((with_reducible show wpList _ _ _ (⟨none, Op.store _ _ _, _, _, _, _⟩ :: _) _ _); refine wpList_storeA (o := ⟨none, _, _, _, _, _⟩) (by rfl) 25 (.tmp 2) (.tmp 16) (by rfl) w.heap.size [.bool false, .slice (some ⟨w2.heap.size, 0, none⟩) 1 1, .slice none 0 0] (by rfl) (by rfl) aggItem hz3 (by rfl) (by rfl) (by intro u hu; simp at hu; rcases hu with rfl | rfl | rfl <;> rfl) (Below.refl _ _) (Nat.le_refl _) ?_; intro w5 hh5 _ hg5))
    have R5 := R3.fresh hg5 (fun y hy => by cases hy; exact Nat.le_refl _) hglt
    have o5 := o3.grown hg5 (fun k hk e => by cases hk; simp [Value.ownBlock] at e; have := g2.size; omega)
    refine bodyPost_ret (results_blk rfl _ _ w.heap.size aggItem hh5 rfl rfl) rfl ⟨.mk false (.slice (some ⟨w2.heap.size, 0, none⟩) 1 1) [x] (.slice none 0 0) [], a2, c2, rfl, ?_, ?_, R5.hg, Fp.txt o5 (fun _ h => h), by rw [erI_mk]; rfl, .txt _ _ _⟩
    · rw [Hrl.out]; exact R5.hs
    · rw [Hrl.out]; exact R5.hB
end Go.Proofs.Ytohenjgegkgncaa
