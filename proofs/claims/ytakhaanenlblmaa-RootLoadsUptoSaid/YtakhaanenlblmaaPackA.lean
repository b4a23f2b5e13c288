/- word.Sub. | word.Sub: the store lies in a region that draws its order: go_region_held3. | A store into an own slice of bytes; the sums of bytes. | The reference's WSub. | pack.Num and the reference's PNum. | pack.ToNum and the reference's PToNum. | The reference's PToNum. -/
import Derived.Test.YtakhaanenlblmaaWordA
import Derived.Shelf.Spec.BitsCarry
import Derived.Deep.RegionHeld3
import Derived.Test.YtakhaanenlblmaaBase
import Derived.Laws.ResultCell
/- (Word7) word.Sub. -/
set_option linter.unusedSimpArgs false
set_option linter.unusedVariables false
namespace Go.Proofs.Ytakhaanenlblmaa
open Go.RowKit
end Go.Proofs.Ytakhaanenlblmaa
/- (Word8) word.Sub: the store lies in a region that draws its order: go_region_held3. -/
namespace Go.Proofs.Ytakhaanenlblmaa
open Go.RowKit
end Go.Proofs.Ytakhaanenlblmaa
/- (Word9) A store into an own slice of bytes; the sums of bytes. -/
namespace Go.Proofs.Ytakhaanenlblmaa
open Go.RowKit
end Go.Proofs.Ytakhaanenlblmaa
/- (Word10) The reference's WSub. -/
namespace Go.Proofs.Ytakhaanenlblmaa
open Go.RowKit
theorem z4_zero:wcs 0=z4:=wcs_small 0 (by omega)
end Go.Proofs.Ytakhaanenlblmaa
/- (Pack1) pack.Num and the reference's PNum. -/
namespace Go.Proofs.Ytakhaanenlblmaa
open Go.RowKit
def bare (l:List UInt8):List UInt8:=l.dropWhile (· == 0)
def numB (N:Nat):List UInt8:=bare (wb N)
theorem bare_zero (l:List UInt8):bare (0::l)=bare l:=by simp [bare]
theorem bare_else (x:UInt8) (l:List UInt8) (h:x≠0):bare (x::l)=x::l:=by simp [bare,h]
theorem bare_len (l:List UInt8):(bare l).length≤l.length:=by
 induction l with
 | nil=>simp [bare]
 | cons x l ih =>
  by_cases h:x=0
  ·rw [h,bare_zero];simp;omega
  ·rw [bare_else x l h];exact Nat.le_refl _
theorem u8_nz (x:UInt8) (h:x≠0):((x.toNat:Int) == 0)=false:=by
 rw [beq_eq_false_iff_ne];intro e;apply h;exact UInt8.toNat_inj.1 (by have:(0:UInt8).toNat=0:=rfl;omega)
theorem u8_nz' (x:UInt8) (h:x≠0):((x.toNat:Int) != 0)=true:=by
 have:=u8_nz x h;simp [bne,this]
set_option maxHeartbeats 400000 in
set_option maxRecDepth 100000 in
theorem pnum_any (N:Nat) (w:World) :
  Calls Try.prog 185 #[wv N] w fun e w'=>∃ v,e=.returned v∧Bytes w' v (numB N)∧Below w.heap.size w w':=by
 have hb0:=boxW w N
 have hbel0:Below w.heap.size w (w.alloc (.cells (wcs N).toArray 40)):=(Below.refl _ _).alloc (Nat.le_refl _) _
 show Calls Try.prog 185 #[.agg (wcs N).toArray] w _
 go_enter Try.func185,Try.ntmps185
 go_wp2_with (first
  | (refine wpList_loadA rfl 40 (.tmp 1) rfl w.heap.size rfl aggWord hb0 (wcs_len _) ?_)
  | (go_at_call 112;refine (wbytes_any N _).mono ?_;rintro e w2 ⟨v,rfl,hv,b2⟩;obtain ⟨a,c,rfl,_⟩:=hv.form' 32 (wb_len N)))
 have hbel2:=hbel0.trans (b2.mono hbel0.size)
 have hr:Bytes w2 (.slice a 32 c) (wb N):=hv.row
 clear hbel0 b2 hv hb0
 go_loop [4,5,10] (fun _ _ i=>∃ k:Nat,k≤32∧i=.int .i64 (k:Int)∧numB N=bare ((wb N).drop k)) (fun _ _ i=>32 - (intOf i).toNat)
 case atStart=>exact ⟨0,by omega,rfl,rfl⟩
 case round =>
  obtain ⟨k,hk,rfl,hbare⟩:=hrel
  by_cases hlt:k<32
  ·obtain ⟨b,off,rfl,hc⟩:=hr.at k (by rw [wb_len];exact hlt)
   rw [List.drop_eq_getElem_cons (by rw [wb_len];exact hlt)] at hbare
   obtain ⟨x,hx⟩:∃ x,x=(wb N)[k]'(by rw [wb_len];exact hlt):=⟨_,rfl⟩
   rw [← hx] at hc hbare
   have hki:(k:Int)<32:=by omega
   by_cases h0:x=0
   ·subst h0
    rw [bare_zero] at hbare
    have Hb:=Lib.hid hbare
    clear hbare hx
    go_wp2
    go_round
    case rel=>exact ⟨k+1,by omega,by go_num,Hb.out⟩
    case measure=>simp [intOf];omega
   ·have hxz:=u8_nz' x h0
    rw [bare_else x _ h0,hx,← List.drop_eq_getElem_cons] at hbare
    have Hb:=Lib.hid hbare
    obtain ⟨a',c',s1,r1⟩:=RowOf.from elU8 hr k (by omega) (k:Int) rfl
    obtain ⟨m,hm⟩:∃ m,m=32 - k:=⟨_,rfl⟩
    rw [← hm] at s1 r1
    have hk':k≤32:=by omega
    clear hbare hx hm
    go_wp2
    go_ret
    exact ⟨_,rfl,by rw [Hb.out];exact r1,hbel2⟩
  ·obtain rfl:k=32:=by omega
   rw [List.drop_eq_nil_of_le (by rw [wb_len];omega)] at hbare
   have hb:numB N=[]:=hbare
   have Hb:=Lib.hid hb
   clear hbare hb
   go_wp2
   go_ret
   exact ⟨_,rfl,by rw [Hb.out];exact RowOf.nil _ _ _,hbel2⟩
end Go.Proofs.Ytakhaanenlblmaa
/- (Pack2) pack.ToNum and the reference's PToNum. -/
namespace Go.Proofs.Ytakhaanenlblmaa
open Go.RowKit
theorem bare_head (l:List UInt8):(bare l).head?≠some 0:=by
 induction l with
 | nil=>simp [bare]
 | cons x l ih =>
  by_cases h:x=0
  ·rw [h,bare_zero];exact ih
  ·rw [bare_else x l h];simpa using h
theorem bare_same (l:List UInt8) (h:l.head?≠some 0):bare l=l:=by
 cases l with
 | nil=>rfl
 | cons x l=>exact bare_else x l (by simpa using h)
theorem bare_pad (k:Nat) (l:List UInt8):bare (List.replicate k 0++l)=bare l:=by
 induction k with
 | zero=>rfl
 | succ k ih=>rw [List.replicate_succ,List.cons_append,bare_zero,ih]
theorem numL_pad (k:Nat) (l:List UInt8):numL (List.replicate k 0++l)=numL l:=by
 induction k with
 | zero=>rfl
 | succ k ih=>rw [List.replicate_succ,List.cons_append,numL,ih];simp
theorem numL_inj:∀ (l m:List UInt8),l.length=m.length→numL l=numL m→l=m
 | [],[],_,_=>rfl
 | [],_::_,h,_=>by simp at h
 | _::_,[],h,_=>by simp at h
 | x::l,y::m,h,e=>by
  have hl:l.length=m.length:=by simpa using h
  have b1:=numL_lt l
  have b2:=numL_lt m
  simp only [numL] at e
  rw [hl] at b1 e
  have ih:=numL_inj l m hl
  generalize 256 ^ m.length=P at *
  rcases Nat.lt_trichotomy x.toNat y.toNat with h1|h1|h1
  ·have:(x.toNat+1) * P≤y.toNat * P:=Nat.mul_le_mul_right _ h1
   rw [Nat.add_mul,Nat.one_mul] at this;omega
  ·obtain rfl:x=y:=UInt8.toNat_inj.1 h1
   rw [ih (by omega)]
  ·have:(y.toNat+1) * P≤x.toNat * P:=Nat.mul_le_mul_right _ h1
   rw [Nat.add_mul,Nat.one_mul] at this;omega
theorem numL_small (l:List UInt8) (h:l.length≤32):numL l<W256 :=
 Nat.lt_of_lt_of_le (numL_lt l) (by
  have:(256:Nat) ^ l.length≤256 ^ 32:=Nat.pow_le_pow_right (by omega) h
  exact this)
theorem wb_num (l:List UInt8) (h:l.length≤32):wb (numL l)=List.replicate (32 - l.length) 0++l:=by
 apply numL_inj
 ·rw [wb_len];simp;omega
 ·rw [numL_wb _ (numL_small l h),numL_pad]
def okNum (l:List UInt8):Bool:=decide (l.length≤32) && !(l.head? == some 0)
def numE (l:List UInt8):Int:=if okNum l=true then 0 else 1
def numV (l:List UInt8):Nat:=if okNum l=true then numL l else 0
theorem num_yes {l:List UInt8} (h:okNum l=true):numE l=0∧numV l=numL (last32 l):=by
 unfold numE numV
 rw [if_pos h,if_pos h]
 unfold okNum at h
 simp only [Bool.and_eq_true,decide_eq_true_eq] at h
 rw [last_small l h.1];exact ⟨rfl,rfl⟩
theorem num_no {l:List UInt8} (h:okNum l=false):numE l=1∧numV l=0:=by
 unfold numE numV
 rw [h];exact ⟨rfl,rfl⟩
theorem num_same (l:List UInt8):(numB (numL (last32 l)) == l)=okNum l:=by
 cases h:okNum l with
 | true =>
  unfold okNum at h
  simp only [Bool.and_eq_true,decide_eq_true_eq,Bool.not_eq_true',beq_eq_false_iff_ne] at h
  rw [last_small l h.1,numB,wb_num l h.1,bare_pad,bare_same l h.2]
  simp
 | false =>
  rw [beq_eq_false_iff_ne]
  intro e
  have h1:=bare_head (wb (numL (last32 l)))
  have h2:=bare_len (wb (numL (last32 l)))
  rw [wb_len] at h2
  unfold numB at e
  rw [e] at h1 h2
  have:okNum l=true:=by
   unfold okNum
   simp only [Bool.and_eq_true,decide_eq_true_eq,Bool.not_eq_true',beq_eq_false_iff_ne]
   exact ⟨h2,h1⟩
  rw [h] at this;cases this
end Go.Proofs.Ytakhaanenlblmaa
/- (Pack3) The reference's PToNum. -/
namespace Go.Proofs.Ytakhaanenlblmaa
open Go.RowKit
set_option maxHeartbeats 400000 in
set_option maxRecDepth 100000 in
theorem ptonum_any (a:Option Addr) (c:Nat) (l:List UInt8) (w:World) (h:Bytes w (.slice a l.length c) l) :
  Calls Try.prog 265 #[.slice a l.length c] w fun e w'=>e=.returned (.tuple #[wv (numV l),.int .i64 (numE l)])∧Below w.heap.size w w':=by
 have hz:=Blk.new w 40 z4
 have hbel:Below w.heap.size w (w.alloc (.cells z4.toArray 40)):=(Below.refl _ _).alloc (Nat.le_refl _) _
 have hsame:=num_same l
 go_enter Try.func265,Try.ntmps265
 go_wp2_with (first
  | (go_at_call 111;refine (wread_any a c l _ (h.alloc _)).mono ?_;rintro e w2 ⟨rfl,b2⟩;have hz2:=hz.kept b2;have hbel2:=hbel.trans (b2.mono hbel.size))
  | (refine wpList_storeA rfl 40 (.tmp 4) (.tmp 6) rfl w2.heap.size (wcs (numL (last32 l))) rfl rfl aggWord (Blk.new w2 40 z4) (wcs_len _) rfl (wcs_one _) (Below.alloc (Below.refl w2.heap.size w2) (Nat.le_refl _) _) (Nat.le_refl _) ?_;intro w3 hh3 b3 _))
 have hz3:=hz2.kept b3
 have hbel3:=hbel2.trans (b3.mono hbel2.size)
 have h3:=h.below hbel3
 have hs1:∀ u:Ext w3,(convert 22 9 (.slice a l.length c)).run Try.prog u.val=.ok (str l) u.val:=fun u=>run_str elU8.ht (by kernel_rfl) (by kernel_rfl) (u.row h3)
 have k0:=fun u:Ext w3=>u.cell (hh3.wat 0 (by omega))
 have k1:=fun u:Ext w3=>u.cell (hh3.wat 1 (by omega))
 have k2:=fun u:Ext w3=>u.cell (hh3.wat 2 (by omega))
 have k3:=fun u:Ext w3=>u.cell (hh3.wat 3 (by omega))
 clear hz hbel b2 hz2 hbel2 b3 h
 have Hsame:=Lib.hid hsame
 clear hsame
 refine wp_region_typed w3 6 (by kernel_rfl) (by kernel_rfl) (Below.refl _ _) ?_;simp only [List.take_succ_cons,List.take_zero,List.take_nil]
 (refine wpX_step (by rfl) (fun K hK=>?_);go_simp;first|(refine hK _ ?_;clear hK K)|(apply Exists.intro;refine ⟨fun _=>?_,hK _ ?_⟩;fail;clear hK K))
 refine wpX_rel 8 (fun v w1=>Bytes w1 v (numB (numL (last32 l)))) rfl (of_decide_eq_true rfl) (fun v w1 w2 h1 h2=>RowOf.kept h1 h2) (fun w1 hw1=>?_) ?_
 ·simp only [relOf,List.filter_nil,forallRel]
  refine ⟨rfl,?_⟩
  go_simp
  exact pnum_any (numL (last32 l)) _
 refine wpX_eq (str (numB (numL (last32 l)))) (fun w1 hw1=>?_) ?_
 ·change forallRel w1 [(8,_)] _ _
  intro v33 h33
  have hc:=run_str (P:=Try.prog) (w:=w1) (src:=22) (dst:=9) elU8.ht (by kernel_rfl) (by kernel_rfl) h33
  simp only [forallRel]
  refine ⟨rfl,?_⟩
  go_simp
  exact Below.refl _ _
 iterate 2 (refine wpX_step (by rfl) (fun K hK=>?_);go_simp;first|(refine hK _ ?_;clear hK K)|(apply Exists.intro;refine ⟨fun _=>?_,hK _ ?_⟩;fail;clear hK K))
 refine wpX_eq (.bool (okNum l)) (fun w1 hw1=>?_) ?_
 ·change forallRel w1 [] _ _
  simp only [forallRel]
  refine ⟨rfl,?_⟩
  go_simp
  exact ⟨Below.refl _ _,Hsame.out⟩
 refine wpX_end rfl ?_
 rintro w4 hw4 v8 _
 simp only [forallRel]
 have hz4:=hz3.kept hw4
 have hh4:=hh3.kept hw4
 have hbel4:=hbel3.trans (hw4.mono hbel3.size)
 clear k0 k1 k2 k3 hs1
 cases hok:okNum l with
 | true =>
  have H1:=Lib.hid (num_yes hok)
  clear hok
  go_wp2_with (first
   | (refine wpList_loadA rfl 40 (.tmp 4) rfl w2.heap.size rfl aggWord hh4 (wcs_len _) ?_)
   | (refine wpList_storeA rfl 40 (.tmp 2) (.tmp 13) rfl w.heap.size (wcs (numL (last32 l))) rfl rfl aggWord hz4 (wcs_len _) rfl (wcs_one _) hbel4 (by omega) ?_;intro w5 hb5 hbel5 _))
  exact bodyPost_ret (results_blk_tmp rfl _ _ w.heap.size aggWord hb5 rfl rfl rfl) rfl ⟨by rw [H1.out.1,H1.out.2];rfl,hbel5⟩
 | false =>
  have H1:=Lib.hid (num_no hok)
  clear hok
  go_wp2_with (first
   | (refine wpList_storeA rfl 40 (.tmp 2) (.tmp 14) rfl w.heap.size z4 rfl rfl aggWord hz4 rfl rfl (by rw [← z4_zero];exact wcs_one 0) hbel4 (by omega) ?_;intro w5 hb5 hbel5 _))
  exact bodyPost_ret (results_blk_tmp rfl _ _ w.heap.size aggWord hb5 rfl rfl rfl) rfl ⟨by rw [H1.out.1,H1.out.2];unfold wv;rw [z4_zero];rfl,hbel5⟩
end Go.Proofs.Ytakhaanenlblmaa
