/- word.Sub. | word.Sub: the store lies in a region that draws its order: go_region_held3. | A store into an own slice of bytes; the sums of bytes. | The reference -/
import Derived.Test.YtcgpjceopnfahaaGreatWorldChecksK08
import Derived.Shelf.Spec.BitsCarry
import Derived.Deep.RegionHeld3
import Derived.Test.YtcgpjceopnfahaaGreatWorldChecksK01
import Derived.Laws.ResultCell
set_option linter.unusedSimpArgs false
set_option linter.unusedVariables false
set_option maxHeartbeats 4000000
set_option maxRecDepth 100000
namespace Go.Proofs.YtcgpjceopnfahaaGreat
open Go.RowKit
theorem OwnOf.set {e:TypeId}{w:World}{B g n c:Nat}{l:List UInt8}(h:OwnOf b8 1 e w B (.slice (some ⟨g,0,none⟩) n c) l)(k:Nat)(x:UInt8) :
  OwnOf b8 1 e (w.setCell ⟨g,k,none⟩ (u8v x)) B (.slice (some ⟨g,0,none⟩) n c) (l.set k x):=by
 obtain ⟨h1,h2⟩:=h
 refine ⟨by rw [flat_b8,List.length_map,Nat.mul_one],?_⟩
 rcases h2 with ⟨h2,h3⟩|⟨g',cap,cur,h2,h3,h4,h5,h6,h7,h8⟩
 ·cases h2
 ·simp only [Value.slice.injEq,Option.some.injEq,Addr.mk.injEq,and_true] at h2
  obtain ⟨rfl,rfl,rfl⟩:=h2
  refine .inr ⟨g,c,cur.setIfInBounds k (u8v x),?_,h3,?_,?_,h6,?_,?_⟩
  ·rw [List.length_set]
  ·exact heap_setCell_same w g k cur e (u8v x) h4
  ·rw [List.length_set];exact h5
  ·simpa using h7
  ·rw [flat_b8] at h8 ⊢
   rw [List.length_set,Array.toList_setIfInBounds,List.map_set,←h8]
   rw [List.take_set]
theorem z4_zero:wcs 0=z4:=wcs_small 0 (by omega)
def bare (l:List UInt8):List UInt8:=l.dropWhile (· == 0)
def numB (N:Nat):List UInt8:=bare (wb N)
theorem bare_zero (l:List UInt8):bare (0::l)=bare l:=by simp [bare]
theorem bare_else (x:UInt8)(l:List UInt8)(h:x≠0):bare (x::l)=x::l:=by simp [bare,h]
theorem bare_len (l:List UInt8):(bare l).length≤l.length:=by
 induction l with
 | nil=>simp [bare]
 | cons x l ih =>
  by_cases h:x=0
  ·rw [h,bare_zero];simp;omega
  ·rw [bare_else x l h];exact Nat.le_refl _
theorem u8_nz (x:UInt8)(h:x≠0):((x.toNat:Int) == 0)=false:=by
 rw [beq_eq_false_iff_ne];intro e;apply h;exact UInt8.toNat_inj.1 (by have:(0:UInt8).toNat=0:=rfl;omega)
theorem num_any (N:Nat)(w:World) :
  Calls Tryz.prog 50 #[wv N] w fun e w'=>∃ v,e=.returned v∧OwnOf b8 1 5 w' w.heap.size v (numB N)∧Below w.heap.size w w':=by
 have hb0:=boxW w N
 have hbel0:Below w.heap.size w (w.alloc (.cells (wcs N).toArray 24)):=(Below.refl _ _).alloc (Nat.le_refl _) _
 show Calls Tryz.prog 50 #[.agg (wcs N).toArray] w _
 go_enter Tryz.func50,Tryz.ntmps50
 go_wp2_with (first
  |(refine wpList_loadA rfl 24 (.tmp 1) rfl w.heap.size rfl aggWord hb0 (wcs_len _) ?_)
  |(go_at_call 64;refine (bytes_any N _).mono ?_;rintro e w2 ⟨rfl,b2⟩)
  |(refine wpList_storeA rfl 30 (.tmp 3) (.tmp 6) rfl w2.heap.size (hcs N) rfl rfl aggHash (Blk.new w2 30 z32) (hcs_len _) rfl (hcs_one _) (Below.alloc (Below.refl w2.heap.size w2) (Nat.le_refl _) _) (Nat.le_refl _) ?_;intro w3 hh3 b3 _))
 have hbel3:=hbel0.trans ((b2.trans (b3.mono b2.size)).mono hbel0.size)
 have hhrow:Bytes w3 (.slice (some ⟨w2.heap.size,0,none⟩) 32 32) (wb N):=hh3.row (wb N) 32 32 (fun _=>rfl) (wb_len N) (fun j u hj=>by rw [flat_b8] at hj;exact hj) (Nat.le_refl _) (by unfold maxLen;omega)
 have hsz:=hbel3.size
 clear hb0 hbel0 b2 b3
 go_loop [4] (fun v=>∃ (l':List UInt8) (n:Nat) (a:Option Addr) (c:Nat),l'.length=n∧n≤32∧v=.slice a n c∧Bytes w3 v l'∧numB N=bare l') (fun v=>lenV v)
 case atStart=>exact ⟨wb N,32,_,_,wb_len N,Nat.le_refl _,rfl,hhrow,rfl⟩
 case round =>
  clear hhrow
  obtain ⟨l',n,a,c,hn,hn32,rfl,hr,hbare⟩:=hrel
  cases l' with
  | nil =>
   obtain rfl:n=0:=by simpa using hn.symm
   have hb:numB N=[]:=hbare
   have Hb:=Lib.hid hb
   clear hbare hb hn
   go_wp2_with (at_builtin;(refine wpList_app rfl (.tmp 19) (.tmp 20) 25 rfl elU8 rfl (OwnOf.empty b8 1 5 w3 w.heap.size hsz) rfl (hr.alloc _) (hbel3.alloc hsz _) (by simp;omega) (by simp) (by simp [maxLen]) ?_;intro v4 w4 hv4 hg4 _ hB4))
   go_ret
   exact ⟨_,rfl,by rw [Hb.out];exact hv4,hg4⟩
  | cons x t =>
   have hpos:0<n:=by rw [←hn];simp
   have hposi:(0:Int)<(n:Int):=by omega
   have hd:decide ((0:Int)<(n:Int))=true:=by rw [decide_eq_true_eq];omega
   have hd':decide (0<n)=true:=by rw [decide_eq_true_eq];omega
   obtain ⟨b,off,rfl,hc⟩:=hr.at 0 (by simp)
   simp only [List.getElem_cons_zero,Nat.add_zero] at hc
   by_cases hx:x=0
   ·subst hx
    rw [bare_zero] at hbare
    obtain ⟨a',c',s1,r1⟩:=RowOf.from elU8 hr 1 (by omega) 1 rfl
    obtain ⟨m,hm⟩:∃ m,m=n - 1:=⟨_,rfl⟩
    rw [←hm] at s1 r1
    have hmt:t.length=m:=by simp at hn;omega
    have hmn:m<n:=by omega
    have hm32:m≤32:=by omega
    simp only [List.drop_succ_cons,List.drop_zero] at r1
    have Hb:=Lib.hid hbare
    clear hm hn hbare
    go_wp2
    go_round
    case rel=>exact ⟨t,m,a',c',hmt,hm32,rfl,r1,Hb.out⟩
    case measure=>simpa [lenV] using hmn
   ·have hxz:=u8_nz x hx
    rw [bare_else x t hx] at hbare
    have Hb:=Lib.hid hbare
    have hn':=Lib.hid hn
    clear hbare hn
    go_wp2_with (at_builtin;(refine wpList_app rfl (.tmp 19) (.tmp 20) 25 rfl elU8 rfl (OwnOf.empty b8 1 5 w3 w.heap.size hsz) rfl (hr.alloc _) (hbel3.alloc hsz _) (by simp;omega) (by rw [hn'.out];simp;omega) (by rw [hn'.out];simp [maxLen];omega) ?_;intro v4 w4 hv4 hg4 _ hB4))
    go_ret
    exact ⟨_,rfl,by rw [Hb.out];exact hv4,hg4⟩
theorem u8_nz' (x:UInt8)(h:x≠0):((x.toNat:Int) != 0)=true:=by
 have:=u8_nz x h;simp [bne,this]
theorem pnum_any (N:Nat)(w:World) :
  Calls Tryz.prog 53 #[wv N] w fun e w'=>∃ v,e=.returned v∧Bytes w' v (numB N)∧Below w.heap.size w w':=by
 have hb0:=boxW w N
 have hbel0:Below w.heap.size w (w.alloc (.cells (wcs N).toArray 24)):=(Below.refl _ _).alloc (Nat.le_refl _) _
 show Calls Tryz.prog 53 #[.agg (wcs N).toArray] w _
 go_enter Tryz.func53,Tryz.ntmps53
 go_wp2_with (first
  |(refine wpList_loadA rfl 24 (.tmp 1) rfl w.heap.size rfl aggWord hb0 (wcs_len _) ?_)
  |(go_at_call 66;refine (wbytes_any N _).mono ?_;rintro e w2 ⟨v,rfl,hv,b2⟩;obtain ⟨a,c,rfl,_⟩:=hv.form' 32 (wb_len N)))
 have hbel2:=hbel0.trans (b2.mono hbel0.size)
 have hr:Bytes w2 (.slice a 32 c) (wb N):=hv.row
 clear hbel0 b2 hv hb0
 go_loop [4,5,10] (fun _ _ i=>∃ k:Nat,k≤32∧i=.int .i64 (k:Int)∧numB N=bare ((wb N).drop k)) (fun _ _ i=>32 - (intOf i).toNat)
 case atStart=>exact ⟨0,by omega,rfl,rfl⟩
 case round =>
  obtain ⟨k,hk,rfl,hbare⟩:=hrel
  by_cases hlt:k<32
  ·obtain ⟨b,off,rfl,hc⟩:=hr.at k (by rw [wb_len];exact hlt)
   rw [List.drop_eq_getElem_cons (by rw [wb_len];exact hlt)] at hbare
   obtain ⟨x,hx⟩:∃ x,x=(wb N)[k]'(by rw [wb_len];exact hlt):=⟨_,rfl⟩
   rw [←hx] at hc hbare
   have hki:(k:Int)<32:=by omega
   by_cases h0:x=0
   ·subst h0
    rw [bare_zero] at hbare
    have Hb:=Lib.hid hbare
    clear hbare hx
    go_wp2
    go_round
    case rel=>exact ⟨k+1,by omega,by go_num,Hb.out⟩
    case measure=>simp [intOf];omega
   ·have hxz:=u8_nz' x h0
    rw [bare_else x _ h0,hx,←List.drop_eq_getElem_cons] at hbare
    have Hb:=Lib.hid hbare
    obtain ⟨a',c',s1,r1⟩:=RowOf.from elU8 hr k (by omega) (k:Int) rfl
    obtain ⟨m,hm⟩:∃ m,m=32 - k:=⟨_,rfl⟩
    rw [←hm] at s1 r1
    have hk':k≤32:=by omega
    clear hbare hx hm
    go_wp2
    go_ret
    exact ⟨_,rfl,by rw [Hb.out];exact r1,hbel2⟩
  ·obtain rfl:k=32:=by omega
   rw [List.drop_eq_nil_of_le (by rw [wb_len];omega)] at hbare
   have hb:numB N=[]:=hbare
   have Hb:=Lib.hid hb
   clear hbare hb
   go_wp2
   go_ret
   exact ⟨_,rfl,by rw [Hb.out];exact RowOf.nil _ _ _,hbel2⟩
theorem bare_head (l:List UInt8):(bare l).head?≠some 0:=by
 induction l with
 | nil=>simp [bare]
 | cons x l ih =>
  by_cases h:x=0
  ·rw [h,bare_zero];exact ih
  ·rw [bare_else x l h];simpa using h
theorem bare_same (l:List UInt8)(h:l.head?≠some 0):bare l=l:=by
 cases l with
 | nil=>rfl
 | cons x l=>exact bare_else x l (by simpa using h)
theorem bare_pad (k:Nat)(l:List UInt8):bare (List.replicate k 0++l)=bare l:=by
 induction k with
 | zero=>rfl
 | succ k ih=>rw [List.replicate_succ,List.cons_append,bare_zero,ih]
theorem numL_pad (k:Nat)(l:List UInt8):numL (List.replicate k 0++l)=numL l:=by
 induction k with
 | zero=>rfl
 | succ k ih=>rw [List.replicate_succ,List.cons_append,numL,ih];simp
theorem numL_inj:∀ (l m:List UInt8),l.length=m.length→numL l=numL m→l=m
 | [],[],_,_=>rfl
 | [],_::_,h,_=>by simp at h
 | _::_,[],h,_=>by simp at h
 | x::l,y::m,h,e=>by
  have hl:l.length=m.length:=by simpa using h
  have b1:=numL_lt l
  have b2:=numL_lt m
  simp only [numL] at e
  rw [hl] at b1 e
  have ih:=numL_inj l m hl
  generalize 256 ^ m.length=P at *
  rcases Nat.lt_trichotomy x.toNat y.toNat with h1|h1|h1
  ·have:(x.toNat+1)*P≤y.toNat*P:=Nat.mul_le_mul_right _ h1
   rw [Nat.add_mul,Nat.one_mul] at this;omega
  ·obtain rfl:x=y:=UInt8.toNat_inj.1 h1
   rw [ih (by omega)]
  ·have:(y.toNat+1)*P≤x.toNat*P:=Nat.mul_le_mul_right _ h1
   rw [Nat.add_mul,Nat.one_mul] at this;omega
theorem numL_small (l:List UInt8)(h:l.length≤32):numL l<W256 :=
 Nat.lt_of_lt_of_le (numL_lt l) (by
  have:(256:Nat) ^ l.length≤256 ^ 32:=Nat.pow_le_pow_right (by omega) h
  exact this)
theorem wb_num (l:List UInt8)(h:l.length≤32):wb (numL l)=List.replicate (32 - l.length) 0++l:=by
 apply numL_inj
 ·rw [wb_len];simp;omega
 ·rw [numL_wb _ (numL_small l h),numL_pad]
def okNum (l:List UInt8):Bool:=decide (l.length≤32) && !(l.head? == some 0)
def numE (l:List UInt8):Int:=if okNum l=true then 0 else 1
def numV (l:List UInt8):Nat:=if okNum l=true then numL l else 0
theorem num_yes {l:List UInt8}(h:okNum l=true):numE l=0∧numV l=numL (last32 l):=by
 unfold numE numV
 rw [if_pos h,if_pos h]
 unfold okNum at h
 simp only [Bool.and_eq_true,decide_eq_true_eq] at h
 rw [last_small l h.1];exact ⟨rfl,rfl⟩
theorem num_no {l:List UInt8}(h:okNum l=false):numE l=1∧numV l=0:=by
 unfold numE numV
 rw [h];exact ⟨rfl,rfl⟩
theorem num_same (l:List UInt8):(numB (numL (last32 l)) == l)=okNum l:=by
 cases h:okNum l with
 | true =>
  unfold okNum at h
  simp only [Bool.and_eq_true,decide_eq_true_eq,Bool.not_eq_true',beq_eq_false_iff_ne] at h
  rw [last_small l h.1,numB,wb_num l h.1,bare_pad,bare_same l h.2]
  simp
 | false =>
  rw [beq_eq_false_iff_ne]
  intro e
  have h1:=bare_head (wb (numL (last32 l)))
  have h2:=bare_len (wb (numL (last32 l)))
  rw [wb_len] at h2
  unfold numB at e
  rw [e] at h1 h2
  have:okNum l=true:=by
   unfold okNum
   simp only [Bool.and_eq_true,decide_eq_true_eq,Bool.not_eq_true',beq_eq_false_iff_ne]
   exact ⟨h2,h1⟩
  rw [h] at this;cases this
theorem tonum_any (a:Option Addr)(c:Nat)(l:List UInt8)(w:World)(h:Bytes w (.slice a l.length c) l) :
  Calls Tryz.prog 43 #[.slice a l.length c] w fun e w'=>e=.returned (.tuple #[wv (numV l),.int .i64 (numE l)])∧Below w.heap.size w w':=by
 have hz:=Blk.new w 24 z4
 have hbel:Below w.heap.size w (w.alloc (.cells z4.toArray 24)):=(Below.refl _ _).alloc (Nat.le_refl _) _
 have hlm:=h.small
 unfold maxLen at hlm
 by_cases h32:32<l.length
 ·have hno:=num_no (l:=l) (by unfold okNum;rw [decide_eq_false (by omega)];rfl)
  rw [hno.1,hno.2]
  have g1:decide (32<l.length)=true:=by rw [decide_eq_true_eq];exact h32
  have g2:decide ((32:Int)<(l.length:Int))=true:=by rw [decide_eq_true_eq];omega
  clear hno
  go_enter Tryz.func43,Tryz.ntmps43
  go_wp2_with (first
   |(refine wpList_storeA rfl 24 (.tmp 2) (.tmp 18) rfl w.heap.size z4 rfl rfl aggWord hz rfl rfl (by rw [←z4_zero];exact wcs_one 0) hbel (by omega) ?_;intro w2 hb2 hbel2 _))
  exact bodyPost_ret (results_blk_tmp rfl _ _ w.heap.size aggWord hb2 rfl rfl rfl) rfl ⟨by unfold wv;rw [z4_zero];rfl,hbel2⟩
 ·have g1:decide (32<l.length)=false:=by rw [decide_eq_false_iff_not];exact h32
  have g2:decide ((32:Int)<(l.length:Int))=false:=by rw [decide_eq_false_iff_not];omega
  cases l with
  | nil =>
   have hyes:=num_yes (l:=[]) rfl
   rw [hyes.1,hyes.2]
   clear hyes
   have g3:decide (0<0)=false:=rfl
   go_enter Tryz.func43,Tryz.ntmps43
   simp only [List.length_nil] at *
   go_wp2_with (first
    |(go_at_call 85;refine (read_any a c [] _ (h.alloc _)).mono ?_;rintro e w3 ⟨rfl,b3⟩;have hz3:=hz.kept b3;have hbel3:=hbel.trans (b3.mono hbel.size))
    |(refine wpList_storeA rfl 24 (.tmp 2) (.tmp 20) rfl w.heap.size (wcs (numL (last32 []))) rfl rfl aggWord hz3 (wcs_len _) rfl (wcs_one _) hbel3 (by omega) ?_;intro w2 hb2 hbel2 _))
   exact bodyPost_ret (results_blk_tmp rfl _ _ w.heap.size aggWord hb2 rfl rfl rfl) rfl ⟨rfl,hbel2⟩
  | cons x t =>
   obtain ⟨n,hn⟩:∃ n,n=(x::t).length:=⟨_,rfl⟩
   have hn1:n=t.length+1:=by simpa using hn
   obtain ⟨b,off,rfl,hc⟩:=h.at 0 (by simp)
   simp only [List.getElem_cons_zero,Nat.add_zero] at hc
   have hc1:(w.alloc (.cells #[.int .u64 0,.int .u64 0,.int .u64 0,.int .u64 0] 24)).cell? ⟨b,off,none⟩=some (.int .u8 (x.toNat:Int)):=(Below.cell (Below.alloc (Below.refl w.heap.size w) (Nat.le_refl _) (.cells z4.toArray 24)) (World.block_lt_of_cell? w _ hc)).trans hc
   rw [←hn] at h hlm h32 g1 g2 ⊢
   have g3:decide (0<n)=true:=by rw [decide_eq_true_eq];omega
   have g4:decide ((0:Int)<(n:Int))=true:=by rw [decide_eq_true_eq];omega
   have g5:0<n:=by omega
   have g6:(0:Int)<(n:Int):=by omega
   by_cases hx:x=0
   ·have hno:=num_no (l:=x::t) (by unfold okNum;rw [hx];simp)
    rw [hno.1,hno.2]
    have hxz:((x.toNat:Int)==0)=true:=by rw [hx];rfl
    clear hno hn hn1 hx
    go_enter Tryz.func43,Tryz.ntmps43
    go_wp2_with (first
     |(refine wpList_storeA rfl 24 (.tmp 2) (.tmp 18) rfl w.heap.size z4 rfl rfl aggWord hz rfl rfl (by rw [←z4_zero];exact wcs_one 0) hbel (by omega) ?_;intro w2 hb2 hbel2 _))
    exact bodyPost_ret (results_blk_tmp rfl _ _ w.heap.size aggWord hb2 rfl rfl rfl) rfl ⟨by unfold wv;rw [z4_zero];rfl,hbel2⟩
   ·have hyes:=num_yes (l:=x::t) (by
     unfold okNum
     simp only [Bool.and_eq_true,decide_eq_true_eq,Bool.not_eq_true',beq_eq_false_iff_ne]
     exact ⟨by rw [←hn];omega,by simpa using hx⟩)
    rw [hyes.1,hyes.2]
    have hxz:=u8_nz x hx
    have hn':=Lib.hid hn
    clear hyes hn hn1
    go_enter Tryz.func43,Tryz.ntmps43
    go_wp2_with (first
     |(go_at_call 85;have hr:=h.alloc (.cells z4.toArray 24);rw [hn'.out] at hr ⊢;refine (read_any _ c (x::t) _ hr).mono ?_;rintro e w3 ⟨rfl,b3⟩;have hz3:=hz.kept b3;have hbel3:=hbel.trans (b3.mono hbel.size))
     |(refine wpList_storeA rfl 24 (.tmp 2) (.tmp 20) rfl w.heap.size (wcs (numL (last32 (x::t)))) rfl rfl aggWord hz3 (wcs_len _) rfl (wcs_one _) hbel3 (by omega) ?_;intro w2 hb2 hbel2 _))
    exact bodyPost_ret (results_blk_tmp rfl _ _ w.heap.size aggWord hb2 rfl rfl rfl) rfl ⟨rfl,hbel2⟩
theorem ptonum_any (a:Option Addr)(c:Nat)(l:List UInt8)(w:World)(h:Bytes w (.slice a l.length c) l) :
  Calls Tryz.prog 69 #[.slice a l.length c] w fun e w'=>e=.returned (.tuple #[wv (numV l),.int .i64 (numE l)])∧Below w.heap.size w w':=by
 have hz:=Blk.new w 24 z4
 have hbel:Below w.heap.size w (w.alloc (.cells z4.toArray 24)):=(Below.refl _ _).alloc (Nat.le_refl _) _
 have hsame:=num_same l
 go_enter Tryz.func69,Tryz.ntmps69
 go_wp2_with (first
  |(go_at_call 46;refine (wread_any a c l _ (h.alloc _)).mono ?_;rintro e w2 ⟨rfl,b2⟩;have hz2:=hz.kept b2;have hbel2:=hbel.trans (b2.mono hbel.size))
  |(refine wpList_storeA rfl 24 (.tmp 4) (.tmp 6) rfl w2.heap.size (wcs (numL (last32 l))) rfl rfl aggWord (Blk.new w2 24 z4) (wcs_len _) rfl (wcs_one _) (Below.alloc (Below.refl w2.heap.size w2) (Nat.le_refl _) _) (Nat.le_refl _) ?_;intro w3 hh3 b3 _))
 have hz3:=hz2.kept b3
 have hbel3:=hbel2.trans (b3.mono hbel2.size)
 have h3:=h.below hbel3
 have hs1:∀ u:Ext w3,(convert 25 9 (.slice a l.length c)).run Tryz.prog u.val=.ok (str l) u.val:=fun u=>run_str elU8.ht (by kernel_rfl) (by kernel_rfl) (u.row h3)
 have k0:=fun u:Ext w3=>u.cell (hh3.wat 0 (by omega))
 have k1:=fun u:Ext w3=>u.cell (hh3.wat 1 (by omega))
 have k2:=fun u:Ext w3=>u.cell (hh3.wat 2 (by omega))
 have k3:=fun u:Ext w3=>u.cell (hh3.wat 3 (by omega))
 clear hz hbel b2 hz2 hbel2 b3 h
 have Hsame:=Lib.hid hsame
 clear hsame
 refine wp_region_typed w3 6 (by kernel_rfl) (by kernel_rfl) (Below.refl _ _) ?_;simp only [List.take_succ_cons,List.take_zero,List.take_nil]
 (refine wpX_step (by rfl) (fun K hK=>?_);go_simp;first|(refine hK _ ?_;clear hK K)|(apply Exists.intro;refine ⟨fun _=>?_,hK _ ?_⟩;fail;clear hK K))
 refine wpX_rel 8 (fun v w1=>Bytes w1 v (numB (numL (last32 l)))) rfl (of_decide_eq_true rfl) (fun v w1 w2 h1 h2=>RowOf.kept h1 h2) (fun w1 hw1=>?_) ?_
 ·simp only [relOf,List.filter_nil,forallRel]
  refine ⟨rfl,?_⟩
  go_simp
  exact pnum_any (numL (last32 l)) _
 refine wpX_eq (str (numB (numL (last32 l)))) (fun w1 hw1=>?_) ?_
 ·change forallRel w1 [(8,_)] _ _
  intro v33 h33
  have hc:=run_str (P:=Tryz.prog) (w:=w1) (src:=25) (dst:=9) elU8.ht (by kernel_rfl) (by kernel_rfl) h33
  simp only [forallRel]
  refine ⟨rfl,?_⟩
  go_simp
  exact Below.refl _ _
 iterate 2 (refine wpX_step (by rfl) (fun K hK=>?_);go_simp;first|(refine hK _ ?_;clear hK K)|(apply Exists.intro;refine ⟨fun _=>?_,hK _ ?_⟩;fail;clear hK K))
 refine wpX_eq (.bool (okNum l)) (fun w1 hw1=>?_) ?_
 ·change forallRel w1 [] _ _
  simp only [forallRel]
  refine ⟨rfl,?_⟩
  go_simp
  exact ⟨Below.refl _ _,Hsame.out⟩
 refine wpX_end rfl ?_
 rintro w4 hw4 v8 _
 simp only [forallRel]
 have hz4:=hz3.kept hw4
 have hh4:=hh3.kept hw4
 have hbel4:=hbel3.trans (hw4.mono hbel3.size)
 clear k0 k1 k2 k3 hs1
 cases hok:okNum l with
 | true =>
  have H1:=Lib.hid (num_yes hok)
  clear hok
  go_wp2_with (first
   |(refine wpList_loadA rfl 24 (.tmp 4) rfl w2.heap.size rfl aggWord hh4 (wcs_len _) ?_)
   |(refine wpList_storeA rfl 24 (.tmp 2) (.tmp 13) rfl w.heap.size (wcs (numL (last32 l))) rfl rfl aggWord hz4 (wcs_len _) rfl (wcs_one _) hbel4 (by omega) ?_;intro w5 hb5 hbel5 _))
  exact bodyPost_ret (results_blk_tmp rfl _ _ w.heap.size aggWord hb5 rfl rfl rfl) rfl ⟨by rw [H1.out.1,H1.out.2];rfl,hbel5⟩
 | false =>
  have H1:=Lib.hid (num_no hok)
  clear hok
  go_wp2_with (first
   |(refine wpList_storeA rfl 24 (.tmp 2) (.tmp 14) rfl w.heap.size z4 rfl rfl aggWord hz4 rfl rfl (by rw [←z4_zero];exact wcs_one 0) hbel4 (by omega) ?_;intro w5 hb5 hbel5 _))
  exact bodyPost_ret (results_blk_tmp rfl _ _ w.heap.size aggWord hb5 rfl rfl rfl) rfl ⟨by rw [H1.out.1,H1.out.2];unfold wv;rw [z4_zero];rfl,hbel5⟩
end Go.Proofs.YtcgpjceopnfahaaGreat
