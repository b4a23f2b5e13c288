/- word.Sub. | word.Sub: the store lies in a region that draws its order: go_region_held3. | A store into an own slice of bytes; the sums of bytes. | The reference -/
import Derived.Test.YtbdmkfjgnjfjbaaGreatLazyServesK19
import Derived.Shelf.Spec.BitsCarry
import Derived.Deep.RegionHeld3
import Derived.Test.YtbdmkfjgnjfjbaaGreatLazyServesK01
import Derived.Laws.ResultCell
set_option linter.unusedSimpArgs false
set_option linter.unusedVariables false
set_option maxHeartbeats 4000000
set_option maxRecDepth 100000
namespace Go.Proofs.YtbdmkfjgnjfjbaaGreat
open Go.RowKit
def bare (l:List UInt8):List UInt8:=l.dropWhile (· == 0)
def numB (N:Nat):List UInt8:=bare (wb N)
theorem Q24 (l:List UInt8):bare (0::l)=bare l:=by simp [bare]
theorem Q25 (x:UInt8)(l:List UInt8)(h:x≠0):bare (x::l)=x::l:=by simp [bare,h]
theorem Qkn (l:List UInt8):(bare l).length≤l.length:=by
 induction l with
 | nil=>simp [bare]
 | cons x l ih =>
  by_cases h:x=0
  ·rw [h,Q24];simp;omega
  ·rw [Q25 x l h];exact Nat.le_refl _
theorem u8_nz (x:UInt8)(h:x≠0):((x.toNat:Int) == 0)=false:=by
 rw [beq_eq_false_iff_ne];intro e;apply h;exact UInt8.toNat_inj.1 (by have:(0:UInt8).toNat=0:=rfl;omega)
theorem Q8j (N:Nat)(w:World) :
  Calls Tryz.prog 50 #[wv N] w fun e w'=>∃ v,e=.returned v∧OwnOf b8 1 5 w' w.heap.size v (numB N)∧Below w.heap.size w w':=by
 have hb0:=boxW w N
 have hbel0:Below w.heap.size w (w.alloc (.cells (wcs N).toArray 24)):=Qba _ _
 show Calls Tryz.prog 50 #[.agg (wcs N).toArray] w _
 go_enter Tryz.func50,Tryz.ntmps50
 go_wp2_with (first
  |(refine Q14 rfl 24 (.tmp 1) rfl w.heap.size rfl Q0f hb0 (Q0u _) ?_)
  |(go_at_call 64;refine (Q6s N _).mono ?_;rintro e w2 ⟨rfl,b2⟩)
  |(refine Q0j rfl 30 (.tmp 3) (.tmp 6) rfl w2.heap.size (hcs N) rfl rfl Q97 (Blk.new w2 30 z32) (Q3f _) rfl (Qhs _) (Below.alloc (Below.refl w2.heap.size w2) (Nat.le_refl _) _) (Nat.le_refl _) ?_;intro w3 hh3 b3 _))
 have hbel3:=hbel0.trans ((b2.trans (b3.mono b2.size)).mono hbel0.size)
 have hhrow:Bytes w3 (.slice (some ⟨w2.heap.size,0,none⟩) 32 32) (wb N):=hh3.row (wb N) 32 32 (fun _=>rfl) (wb_len N) (fun j u hj=>by rw [Q13] at hj;exact hj) (Nat.le_refl _) (by unfold maxLen;omega)
 have hsz:=hbel3.size
 clear hb0 hbel0 b2 b3
 go_loop [4] (fun v=>∃ (l':List UInt8) (n:Nat) (a:Option Addr) (c:Nat),l'.length=n∧n≤32∧v=.slice a n c∧Bytes w3 v l'∧numB N=bare l') (fun v=>lenV v)
 case atStart=>exact ⟨wb N,32,_,_,wb_len N,Nat.le_refl _,rfl,hhrow,rfl⟩
 case round =>
  clear hhrow
  obtain ⟨l',n,a,c,hn,hn32,rfl,hr,hbare⟩:=hrel
  cases l' with
  | nil =>
   obtain rfl:n=0:=by simpa using hn.symm
   have hb:numB N=[]:=hbare
   have Hb:=Qhd hb
   clear hbare hb hn
   go_wp2_with (at_builtin;(refine Q1b rfl (.tmp 19) (.tmp 20) 25 rfl elU8 rfl (OwnOf.empty b8 1 5 w3 w.heap.size hsz) rfl (hr.alloc _) (hbel3.alloc hsz _) (by simp;omega) (by simp) (by simp [maxLen]) ?_;intro v4 w4 hv4 hg4 _ hB4))
   go_ret
   exact ⟨_,rfl,by rw [Hb.out];exact hv4,hg4⟩
  | cons x t =>
   have hpos:0<n:=by rw [←hn];simp
   have hposi:(0:Int)<(n:Int):=by omega
   have hd:decide ((0:Int)<(n:Int))=true:=by rw [decide_eq_true_eq];omega
   have hd':decide (0<n)=true:=by rw [decide_eq_true_eq];omega
   obtain ⟨b,off,rfl,hc⟩:=hr.at 0 (by simp)
   simp only [List.getElem_cons_zero,Nat.add_zero] at hc
   by_cases hx:x=0
   ·subst hx
    rw [Q24] at hbare
    obtain ⟨a',c',s1,r1⟩:=RowOf.from elU8 hr 1 (by omega) 1 rfl
    obtain ⟨m,hm⟩:∃ m,m=n - 1:=⟨_,rfl⟩
    rw [←hm] at s1 r1
    have hmt:t.length=m:=by simp at hn;omega
    have hmn:m<n:=by omega
    have hm32:m≤32:=by omega
    simp only [List.drop_succ_cons,List.drop_zero] at r1
    have Hb:=Qhd hbare
    clear hm hn hbare
    go_wp2
    go_round
    case rel=>exact ⟨t,m,a',c',hmt,hm32,rfl,r1,Hb.out⟩
    case measure=>simpa [lenV] using hmn
   ·have hxz:=u8_nz x hx
    rw [Q25 x t hx] at hbare
    have Hb:=Qhd hbare
    have hn':=Qhd hn
    clear hbare hn
    go_wp2_with (at_builtin;(refine Q1b rfl (.tmp 19) (.tmp 20) 25 rfl elU8 rfl (OwnOf.empty b8 1 5 w3 w.heap.size hsz) rfl (hr.alloc _) (hbel3.alloc hsz _) (by simp;omega) (by rw [hn'.out];simp;omega) (by rw [hn'.out];simp [maxLen];omega) ?_;intro v4 w4 hv4 hg4 _ hB4))
    go_ret
    exact ⟨_,rfl,by rw [Hb.out];exact hv4,hg4⟩
theorem u8_nz' (x:UInt8)(h:x≠0):((x.toNat:Int) != 0)=true:=by
 have:=u8_nz x h;simp [bne,this]
theorem Qjn (N:Nat)(w:World) :
  Calls Tryz.prog 53 #[wv N] w fun e w'=>∃ v,e=.returned v∧Bytes w' v (numB N)∧Below w.heap.size w w':=by
 have hb0:=boxW w N
 have hbel0:Below w.heap.size w (w.alloc (.cells (wcs N).toArray 24)):=Qba _ _
 show Calls Tryz.prog 53 #[.agg (wcs N).toArray] w _
 go_enter Tryz.func53,Tryz.ntmps53
 go_wp2_with (first
  |(refine Q14 rfl 24 (.tmp 1) rfl w.heap.size rfl Q0f hb0 (Q0u _) ?_)
  |(go_at_call 66;refine (Q1s N _).mono ?_;rintro e w2 ⟨v,rfl,hv,b2⟩;obtain ⟨a,c,rfl,_⟩:=hv.form' 32 (wb_len N)))
 have hbel2:=hbel0.trans (b2.mono hbel0.size)
 have hr:Bytes w2 (.slice a 32 c) (wb N):=hv.row
 clear hbel0 b2 hv hb0
 go_loop [4,5,10] (fun _ _ i=>∃ k:Nat,k≤32∧i=.int .i64 (k:Int)∧numB N=bare ((wb N).drop k)) (fun _ _ i=>32 - (intOf i).toNat)
 case atStart=>exact ⟨0,by omega,rfl,rfl⟩
 case round =>
  obtain ⟨k,hk,rfl,hbare⟩:=hrel
  by_cases hlt:k<32
  ·obtain ⟨b,off,rfl,hc⟩:=hr.at k (by rw [wb_len];exact hlt)
   rw [List.drop_eq_getElem_cons (by rw [wb_len];exact hlt)] at hbare
   obtain ⟨x,hx⟩:∃ x,x=(wb N)[k]'(by rw [wb_len];exact hlt):=⟨_,rfl⟩
   rw [←hx] at hc hbare
   have hki:(k:Int)<32:=by omega
   by_cases h0:x=0
   ·subst h0
    rw [Q24] at hbare
    have Hb:=Qhd hbare
    clear hbare hx
    go_wp2
    go_round
    case rel=>exact ⟨k+1,by omega,by go_num,Hb.out⟩
    case measure=>simp [intOf];omega
   ·have hxz:=u8_nz' x h0
    rw [Q25 x _ h0,hx,←List.drop_eq_getElem_cons] at hbare
    have Hb:=Qhd hbare
    obtain ⟨a',c',s1,r1⟩:=RowOf.from elU8 hr k (by omega) (k:Int) rfl
    obtain ⟨m,hm⟩:∃ m,m=32 - k:=⟨_,rfl⟩
    rw [←hm] at s1 r1
    have hk':k≤32:=by omega
    clear hbare hx hm
    go_wp2
    go_ret
    exact ⟨_,rfl,by rw [Hb.out];exact r1,hbel2⟩
  ·obtain rfl:k=32:=by omega
   rw [List.drop_eq_nil_of_le (by rw [wb_len];omega)] at hbare
   have hb:numB N=[]:=hbare
   have Hb:=Qhd hb
   clear hbare hb
   go_wp2
   go_ret
   exact ⟨_,rfl,by rw [Hb.out];exact RowOf.nil _ _ _,hbel2⟩
theorem Qam (l:List UInt8):(bare l).head?≠some 0:=by
 induction l with
 | nil=>simp [bare]
 | cons x l ih =>
  by_cases h:x=0
  ·rw [h,Q24];exact ih
  ·rw [Q25 x l h];simpa using h
theorem Qig (l:List UInt8)(h:l.head?≠some 0):bare l=l:=by
 cases l with
 | nil=>rfl
 | cons x l=>exact Q25 x l (by simpa using h)
theorem Qkm (k:Nat)(l:List UInt8):bare (List.replicate k 0++l)=bare l:=by
 induction k with
 | zero=>rfl
 | succ k ih=>rw [List.replicate_succ,List.cons_append,Q24,ih]
theorem Qjs (k:Nat)(l:List UInt8):numL (List.replicate k 0++l)=numL l:=by
 induction k with
 | zero=>rfl
 | succ k ih=>rw [List.replicate_succ,List.cons_append,numL,ih];simp
theorem Q8k:∀ (l m:List UInt8),l.length=m.length→numL l=numL m→l=m
 | [],[],_,_=>rfl
 | [],_::_,h,_=>by simp at h
 | _::_,[],h,_=>by simp at h
 | x::l,y::m,h,e=>by
  have hl:l.length=m.length:=by simpa using h
  have b1:=Q4u l
  have b2:=Q4u m
  simp only [numL] at e
  rw [hl] at b1 e
  have ih:=Q8k l m hl
  generalize 256 ^ m.length=P at *
  rcases Nat.lt_trichotomy x.toNat y.toNat with h1|h1|h1
  ·have:(x.toNat+1)*P≤y.toNat*P:=Nat.mul_le_mul_right _ h1
   rw [Nat.add_mul,Nat.one_mul] at this;omega
  ·obtain rfl:x=y:=UInt8.toNat_inj.1 h1
   rw [ih (by omega)]
  ·have:(y.toNat+1)*P≤x.toNat*P:=Nat.mul_le_mul_right _ h1
   rw [Nat.add_mul,Nat.one_mul] at this;omega
end Go.Proofs.YtbdmkfjgnjfjbaaGreat
