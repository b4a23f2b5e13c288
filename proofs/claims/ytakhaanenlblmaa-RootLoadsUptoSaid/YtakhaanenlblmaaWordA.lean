/- Words as numbers; word.Bytes and the reference's WBytes. | word.Cmp, word.Int and the reference's WInt, WLess, WCmp. | word.Int and the reference's WInt, WLess, WCmp. | The reference's WLess and WCmp. | word.Read and the reference's WRead. | word.Read. -/
import Derived.Test.YtakhaanenlblmaaTabs
import Derived.Test.YtakhaanenlblmaaBase
import Derived.Deep.Onto
import Derived.Sort.Walk0
/- (Word1) Words as numbers; word.Bytes and the reference's WBytes. -/
set_option linter.unusedSimpArgs false
set_option linter.unusedVariables false
namespace Go.Proofs.Ytakhaanenlblmaa
open Go.RowKit
theorem aggWord:Agg Try.prog 40 4:=⟨_,Try.underlying40,rfl,by kernel_rfl⟩
def lim (N i:Nat):Nat:=N / 2 ^ (64 * i) % 18446744073709551616
def limI (N:Nat):List Int:=[(lim N 0:Int),(lim N 1:Int),(lim N 2:Int),(lim N 3:Int)]
def wcs (N:Nat):List Value:=(limI N).map (Value.int .u64)
def wv (N:Nat):Value:=.agg (wcs N).toArray
theorem lim_lt (N i:Nat):lim N i<18446744073709551616:=Nat.mod_lt _ (by omega)
theorem wcs_len (N:Nat):(wcs N).length=4:=rfl
theorem wcs_at (N i:Nat) (h:i<4):(wcs N)[i]?=some (.int .u64 (lim N i:Int)):=by
 rcases (show i=0∨i=1∨i=2∨i=3 from by omega) with rfl|rfl|rfl|rfl <;> rfl
theorem wcs_one (N:Nat):∀ u∈wcs N,u.oneCell'=true:=by
 intro u hu
 obtain ⟨x,_,rfl⟩:=List.mem_map.1 hu
 rfl
theorem Blk.wat {e:TypeId} {w:World} {b N:Nat} (hb:Blk e w b (wcs N)) (i:Nat) (hi:i<4):w.cell? ⟨b,i,none⟩=some (.int .u64 (lim N i:Int)):=by
 rw [hb.cell,wcs_at N i hi]
def wbyte (N i:Nat):UInt8:=UInt8.ofNat (N / 2 ^ (8 * (31 - i)))
def wb (N:Nat):List UInt8:=(List.range 32).map (wbyte N)
theorem wb_len (N:Nat):(wb N).length=32:=by simp [wb]
theorem wb_get (N i:Nat) (h:i<(wb N).length):(wb N)[i]=wbyte N i:=by simp [wb]
theorem lim_byte (N q r:Nat) (hr:r≤7):lim N q / 2 ^ (8 * r) % 256=N / 2 ^ (8 * (8 * q+r)) % 256:=by
 unfold lim
 have h1:(18446744073709551616:Nat)=2 ^ (8 * r) * 2 ^ (64 - 8 * r):=by rw [← Nat.pow_add,show 8 * r+(64 - 8 * r)=64 from by omega]
 rw [h1,Nat.mod_mul_right_div_self,Nat.div_div_eq_div_mul,← Nat.pow_add,show 64 * q+8 * r=8 * (8 * q+r) from by omega]
 exact Nat.mod_mod_of_dvd _ ⟨2 ^ (56 - 8 * r),by rw [show (256:Nat)=2 ^ 8 from rfl,← Nat.pow_add,show 64 - 8 * r=8+(56 - 8 * r) from by omega]⟩
theorem wbyte_cell (N q r i:Nat) (hr:r≤7) (hi:8 * q+r=31 - i):IntKind.u8.wrap ((lim N q:Int) / 2 ^ (8 * r))=((wbyte N i).toNat:Int):=by
 have h:=lim_byte N q r hr
 have e:(lim N q:Int) / 2 ^ (8 * r)=((lim N q / 2 ^ (8 * r):Nat):Int):=by rw [Int.natCast_ediv,Int.natCast_pow];rfl
 rw [IntKind.wrap_u8',e,wbyte,← hi,UInt8.toNat_ofNat']
 rw [show 2 ^ 8=256 from rfl,← h]
 omega
theorem wb_snoc (N k:Nat) (h:k<32):(wb N).take (k+1)=(wb N).take k++[wbyte N k]:=by
 rw [List.take_succ_eq_append_getElem (by rw [wb_len];exact h),wb_get]
theorem boxW (w:World) (N:Nat):Blk 40 (w.alloc (.cells (wcs N).toArray 40)) w.heap.size (wcs N):=Blk.new w _ _
set_option maxHeartbeats 400000 in
set_option maxRecDepth 100000 in
theorem wbytes_any (N:Nat) (w:World) :
  Calls Try.prog 112 #[wv N] w fun e w'=>∃ v,e=.returned v∧OwnOf b8 1 5 w' w.heap.size v (wb N)∧Below w.heap.size w w':=by
 have hb0:=boxW w N
 have hbel0:Below w.heap.size w (w.alloc (.cells (wcs N).toArray 40)):=(Below.refl _ _).alloc (Nat.le_refl _) _
 show Calls Try.prog 112 #[.agg (wcs N).toArray] w _
 go_enter Try.func112,Try.ntmps112
 go_wp2
 go_loopw [3,4,5] (fun v i _ wr=>∃ (q:Nat) (x:Int),q≤4∧i=.int .i64 x∧x+1=(q:Int)∧OwnOf b8 1 5 wr (w.heap.size+1) v ((wb N).take (8 * (4 - q)))∧Blk 40 wr w.heap.size (wcs N)∧Below w.heap.size w wr∧w.heap.size+1≤wr.heap.size) (fun _ i _ _=>((intOf i)+1).toNat)
 case atStart=>exact ⟨4,3,by omega,rfl,rfl,by simpa using OwnOf.nil _ _ _ _ _,hb0,hbel0,by simp⟩
 case round =>
  clear hb0 hbel0
  obtain ⟨q,x,hq,rfl,hx,hown,hb,hbel,hB⟩:=hrel
  by_cases hlt:0<q
  ·obtain ⟨p,rfl⟩:∃ p,q=p+1:=⟨q - 1,by omega⟩
   obtain rfl:x=(p:Int):=by omega
   have hd:decide (0≤(p:Int))=true:=by rw [decide_eq_true_eq];omega
   go_wp2
   go_loopw [3,5] (fun v i wr=>∃ (j:Nat) (x:Int),j≤8∧i=.int .i64 x∧x+8=8 * (j:Int)∧OwnOf b8 1 5 wr (w.heap.size+1) v ((wb N).take (8 * (3 - p)+(8 - j)))∧Blk 40 wr w.heap.size (wcs N)∧Below w.heap.size w wr∧w.heap.size+1≤wr.heap.size) (fun _ i _=>((intOf i)+8).toNat)
   case atStart=>exact ⟨8,56,by omega,rfl,rfl,by rw [show 8 * (3 - p)+(8 - 8)=8 * (4 - (p+1)) from by omega];exact hown,hb,hbel,hB⟩
   case round =>
    clear hown hb hbel hB
    obtain ⟨j,x,hj,rfl,hx2,hown,hb,hbel,hB⟩:=hrel
    by_cases hlt2:0<j
    ·obtain ⟨r,rfl⟩:∃ r,j=r+1:=⟨j - 1,by omega⟩
     obtain ⟨s,hs⟩:∃ s,s=8 * r:=⟨_,rfl⟩
     obtain rfl:x=(s:Int):=by omega
     have hd2:decide (0≤(s:Int))=true:=by rw [decide_eq_true_eq];omega
     obtain ⟨g,hg⟩:∃ g,g=8 * (3 - p)+(7 - r):=⟨_,rfl⟩
     have hc:=hb.wat p (by omega)
     have hl:=lim_lt N p
     have hcell:=wbyte_cell N p r g (by omega) (by omega)
     rw [← hs] at hcell
     have hsn:=wb_snoc N g (by omega)
     have hl1:((wb N).take g).length=g:=by rw [List.length_take,wb_len];omega
     rw [show 8 * (3 - p)+(8 - (r+1))=g from by omega] at hown
     have hgn:8 * (3 - p)+(8 - r)=g+1:=by omega
     have hg32:g<32:=by omega
     have Hgn:=Lib.hid hgn
     have Hl1:=Lib.hid hl1
     have Hsn:=Lib.hid hsn
     have hsr:(s:Int) - 8+8=8 * (r:Int):=by omega
     clear hl1 hsn hs hgn hg
     go_wp2_with (at_builtin;(refine wpList_app rfl (.tmp 14) (.tmp 21) 22 rfl elU8 rfl (hown.alloc _) rfl (RowOf.made b8 1 _ [wbyte N g] _ _ 1 rfl rfl rfl (by decide)) (Below.alloc (Below.refl (w.heap.size+1) wr) hB _) (by simp;omega) (by rw [Hl1.out];simp;omega) (by rw [Hl1.out];simp [maxLen];omega) ?_;intro v4 w4 hv4 hg4 _ hB4))
     rw [← Hsn.out] at hv4
     go_roundw
     case rel =>
      exact ⟨r,(s:Int) - 8,by omega,by go_num,hsr,by rw [Hgn.out];exact hv4,hb.below hg4 (by omega),hbel.trans (hg4.mono (by omega)),hB4⟩
     case measure=>simp [intOf];omega
    ·obtain rfl:j=0:=by omega
     obtain rfl:x=-8:=by omega
     go_wp2
     go_roundw
     case rel=>exact ⟨p,(p:Int) - 1,by omega,by go_num,by omega,by rw [show 8 * (4 - p)=8 * (3 - p)+(8 - 0) from by omega];exact hown,hb,hbel,hB⟩
     case measure=>simp [intOf]
  ·obtain rfl:q=0:=by omega
   obtain rfl:x=-1:=by omega
   go_wp2
   go_ret
   refine ⟨_,rfl,?_,hbel⟩
   rw [List.take_of_length_le (by rw [wb_len];omega)] at hown
   exact World.ownsRow.mono hown (by omega)
def hcs (N:Nat):List Value:=(wb N).map u8v
end Go.Proofs.Ytakhaanenlblmaa
/- (Word2) word.Cmp, word.Int and the reference's WInt, WLess, WCmp. -/
namespace Go.Proofs.Ytakhaanenlblmaa
open Go.RowKit
theorem lim0 (N:Nat):lim N 0=N % 18446744073709551616:=by unfold lim;simp
theorem lim1 (N:Nat):lim N 1=N / 18446744073709551616 % 18446744073709551616:=rfl
theorem lim2 (N:Nat):lim N 2=N / 340282366920938463463374607431768211456 % 18446744073709551616:=rfl
theorem lim3 (N:Nat):lim N 3=N / 6277101735386680763835789423207666416102355444464034512896 % 18446744073709551616:=rfl
def W256:Nat:=115792089237316195423570985008687907853269984665640564039457584007913129639936
end Go.Proofs.Ytakhaanenlblmaa
/- (Word3) word.Int and the reference's WInt, WLess, WCmp. -/
namespace Go.Proofs.Ytakhaanenlblmaa
open Go.RowKit
def numL:List UInt8→Nat
 | []=>0
 | x::l=>x.toNat * 256 ^ l.length+numL l
theorem numL_snoc (l:List UInt8) (x:UInt8):numL (l++[x])=numL l * 256+x.toNat:=by
 induction l with
 | nil=>simp [numL]
 | cons y l ih =>
  simp only [List.cons_append,numL,ih,List.length_append,List.length_singleton,Nat.pow_succ,Nat.add_mul,Nat.mul_assoc]
  omega
theorem numL_lt (l:List UInt8):numL l<256 ^ l.length:=by
 induction l with
 | nil=>simp [numL]
 | cons x l ih =>
  have hx:=x.toNat_lt
  have:x.toNat * 256 ^ l.length+256 ^ l.length≤256 * 256 ^ l.length:=by rw [← Nat.succ_mul];exact Nat.mul_le_mul_right _ (by omega)
  simp only [numL,List.length_cons,Nat.pow_succ]
  omega
theorem numL_take (N k:Nat) (h:k≤32):numL ((wb N).take k)=N / 2 ^ (8 * (32 - k)) % 256 ^ k:=by
 induction k with
 | zero=>simp [numL,Nat.mod_one]
 | succ k ih =>
  rw [wb_snoc N k (by omega),numL_snoc,ih (by omega),wbyte,UInt8.toNat_ofNat',show 2 ^ 8=256 from rfl]
  have e:N / 2 ^ (8 * (32 - k))=N / 2 ^ (8 * (31 - k)) / 256:=by
   rw [Nat.div_div_eq_div_mul,show (256:Nat)=2 ^ 8 from rfl,← Nat.pow_add,show 8 * (31 - k)+8=8 * (32 - k) from by omega]
  rw [e,show 32 - (k+1)=31 - k from by omega,Nat.pow_succ,Nat.mul_comm (256 ^ k) 256,Nat.mod_mul]
  omega
theorem numL_wb (N:Nat) (h:N<W256):numL (wb N)=N:=by
 have:=numL_take N 32 (by omega)
 rw [List.take_of_length_le (by rw [wb_len];omega)] at this
 rw [this]
 simp only [Nat.sub_self,Nat.mul_zero,Nat.pow_zero,Nat.div_one]
 exact Nat.mod_eq_of_lt h
theorem wcs_small (n:Nat) (h:n<18446744073709551616):wcs n=[.int .u64 (n:Int),.int .u64 0,.int .u64 0,.int .u64 0]:=by
 have e0:lim n 0=n:=by rw [lim0];omega
 have e1:lim n 1=0:=by rw [lim1];omega
 have e2:lim n 2=0:=by rw [lim2];omega
 have e3:lim n 3=0:=by rw [lim3];omega
 unfold wcs limI
 rw [e0,e1,e2,e3];rfl
def z4:List Value:=[.int .u64 0,.int .u64 0,.int .u64 0,.int .u64 0]
set_option maxHeartbeats 400000 in
set_option maxRecDepth 100000 in
theorem int_any (n:Nat) (h:n<18446744073709551616) (w:World) :
  Calls Try.prog 103 #[.int .u64 (n:Int)] w fun e w'=>e=.returned (wv n)∧Below w.heap.size w w':=by
 have hz:=Blk.new w 40 z4
 have hbel:Below w.heap.size w (w.alloc (.cells z4.toArray 40)):=(Below.refl _ _).alloc (Nat.le_refl _) _
 have hws:=wcs_small n h
 go_enter Try.func103,Try.ntmps103
 go_wp2_with (first
  | (refine wpList_storeA rfl 40 (.tmp 2) (.tmp 4) rfl (w.heap.size) [.int .u64 (n:Int),.int .u64 0,.int .u64 0,.int .u64 0] rfl rfl aggWord hz rfl rfl (by rw [← hws];exact wcs_one n) hbel (by omega) ?_;intro w2 hb2 hbel2 _))
 exact bodyPost_ret (results_blk rfl _ _ (w.heap.size) aggWord hb2 rfl rfl) rfl ⟨by unfold wv;rw [hws],hbel2⟩
set_option maxHeartbeats 400000 in
set_option maxRecDepth 100000 in
theorem wint_any (n:Nat) (h:n<18446744073709551616) (w:World) :
  Calls Try.prog 109 #[.int .u64 (n:Int)] w fun e w'=>e=.returned (wv n)∧Below w.heap.size w w':=by
 have hz:=Blk.new w 40 z4
 have hbel:Below w.heap.size w (w.alloc (.cells z4.toArray 40)):=(Below.refl _ _).alloc (Nat.le_refl _) _
 have hws:=wcs_small n h
 go_enter Try.func109,Try.ntmps109
 go_wp2_with (first
  | (refine wpList_storeA rfl 40 (.tmp 2) (.tmp 4) rfl (w.heap.size) [.int .u64 (n:Int),.int .u64 0,.int .u64 0,.int .u64 0] rfl rfl aggWord hz rfl rfl (by rw [← hws];exact wcs_one n) hbel (by omega) ?_;intro w2 hb2 hbel2 _))
 exact bodyPost_ret (results_blk rfl _ _ (w.heap.size) aggWord hb2 rfl rfl) rfl ⟨by unfold wv;rw [hws],hbel2⟩
end Go.Proofs.Ytakhaanenlblmaa
/- (Word4) The reference's WLess and WCmp. -/
namespace Go.Proofs.Ytakhaanenlblmaa
open Go.RowKit
end Go.Proofs.Ytakhaanenlblmaa
/- (Word5) word.Read and the reference's WRead. -/
namespace Go.Proofs.Ytakhaanenlblmaa
open Go.RowKit
theorem u64_or_add (x y k:Nat) (hx:x<18446744073709551616) (hk:k≤64) (h1:x % 2 ^ k=0) (h2:y<2 ^ k):bits .or .u64 (x:Int) (y:Int)=((x+y:Nat):Int):=by
 have h3:2 ^ k≤2 ^ 64:=Nat.pow_le_pow_right (by omega) hk
 rw [u64_or_nat x y hx (by omega),nat_join k x y h1 h2]
theorem lim_push0 (N x:Nat) (hx:x<256):bits .or .u64 (IntKind.u64.wrap ((lim N 0:Int) * 256)) (x:Int)=(lim (N * 256+x) 0:Int):=by
 have e:IntKind.u64.wrap ((lim N 0:Int) * 256)=((lim N 0 * 256 % 18446744073709551616:Nat):Int):=by rw [IntKind.wrap_u64];omega
 rw [e,u64_or_add _ x 8 (Nat.mod_lt _ (by omega)) (by omega) (by omega) (by omega),lim0,lim0]
 omega
theorem lim_push (N x i j:Nat) (hx:x<256) (hj:j=i+1):bits .or .u64 (IntKind.u64.wrap ((lim N j:Int) * 256)) ((lim N i:Int) / 72057594037927936)=(lim (N * 256+x) j:Int):=by
 have e:IntKind.u64.wrap ((lim N j:Int) * 256)=((lim N j * 256 % 18446744073709551616:Nat):Int):=by rw [IntKind.wrap_u64];omega
 have e2:(lim N i:Int) / 72057594037927936=((lim N i / 72057594037927936:Nat):Int):=by omega
 have hl:=lim_lt N i
 rw [e,e2,u64_or_add _ _ 8 (Nat.mod_lt _ (by omega)) (by omega) (by omega) (by omega)]
 subst hj
 have hq:N / 2 ^ (64 * (i+1))=N / 2 ^ (64 * i) / 18446744073709551616:=by
  rw [Nat.div_div_eq_div_mul,show (18446744073709551616:Nat)=2 ^ 64 from rfl,← Nat.pow_add,show 64 * i+64=64 * (i+1) from by omega]
 have hr:(N * 256+x) / 2 ^ (64 * (i+1))=N / 2 ^ (64 * i) / 72057594037927936:=by
  have:2 ^ (64 * (i+1))=256 * (2 ^ (64 * i) * 72057594037927936):=by
   rw [show (256:Nat)=2 ^ 8 from rfl,show (72057594037927936:Nat)=2 ^ 56 from rfl,← Nat.pow_add,← Nat.pow_add,show 8+(64 * i+56)=64 * (i+1) from by omega]
  rw [this,← Nat.div_div_eq_div_mul,← Nat.div_div_eq_div_mul,show (N * 256+x) / 256=N from by omega]
 unfold lim
 rw [hq,hr]
 generalize N / 2 ^ (64 * i)=y
 omega
theorem wcs_push (N x:Nat) (hx:x<256) :
  [Value.int .u64 (bits .or .u64 (IntKind.u64.wrap ((lim N 0:Int) * 256)) (x:Int)),
   .int .u64 (bits .or .u64 (IntKind.u64.wrap ((lim N 1:Int) * 256)) ((lim N 0:Int) / 72057594037927936)),
   .int .u64 (bits .or .u64 (IntKind.u64.wrap ((lim N 2:Int) * 256)) ((lim N 1:Int) / 72057594037927936)),
   .int .u64 (bits .or .u64 (IntKind.u64.wrap ((lim N 3:Int) * 256)) ((lim N 2:Int) / 72057594037927936))]=wcs (N * 256+x):=by
 rw [lim_push0 N x hx,lim_push N x 0 1 hx rfl,lim_push N x 1 2 hx rfl,lim_push N x 2 3 hx rfl];rfl
theorem numL_next (l:List UInt8) (k:Nat) (h:k<l.length):numL (l.take (k+1))=numL (l.take k) * 256+l[k].toNat:=by
 rw [List.take_succ_eq_append_getElem h,numL_snoc]
def last32 (l:List UInt8):List UInt8:=l.drop (l.length - 32)
theorem last_small (l:List UInt8) (h:l.length≤32):last32 l=l:=by
 unfold last32;rw [show l.length - 32=0 from by omega];rfl
set_option maxHeartbeats 400000 in
set_option maxRecDepth 100000 in
theorem wread_any (a:Option Addr) (c:Nat) (l:List UInt8) (w:World) (h:Bytes w (.slice a l.length c) l) :
  Calls Try.prog 111 #[.slice a l.length c] w fun e w'=>e=.returned (wv (numL (last32 l)))∧Below w.heap.size w w':=by
 obtain ⟨d,hd⟩:∃ d,d=l.length - 32:=⟨_,rfl⟩
 obtain ⟨M,hM⟩:∃ M,M=last32 l:=⟨_,rfl⟩
 obtain ⟨n,hn⟩:∃ n,n=l.length - d:=⟨_,rfl⟩
 have hMn:M.length=n:=by rw [hM,last32,List.length_drop];omega
 obtain ⟨a',c',hs,hr⟩:=RowOf.from elU8 h d (by omega) (d:Int) rfl
 rw [← hn] at hr hs
 have hr:Bytes w (.slice a' n c') M:=by rw [hM,last32,← hd];exact hr
 have hz0:Blk 40 (((w.alloc (.cells z4.toArray 40)).alloc (.cells z4.toArray 40))) w.heap.size z4:=(Blk.new w 40 z4).alloc _
 have hy0:Blk 40 (((w.alloc (.cells z4.toArray 40)).alloc (.cells z4.toArray 40))) (w.heap.size+1) z4:=by
  have:=Blk.new (w.alloc (.cells z4.toArray 40)) 40 z4;simpa using this
 have hbel0:Below w.heap.size w ((w.alloc (.cells z4.toArray 40)).alloc (.cells z4.toArray 40)):=((Below.refl _ _).alloc (Nat.le_refl _) _).alloc (by simp) _
 have hlm:=h.small
 unfold maxLen at hlm
 have e0:max (0:Int) ((l.length:Int) - 32)=(d:Int):=by omega
 have e1:IntKind.i64.wrap ((l.length:Int) - 32)=(l.length:Int) - 32:=IntWalk.i64_in _ (by omega)
 rw [← hM]
 have hn32:n≤32:=by omega
 have HM:=Lib.hid hMn
 clear hM hMn hd hn h
 go_enter Try.func111,Try.ntmps111
 go_wp2
 go_loopw [5,14] (fun _ i wr=>∃ k:Nat,k≤n∧i=.int .i64 (k:Int)∧Blk 40 wr w.heap.size z4∧Blk 40 wr (w.heap.size+1) (wcs (numL (M.take k)))∧Below w.heap.size w wr) (fun _ i _=>n - (intOf i).toNat)
 case atStart=>exact ⟨0,by omega,rfl,hz0,by rw [List.take_zero,show numL []=0 from rfl,wcs_small 0 (by omega)];exact hy0,hbel0⟩
 case round =>
  clear hz0 hy0 hbel0
  obtain ⟨k,hk,rfl,hz,hy,hbel⟩:=hrel
  by_cases hlt:k<n
  ·obtain ⟨b,off,rfl,hbl,hc0⟩:=hr.later hbel k (by rw [HM.out];exact hlt)
   have hnx:=numL_next M k (by rw [HM.out];exact hlt)
   obtain ⟨x,hx⟩:∃ x,x=M[k]'(by rw [HM.out];exact hlt):=⟨_,rfl⟩
   rw [← hx] at hnx hc0
   have hx8:=u8_lt x
   obtain ⟨N,hN⟩:∃ N,N=numL (M.take k):=⟨_,rfl⟩
   rw [← hN] at hnx hy
   have hp:=wcs_push N x.toNat x.toNat_lt
   rw [← hnx] at hp
   have Hp:=Lib.hid hp
   have c0:=hy.wat 0 (by omega)
   have c1:=hy.wat 1 (by omega)
   have c2:=hy.wat 2 (by omega)
   have c3:=hy.wat 3 (by omega)
   have l0:=lim_lt N 0
   have l1:=lim_lt N 1
   have l2:=lim_lt N 2
   have l3:=lim_lt N 3
   clear hp hnx hN hx
   go_wp2_with (first
    | (refine wpList_storeA rfl 40 (.tmp 3) (.tmp 45) rfl (w.heap.size+1) _ rfl rfl aggWord hy (by rw [Hp.out];rfl) rfl (by rw [Hp.out];exact wcs_one _) hbel (by omega) ?_;intro w2 hb2 hbel2 hg2))
   rw [Hp.out] at hb2
   go_roundw
   case rel=>exact ⟨k+1,by omega,by go_num,hz.grown hg2 (by simp),hb2,hbel2⟩
   case measure=>simp [intOf];omega
  ·obtain rfl:k=n:=by omega
   have hdk:decide ((k:Int)<(k:Int))=false:=by rw [decide_eq_false_iff_not];omega
   rw [List.take_of_length_le (by rw [HM.out];exact Nat.le_refl _)] at hy
   go_wp2_with (first
    | (refine wpList_loadA rfl 40 (.tmp 3) rfl (w.heap.size+1) rfl aggWord hy (wcs_len _) ?_)
    | (refine wpList_storeA rfl 40 (.tmp 2) (.tmp 47) rfl w.heap.size (wcs (numL M)) rfl rfl aggWord hz (wcs_len _) rfl (wcs_one _) hbel (by omega) ?_;intro w2 hb2 hbel2 _))
   exact bodyPost_ret (results_blk rfl _ _ w.heap.size aggWord hb2 (wcs_len _) rfl) rfl ⟨rfl,hbel2⟩
end Go.Proofs.Ytakhaanenlblmaa
/- (Word6) word.Read. -/
namespace Go.Proofs.Ytakhaanenlblmaa
open Go.RowKit
theorem lim_below (N x k q j:Nat) (hk:8 * q≤k) (hj:j<q):lim (x * 256 ^ k+N) j=lim N j:=by
 unfold lim
 have e:x * 256 ^ k=2 ^ (64 * j) * (18446744073709551616 * (x * 2 ^ (8 * k - 64 * j - 64))):=by
  rw [show (256:Nat)=2 ^ 8 from rfl,← Nat.pow_mul,show (18446744073709551616:Nat)=2 ^ 64 from rfl]
  rw [Nat.mul_left_comm (2 ^ 64) x,Nat.mul_left_comm (2 ^ (64 * j)) x,← Nat.pow_add,← Nat.pow_add,show 64 * j+(64+(8 * k - 64 * j - 64))=8 * k from by omega]
 rw [e,Nat.mul_add_div (Nat.two_pow_pos _)]
 generalize x * 2 ^ (8 * k - 64 * j - 64)=y
 omega
theorem lim_over (N j k:Nat) (hN:N<256 ^ k) (hk:k≤8 * j):lim N j=0:=by
 unfold lim
 have h1:(256:Nat) ^ k≤2 ^ (64 * j):=by
  rw [show (256:Nat)=2 ^ 8 from rfl,← Nat.pow_mul];exact Nat.pow_le_pow_right (by omega) (by omega)
 rw [Nat.div_eq_of_lt (by omega)]
theorem lim_on (N x k q r s:Nat) (hk:k=8 * q+r) (hr:r<8) (hs:s=8 * r) (hN:N<256 ^ k) (hx:x<256) :
  bits .or .u64 (lim N q:Int) (IntKind.u64.wrap ((x:Int) * 2 ^ s))=(lim (x * 256 ^ k+N) q:Int):=by
 have hp:(256:Nat) ^ k=2 ^ (64 * q) * 2 ^ s:=by rw [show (256:Nat)=2 ^ 8 from rfl,← Nat.pow_mul,← Nat.pow_add,show 64 * q+s=8 * k from by omega]
 have hd:N / 2 ^ (64 * q)<2 ^ s:=by
  rw [Nat.div_lt_iff_lt_mul (Nat.two_pow_pos _),Nat.mul_comm,← hp];exact hN
 have h56:2 ^ s≤2 ^ 56:=Nat.pow_le_pow_right (by omega) (by omega)
 have hm:x * 2 ^ s≤255 * 2 ^ s:=Nat.mul_le_mul_right _ (by omega)
 have e:IntKind.u64.wrap ((x:Int) * 2 ^ s)=((x * 2 ^ s:Nat):Int):=by
  have:(x:Int) * 2 ^ s=((x * 2 ^ s:Nat):Int):=by rw [Int.natCast_mul,Int.natCast_pow];rfl
  rw [this,IntKind.wrap_u64];omega
 have hmod:x * 2 ^ s % 2 ^ s=0:=Nat.mul_mod_left _ _
 have e2:lim N q=N / 2 ^ (64 * q):=by unfold lim;exact Nat.mod_eq_of_lt (Nat.lt_of_lt_of_le hd (by omega))
 have b1:N / 2 ^ (64 * q)<18446744073709551616:=Nat.lt_of_lt_of_le hd (by omega)
 have b2:x * 2 ^ s<18446744073709551616:=by omega
 have e3:lim (x * 256 ^ k+N) q=(x * 2 ^ s+N / 2 ^ (64 * q)) % 18446744073709551616:=by
  unfold lim
  rw [hp,Nat.mul_left_comm,Nat.mul_add_div (Nat.two_pow_pos _)]
 rw [e,e2,u64_or_nat _ _ b1 b2,Nat.or_comm,nat_join s _ _ hmod hd,e3]
 generalize N / 2 ^ (64 * q)=y at *
 generalize x * 2 ^ s=z at *
 generalize 2 ^ s=S at *
 congr 1
 exact (Nat.mod_eq_of_lt (by omega)).symm
theorem wcs_on (N x k q r s:Nat) (h32:k<32) (hk:k=8 * q+r) (hr:r<8) (hs:s=8 * r) (hN:N<256 ^ k) (hx:x<256) :
  (wcs N).set q (.int .u64 (bits .or .u64 (lim N q:Int) (IntKind.u64.wrap ((x:Int) * 2 ^ s))))=wcs (x * 256 ^ k+N):=by
 rw [lim_on N x k q r s hk hr hs hN hx]
 have hN2:x * 256 ^ k+N<256 ^ (k+1):=by
  have:x * 256 ^ k≤255 * 256 ^ k:=Nat.mul_le_mul_right _ (by omega)
  rw [Nat.pow_succ];omega
 apply List.ext_getElem?
 intro j
 by_cases hj:j<4
 ·rw [wcs_at _ j hj]
  by_cases hq:q=j
  ·subst hq
   rw [List.getElem?_set_self (by rw [wcs_len];exact hj)]
  ·rw [List.getElem?_set_ne hq,wcs_at _ j hj]
   rcases Nat.lt_or_ge j q with h1|h1
   ·rw [lim_below N x k q j (by omega) h1]
   ·rw [lim_over N j k hN (by omega),lim_over _ j (k+1) hN2 (by omega)]
 ·rw [List.getElem?_eq_none (by rw [List.length_set,wcs_len];omega),List.getElem?_eq_none (by rw [wcs_len];omega)]
theorem numL_back (l:List UInt8) (k j:Nat) (hj:j+k+1=l.length):numL (l.drop (l.length - (k+1)))=(l[j]'(by omega)).toNat * 256 ^ k+numL (l.drop (l.length - k)):=by
 have e:l.length - (k+1)=j:=by omega
 rw [e,List.drop_eq_getElem_cons (by omega),numL,List.length_drop,show j+1=l.length - k from by omega,show l.length - (l.length - k)=k from by omega]
set_option maxHeartbeats 400000 in
set_option maxRecDepth 100000 in
theorem read_any (a:Option Addr) (c:Nat) (l:List UInt8) (w:World) (h:Bytes w (.slice a l.length c) l) :
  Calls Try.prog 107 #[.slice a l.length c] w fun e w'=>e=.returned (wv (numL (last32 l)))∧Below w.heap.size w w':=by
 obtain ⟨n,hn⟩:∃ n,n=min l.length 32:=⟨_,rfl⟩
 have hz0:Blk 40 (((w.alloc (.cells z4.toArray 40)).alloc (.cells z4.toArray 40))) w.heap.size z4:=(Blk.new w 40 z4).alloc _
 have hy0:Blk 40 (((w.alloc (.cells z4.toArray 40)).alloc (.cells z4.toArray 40))) (w.heap.size+1) z4:=by
  have:=Blk.new (w.alloc (.cells z4.toArray 40)) 40 z4;simpa using this
 have hbel0:Below w.heap.size w ((w.alloc (.cells z4.toArray 40)).alloc (.cells z4.toArray 40)):=((Below.refl _ _).alloc (Nat.le_refl _) _).alloc (by simp) _
 have hlm:=h.small
 unfold maxLen at hlm
 have e0:min (l.length:Int) 32=(n:Int):=by omega
 have hn32:n≤32:=by omega
 have hnl:n≤l.length:=by omega
 have hend:last32 l=l.drop (l.length - n):=by unfold last32;congr 1;omega
 have Hend:=Lib.hid hend
 clear hn hend
 go_enter Try.func107,Try.ntmps107
 go_wp2
 go_loopw [4,8] (fun _ i wr=>∃ k:Nat,k≤n∧i=.int .i64 (k:Int)∧Blk 40 wr w.heap.size z4∧Blk 40 wr (w.heap.size+1) (wcs (numL (l.drop (l.length - k))))∧Below w.heap.size w wr) (fun _ i _=>n - (intOf i).toNat)
 case atStart=>exact ⟨0,by omega,rfl,hz0,by rw [List.drop_eq_nil_of_le (by omega),show numL []=0 from rfl,wcs_small 0 (by omega)];exact hy0,hbel0⟩
 case round =>
  clear hz0 hy0 hbel0
  obtain ⟨k,hk,rfl,hz,hy,hbel⟩:=hrel
  by_cases hlt:k<n
  ·obtain ⟨j,hj⟩:∃ j,j+k+1=l.length:=⟨l.length - k - 1,by omega⟩
   obtain ⟨b,off,rfl,hbl,hc0⟩:=h.later hbel j (by omega)
   have hnx:=numL_back l k j hj
   have hNlt:=numL_lt (l.drop (l.length - k))
   rw [List.length_drop,show l.length - (l.length - k)=k from by omega] at hNlt
   obtain ⟨x,hx⟩:∃ x,x=l[j]'(by omega):=⟨_,rfl⟩
   rw [← hx] at hnx hc0
   have hx8:=u8_lt x
   obtain ⟨N,hN⟩:∃ N,N=numL (l.drop (l.length - k)):=⟨_,rfl⟩
   rw [← hN] at hnx hy hNlt
   obtain ⟨q,hq⟩:∃ q,q=k / 8:=⟨_,rfl⟩
   obtain ⟨r,hr⟩:∃ r,r=k % 8:=⟨_,rfl⟩
   obtain ⟨s,hs⟩:∃ s,s=8 * r:=⟨_,rfl⟩
   have hp:=wcs_on N x.toNat k q r s (by omega) (by omega) (by omega) hs hNlt x.toNat_lt
   rw [← hnx] at hp
   have Hp:=Lib.hid hp
   have hq4:q<4:=by omega
   have hq4i:(q:Int)<4:=by omega
   have c0:=hy.wat q hq4
   have l0:=lim_lt N q
   have e1:IntKind.i64.wrap ((l.length:Int) - 1)=(l.length:Int) - 1:=IntWalk.i64_in _ (by omega)
   have e2:IntKind.i64.wrap ((l.length:Int) - 1 - (k:Int))=(j:Int):=by rw [IntWalk.i64_in _ (by omega)];omega
   have e2':(l.length:Int) - 1 - (k:Int)=(j:Int):=by omega
   have e9:IntKind.i64.wrap (j:Int)=(j:Int):=IntWalk.i64_in _ (by omega)
   have e10:IntKind.i64.wrap (s:Int)=(s:Int):=IntWalk.i64_in _ (by omega)
   have e11:IntKind.i64.wrap (r:Int)=(r:Int):=IntWalk.i64_in _ (by omega)
   have e8:IntKind.i64.wrap (q:Int)=(q:Int):=IntWalk.i64_in _ (by omega)
   have e3:(k:Int) / 8=(q:Int):=by omega
   have e4:(k:Int).tdiv 8=(q:Int):=by rw [Int.tdiv_eq_ediv_of_nonneg (by omega)];omega
   have e5:(k:Int) % 8=(r:Int):=by omega
   have e6:(k:Int).tmod 8=(r:Int):=by rw [Int.tmod_eq_emod_of_nonneg (by omega)];omega
   have e7:IntKind.i64.wrap ((r:Int) * 8)=(s:Int):=by rw [IntWalk.i64_in _ (by omega)];omega
   have e7':(r:Int) * 8=(s:Int):=by omega
   have hs56:s≤56:=by omega
   have hj1:(j:Int)<(l.length:Int):=by omega
   have hj2:j<l.length:=by omega
   clear hp hnx hN hx hs hr hq hj
   have k0:=fun u:Ext wr=>u.cell hc0
   have k1:=fun u:Ext wr=>u.cell c0
   go_wp2
   refine wp_region_typed wr 18 (by kernel_rfl) (by kernel_rfl) (Below.refl _ _) ?_;simp only [List.take_succ_cons,List.take_zero,List.take_nil]
   iterate 18 (refine wpX_step (by rfl) (fun K hK=>?_);go_simp;first|(refine hK _ ?_;clear hK K)|(apply Exists.intro;refine ⟨fun _=>?_,hK _ ?_⟩;fail;clear hK K))
   refine wpX_nil ?_
   intro w1 hw1
   change wpList _ _ _ [_,_] _ _
   have hy1:=hy.kept hw1
   have hz1:=hz.kept hw1
   have hbel1:=hbel.trans (hw1.mono (Nat.le_trans (Nat.le_succ _) (Nat.le_of_lt hy.lt)))
   have c1:=hy1.wat q hq4
   have f1:=hy1.free q
   have hy2:=hy1.set q (.int .u64 (bits .or .u64 (lim N q:Int) (IntKind.u64.wrap ((x.toNat:Int) * 2 ^ s))))
   rw [Hp.out] at hy2
   go_wp2
   go_roundw
   case rel=>exact ⟨k+1,by omega,by go_num,hz1.other _ (by simp) _,hy2,hbel1.setCell (by simp) _⟩
   case measure=>simp [intOf];omega
  ·obtain rfl:k=n:=by omega
   have hdk:decide ((k:Int)<(k:Int))=false:=by rw [decide_eq_false_iff_not];omega
   rw [← Hend.out] at hy
   go_wp2_with (first
    | (refine wpList_loadA rfl 40 (.tmp 3) rfl (w.heap.size+1) rfl aggWord hy (wcs_len _) ?_)
    | (refine wpList_storeA rfl 40 (.tmp 2) (.tmp 31) rfl w.heap.size (wcs (numL (last32 l))) rfl rfl aggWord hz (wcs_len _) rfl (wcs_one _) hbel (by omega) ?_;intro w2 hb2 hbel2 _))
   exact bodyPost_ret (results_blk rfl _ _ w.heap.size aggWord hb2 (wcs_len _) rfl) rfl ⟨rfl,hbel2⟩
end Go.Proofs.Ytakhaanenlblmaa
