/- Words as numbers; word.Bytes and the reference's WBytes. | word.Cmp, word.Int and the reference's WInt, WLess, WCmp. | word.Int and the reference's WInt, WLess, -/
import Derived.Test.YtbdmkfjgnjfjbaaGreatBlockListsK02
import Derived.Test.YtbdmkfjgnjfjbaaGreatBlockListsK01
import Derived.Deep.Onto
import Derived.Sort.Walk0
import Derived.Shelf.Spec.BitsCarry
import Derived.Deep.RegionHeld3
import Derived.Laws.ResultCell
set_option linter.unusedSimpArgs false
set_option linter.unusedVariables false
set_option maxHeartbeats 4000000
set_option maxRecDepth 100000
open List (cons_append length_drop mem_map take_nil take_zero)
open Nat (add_mul div_div_eq_div_mul le_refl mod_lt mul_le_mul_right pow_add pow_mul pow_succ)
namespace Go.Proofs.YtbdmkfjgnjfjbaaGreat
open Go.RowKit
theorem Q0u:Agg Tryz.prog 24 4:=⟨_,Tryz.underlying24,rfl,by kernel_rfl⟩
theorem Qd9:Agg Tryz.prog 30 32:=⟨_,Tryz.underlying30,rfl,by kernel_rfl⟩
def lim (N i:Nat):Nat:=N / 2 ^ (64*i) % 18446744073709551616
def limI (N:Nat):List Int:=[(lim N 0:Int),(lim N 1:Int),(lim N 2:Int),(lim N 3:Int)]
def wcs (N:Nat):List Value:=(limI N).map (Value.int .u64)
def wv (N:Nat):Value:=.agg (wcs N).toArray
theorem Q7m (N i:Nat):lim N i<18446744073709551616:=mod_lt _ (by omega)
theorem Q14 (N:Nat):(wcs N).length=4:=rfl
theorem Qkh (N i:Nat)(h:i<4):(wcs N)[i]?=some (.int .u64 (lim N i:Int)):=by
 rcases (show i=0∨i=1∨i=2∨i=3 from by omega) with rfl|rfl|rfl|rfl<;>rfl
theorem Q1n (N:Nat):∀ u∈wcs N,u.oneCell'=true:=by
 intro u h;obtain ⟨x,_,rfl⟩:=mem_map.1 h;rfl
theorem Blk.wat {e:TypeId}{w:World}{b N:Nat}(h:Blk e w b (wcs N))(i:Nat)(y:i<4):w.cell? ⟨b,i,none⟩=some (.int .u64 (lim N i:Int)):=by
 rw [h.cell,Qkh N i y]
def Qa9 (N i:Nat):UInt8:=UInt8.ofNat (N / 2 ^ (8*(31 - i)))
def wb (N:Nat):List UInt8:=(List.range 32).map (Qa9 N)
theorem Q2e (N:Nat):(wb N).length=32:=by simp [wb]
theorem Qui (N i:Nat)(h:i<32):(wb N)[i]?=some (Qa9 N i):=by simp [wb,h]
theorem Qt6 (N i:Nat)(h:i<(wb N).length):(wb N)[i]=Qa9 N i:=by simp [wb]
theorem Qpx (N q r:Nat)(y:r<=7):lim N q / 2 ^ (8*r) % 256=N / 2 ^ (8*(8*q+r)) % 256:=by
 unfold lim;have h:(18446744073709551616:Nat)=2 ^ (8*r)*2 ^ (64 - 8*r):=by rw [<-pow_add,show 8*r+(64 - 8*r)=64 from by omega]
 rw [h,Nat.mod_mul_right_div_self,div_div_eq_div_mul,<-pow_add,show 64*q+8*r=8*(8*q+r) from by omega];exact Nat.mod_mod_of_dvd _ ⟨2 ^ (56 - 8*r),by rw [show (256:Nat)=2 ^ 8 from rfl,<-pow_add,show 64 - 8*r=8+(56 - 8*r) from by omega]⟩
theorem Qak (N q r i:Nat)(z:r<=7)(y:8*q+r=31 - i):IntKind.u8.wrap ((lim N q:Int) / 2 ^ (8*r))=((Qa9 N i).toNat:Int):=by
 have h:=Qpx N q r z;have e:(lim N q:Int) / 2 ^ (8*r)=((lim N q / 2 ^ (8*r):Nat):Int):=by rw [Int.natCast_ediv,Int.natCast_pow];rfl
 rw [IntKind.wrap_u8',e,Qa9,<-y,UInt8.toNat_ofNat'];rw [show 2 ^ 8=256 from rfl,<-h];omega
theorem Qki (N k:Nat)(h:k<32):(wb N).take (k+1)=(wb N).take k++[Qa9 N k]:=by
 rw [List.take_succ_eq_append_getElem (by rw [Q2e];exact h),Qt6]
theorem boxW (w:World)(N:Nat):Blk 24 (w.alloc (.cells (wcs N).toArray 24)) w.heap.size (wcs N):=D01 w _ _
theorem Qaj (N:Nat)(w:World) :
  Calls Tryz.prog 66 #[wv N] w fun e w'=>∃ v,e=.returned v/\Q08 b8 1 5 w' w.heap.size v (wb N)/\Below w.heap.size w w':=by
 have G:=boxW w N;have H:Below w.heap.size w (w.alloc (.cells (wcs N).toArray 24)):=Qba _ _;show Calls Tryz.prog 66 #[.agg (wcs N).toArray] w _;go_enter Tryz.func66,Tryz.ntmps66
 go_wp2
 go_loopw [3,4,5] (fun v i _ wr=>∃ (q:Nat) (x:Int),q<=4/\i=.int .i64 x/\x+1=(q:Int)/\Q08 b8 1 5 wr (w.heap.size+1) v ((wb N).take (8*(4 - q)))/\Blk 24 wr w.heap.size (wcs N)/\Below w.heap.size w wr/\w.heap.size+1<=wr.heap.size) (fun _ i _ _=>((intOf i)+1).toNat)
 case atStart=>exact ⟨4,3,by omega,rfl,rfl,by simpa using Q08.nil _ _ _ _ _,G,H,by simp⟩
 case round =>
  clear G H;obtain ⟨q,x,hq,rfl,hx,h,y,z,D⟩:=hrel;by_cases hlt:0<q
  ·obtain ⟨p,rfl⟩:∃ p,q=p+1:=⟨q - 1,by omega⟩;obtain rfl:x=(p:Int):=by omega
   have hd:decide (0<=(p:Int))=true:=by rw [decide_eq_true_eq];omega
   go_wp2
   go_loopw [3,5] (fun v i wr=>∃ (j:Nat) (x:Int),j<=8/\i=.int .i64 x/\x+8=8*(j:Int)/\Q08 b8 1 5 wr (w.heap.size+1) v ((wb N).take (8*(3 - p)+(8 - j)))/\Blk 24 wr w.heap.size (wcs N)/\Below w.heap.size w wr/\w.heap.size+1<=wr.heap.size) (fun _ i _=>((intOf i)+8).toNat)
   case atStart=>exact ⟨8,56,by omega,rfl,rfl,by rw [show 8*(3 - p)+(8 - 8)=8*(4 - (p+1)) from by omega];exact h,y,z,D⟩
   case round =>
    clear h y z D;obtain ⟨j,x,hj,rfl,a8,h,y,z,D⟩:=hrel;by_cases hlt2:0<j
    ·obtain ⟨r,rfl⟩:∃ r,j=r+1:=⟨j - 1,by omega⟩;obtain ⟨s,L⟩:=Qe (8*r);obtain rfl:x=(s:Int):=by omega
     have a2:decide (0<=(s:Int))=true:=by rw [decide_eq_true_eq];omega
     obtain ⟨g,W⟩:=Qe (8*(3 - p)+(7 - r));have hc:=y.wat p (by omega);have hl:=Q7m N p;have V:=Qak N p r g (by omega) (by omega);rw [<-L] at V;have M:=Qki N g (by omega);have K:((wb N).take g).length=g:=by rw [List.length_take,Q2e];omega
     rw [show 8*(3 - p)+(8 - (r+1))=g from by omega] at h;have J:8*(3 - p)+(8 - r)=g+1:=by omega
     have a3:g<32:=by omega
     have S:=Qhd J;have E:=Qhd K;have T:=Qhd M;have Z:(s:Int) - 8+8=8*(r:Int):=by omega
     clear K M L J W
     go_wp2_with (at_builtin;(refine Q1v rfl (.tmp 14) (.tmp 21) 25 rfl elU8 rfl (h.alloc _) rfl (Q05.made b8 1 _ [Qa9 N g] _ _ 1 rfl rfl rfl (by decide)) (Below.alloc (Below.refl (w.heap.size+1) wr) D _) (by simp;omega) (by rw [E.out];simp;omega) (by rw [E.out];simp [maxLen];omega) ?_;intro v4 w4 O I _ U))
     rw [<-T.out] at O
     go_roundw
     case rel =>
      exact ⟨r,(s:Int) - 8,by omega,by go_num,Z,by rw [S.out];exact O,y.below I (by omega),z.trans (I.mono (by omega)),U⟩
     case measure=>simp [intOf];omega
    obtain rfl:j=0:=by omega
    obtain rfl:x=-8:=by omega
    go_wp2
    go_roundw
    case rel=>exact ⟨p,(p:Int) - 1,by omega,by go_num,by omega,by rw [show 8*(4 - p)=8*(3 - p)+(8 - 0) from by omega];exact h,y,z,D⟩
    case measure=>simp [intOf]
  obtain rfl:q=0:=by omega
  obtain rfl:x=-1:=by omega
  go_wp2
  go_ret;refine ⟨_,rfl,?_,z⟩;rw [List.take_of_length_le (by rw [Q2e];omega)] at h;exact World.ownsRow.mono h (by omega)
def z32:List Value:=List.replicate 32 (.int .u8 0)
def hcs (N:Nat):List Value:=(wb N).map u8v
theorem Q51 (N:Nat):(hcs N).length=32:=by simp [hcs,Q2e]
theorem Qu3 (N i:Nat)(h:i<32):(hcs N)[i]?=some (u8v (Qa9 N i)):=by rw [hcs,List.getElem?_map,Qui N i h];rfl
theorem Qnh (N:Nat):∀ u∈hcs N,u.oneCell'=true:=by
 intro u h;obtain ⟨x,_,rfl⟩:=mem_map.1 h;rfl
theorem Qo5 (N:Nat)(w:World) :
  Calls Tryz.prog 64 #[wv N] w fun e w'=>e=.returned (.agg (hcs N).toArray)/\Below w.heap.size w w':=by
 obtain ⟨z,h⟩:=Qe (((w.alloc (.cells (wcs N).toArray 24)).alloc (.cells z32.toArray 30)).alloc (.cells z32.toArray 30));have D:Blk 24 z w.heap.size (wcs N):=by rw [h];exact ((boxW w N).alloc _).alloc _
 have H:Blk 30 z (w.heap.size+1) z32:=by
  have:=D01 (w.alloc (.cells (wcs N).toArray 24)) 30 z32;rw [h];simpa using this.alloc (.cells z32.toArray 30)
 have G:Blk 30 z (w.heap.size+2) z32:=by
  have:=D01 ((w.alloc (.cells (wcs N).toArray 24)).alloc (.cells z32.toArray 30)) 30 z32;rw [h];simpa using this
 have E:Below w.heap.size w z:=by rw [h];exact ((Qba _ _).alloc (by simp) _).alloc (by simp;omega) _
 show Calls Tryz.prog 64 #[.agg (wcs N).toArray] w _;go_enter Tryz.func64,Tryz.ntmps64
 go_wp2
 go_loopw [6] (fun i wr=>∃ k:Nat,k<=32/\i=.int .i64 (k:Int)/\Blk 24 wr w.heap.size (wcs N)/\Blk 30 wr (w.heap.size+1) z32/\Blk 30 wr (w.heap.size+2) (Q34 (hcs N) (.int .u8 0) k)/\Below w.heap.size w wr) (fun i _=>(32 - intOf i).toNat)
 case atStart =>
  rw [h] at D H G E;exact ⟨0,by omega,rfl,D,H,by rw [Q55,Q51];exact G,E⟩
 case round =>
  clear D E H G h;obtain ⟨k,hk,rfl,I,O,y,J⟩:=hrel;by_cases hlt:k<32
  ·obtain ⟨m,Z⟩:∃ m,m+k=31:=⟨31 - k,by omega⟩;obtain ⟨q,hq⟩:=Qe (m / 8);obtain ⟨r,hr⟩:=Qe (m % 8);obtain ⟨s,K⟩:=Qe (8*r);have hc:=I.wat q (by omega);have hl:=Q7m N q;have V:=Qak N q r k (by omega) (by omega);rw [<-K] at V;have e0:(31:Int) - (k:Int)=(m:Int):=by omega
   have e1:(m:Int) / 8=(q:Int):=by omega
   have e2:(m:Int).tdiv 8=(q:Int):=by rw [Int.tdiv_eq_ediv_of_nonneg (by omega)];omega
   have e3:(m:Int) % 8=(r:Int):=by omega
   have e4:(m:Int).tmod 8=(r:Int):=by rw [Int.tmod_eq_emod_of_nonneg (by omega)];omega
   have e5:(r:Int)*8=(s:Int):=by omega
   have ac:q<4:=by omega
   have ad:s<=56:=by omega
   have ab:m<32:=by omega
   have L:=Q56 (hcs N) (.int .u8 0) k _ (Qu3 N k hlt);have S:=Qhd L;obtain ⟨y1,ae⟩:=y.has k (by rw [Q5j _ _ _ (by rw [Q51];omega),Q51];exact hlt);have a9:=y.free k;clear L K hr hq Z
   go_wp2
   go_roundw
   case rel =>
    have M:=y.set k (u8v (Qa9 N k));rw [S.out] at M;exact ⟨k+1,by omega,by go_num,I.other _ (by simp;omega) _,O.other _ (by simp;try omega) _,M,J.setCell (by simp;try omega) _⟩
   case measure=>simp [intOf];omega
  obtain rfl:k=32:=by omega
  have W:Q34 (hcs N) (.int .u8 0) 32=hcs N:=by have:=Q6u (hcs N) (.int .u8 0);rwa [Q51] at this
  rw [W] at y
  go_wp2_with (first
   |(refine Q1b rfl 30 (.tmp 3) rfl (w.heap.size+2) rfl Qd9 y (Q51 N) ?_)
   |(refine Q0n rfl 30 (.tmp 2) (.tmp 23) rfl (w.heap.size+1) (hcs N) rfl rfl Qd9 O (Q51 N) rfl (Qnh _) J (by omega) ?_;intro w2 T U _))
  exact bodyPost_ret (Q0h rfl _ _ (w.heap.size+1) Qd9 T (Q51 N) rfl) rfl ⟨rfl,U⟩
theorem lim0 (N:Nat):lim N 0=N % 18446744073709551616:=by unfold lim;simp
theorem lim1 (N:Nat):lim N 1=N / 18446744073709551616 % 18446744073709551616:=rfl
theorem lim2 (N:Nat):lim N 2=N / 340282366920938463463374607431768211456 % 18446744073709551616:=rfl
theorem lim3 (N:Nat):lim N 3=N / 6277101735386680763835789423207666416102355444464034512896 % 18446744073709551616:=rfl
def W256:Nat:=115792089237316195423570985008687907853269984665640564039457584007913129639936
def numL:List UInt8->Nat
 | []=>0
 | x::l=>x.toNat*256 ^ l.length+numL l
theorem Qea (l:List UInt8)(x:UInt8):numL (l++[x])=numL l*256+x.toNat:=by
 induction l with
 | nil=>simp [numL]
 | cons y l ih =>
  simp only [cons_append,numL,ih,List.length_append,List.length_singleton,pow_succ,add_mul,Nat.mul_assoc];omega
theorem Q99 (l:List UInt8):numL l<256 ^ l.length:=by
 induction l with
 | nil=>simp [numL]
 | cons x l ih =>
  have h:=x.toNat_lt;have:x.toNat*256 ^ l.length+256 ^ l.length<=256*256 ^ l.length:=by rw [<-Nat.succ_mul];exact mul_le_mul_right _ (by omega)
  simp only [numL,List.length_cons,pow_succ];omega
theorem Qmg (N k:Nat)(h:k<=32):numL ((wb N).take k)=N / 2 ^ (8*(32 - k)) % 256 ^ k:=by
 induction k with
 | zero=>simp [numL,Nat.mod_one]
 | succ k ih =>
  rw [Qki N k (by omega),Qea,ih (by omega),Qa9,UInt8.toNat_ofNat',show 2 ^ 8=256 from rfl];have e:N / 2 ^ (8*(32 - k))=N / 2 ^ (8*(31 - k)) / 256:=by
   rw [div_div_eq_div_mul,show (256:Nat)=2 ^ 8 from rfl,<-pow_add,show 8*(31 - k)+8=8*(32 - k) from by omega]
  rw [e,show 32 - (k+1)=31 - k from by omega,pow_succ,Nat.mul_comm (256 ^ k) 256,Nat.mod_mul];omega
theorem Qmf (N:Nat)(h:N<W256):numL (wb N)=N:=by
 have:=Qmg N 32 (by omega);rw [List.take_of_length_le (by rw [Q2e];omega)] at this;rw [this];simp only [Nat.sub_self,Nat.mul_zero,Nat.pow_zero,Nat.div_one];exact Nat.mod_eq_of_lt h
theorem Q4r (n:Nat)(h:n<18446744073709551616):wcs n=[.int .u64 (n:Int),.int .u64 0,.int .u64 0,.int .u64 0]:=by
 have y:lim n 0=n:=by rw [lim0];omega
 have z:lim n 1=0:=by rw [lim1];omega
 have D:lim n 2=0:=by rw [lim2];omega
 have E:lim n 3=0:=by rw [lim3];omega
 unfold wcs limI;rw [y,z,D,E];rfl
def z4:List Value:=[.int .u64 0,.int .u64 0,.int .u64 0,.int .u64 0]
theorem Qnc (n:Nat)(h:n<18446744073709551616)(w:World) :
  Calls Tryz.prog 51 #[.int .u64 (n:Int)] w fun e w'=>e=.returned (wv n)/\Below w.heap.size w w':=by
 have G:=D01 w 24 z4;have D:Below w.heap.size w (w.alloc (.cells z4.toArray 24)):=Qba _ _;have y:=Q4r n h;go_enter Tryz.func51,Tryz.ntmps51
 go_wp2_with (first
  |(refine Q0n rfl 24 (.tmp 2) (.tmp 4) rfl (w.heap.size) [.int .u64 (n:Int),.int .u64 0,.int .u64 0,.int .u64 0] rfl rfl Q0u G rfl rfl (by rw [<-y];exact Q1n n) D (by omega) ?_;intro H z E _))
 exact bodyPost_ret (Q0h rfl _ _ (w.heap.size) Q0u z rfl rfl) rfl ⟨by unfold wv;rw [y],E⟩
theorem Q7w (n:Nat)(h:n<18446744073709551616)(w:World) :
  Calls Tryz.prog 54 #[.int .u64 (n:Int)] w fun e w'=>e=.returned (wv n)/\Below w.heap.size w w':=by
 have G:=D01 w 24 z4;have D:Below w.heap.size w (w.alloc (.cells z4.toArray 24)):=Qba _ _;have y:=Q4r n h;go_enter Tryz.func54,Tryz.ntmps54
 go_wp2_with (first
  |(refine Q0n rfl 24 (.tmp 2) (.tmp 4) rfl (w.heap.size) [.int .u64 (n:Int),.int .u64 0,.int .u64 0,.int .u64 0] rfl rfl Q0u G rfl rfl (by rw [<-y];exact Q1n n) D (by omega) ?_;intro H z E _))
 exact bodyPost_ret (Q0h rfl _ _ (w.heap.size) Q0u z rfl rfl) rfl ⟨by unfold wv;rw [y],E⟩
theorem Qam (x y k:Nat)(E:x<18446744073709551616)(D:k<=64)(h:x % 2 ^ k=0)(z:y<2 ^ k):bits .or .u64 (x:Int) (y:Int)=((x+y:Nat):Int):=by
 have G:2 ^ k<=2 ^ 64:=Nat.pow_le_pow_right (by omega) D;rw [u64_or_nat x y E (by omega),nat_join k x y h z]
theorem Qmy (N x:Nat)(h:x<256):bits .or .u64 (IntKind.u64.wrap ((lim N 0:Int)*256)) (x:Int)=(lim (N*256+x) 0:Int):=by
 have e:IntKind.u64.wrap ((lim N 0:Int)*256)=((lim N 0*256 % 18446744073709551616:Nat):Int):=by rw [IntKind.wrap_u64];omega
 rw [e,Qam _ x 8 (mod_lt _ (by omega)) (by omega) (by omega) (by omega),lim0,lim0];omega
theorem Qcg (N x i j:Nat)(H:x<256)(z:j=i+1):bits .or .u64 (IntKind.u64.wrap ((lim N j:Int)*256)) ((lim N i:Int) / 72057594037927936)=(lim (N*256+x) j:Int):=by
 have e:IntKind.u64.wrap ((lim N j:Int)*256)=((lim N j*256 % 18446744073709551616:Nat):Int):=by rw [IntKind.wrap_u64];omega
 have h:(lim N i:Int) / 72057594037927936=((lim N i / 72057594037927936:Nat):Int):=by omega
 have G:=Q7m N i;rw [e,h,Qam _ _ 8 (mod_lt _ (by omega)) (by omega) (by omega) (by omega)];subst z;have D:N / 2 ^ (64*(i+1))=N / 2 ^ (64*i) / 18446744073709551616:=by
  rw [div_div_eq_div_mul,show (18446744073709551616:Nat)=2 ^ 64 from rfl,<-pow_add,show 64*i+64=64*(i+1) from by omega]
 have E:(N*256+x) / 2 ^ (64*(i+1))=N / 2 ^ (64*i) / 72057594037927936:=by
  have:2 ^ (64*(i+1))=256*(2 ^ (64*i)*72057594037927936):=by
   rw [show (256:Nat)=2 ^ 8 from rfl,show (72057594037927936:Nat)=2 ^ 56 from rfl,<-pow_add,<-pow_add,show 8+(64*i+56)=64*(i+1) from by omega]
  rw [this,<-div_div_eq_div_mul,<-div_div_eq_div_mul,show (N*256+x) / 256=N from by omega]
 unfold lim;rw [D,E];generalize N / 2 ^ (64*i)=y;omega
theorem Qor (N x:Nat)(h:x<256) :
  [Value.int .u64 (bits .or .u64 (IntKind.u64.wrap ((lim N 0:Int)*256)) (x:Int)),
   .int .u64 (bits .or .u64 (IntKind.u64.wrap ((lim N 1:Int)*256)) ((lim N 0:Int) / 72057594037927936)),
   .int .u64 (bits .or .u64 (IntKind.u64.wrap ((lim N 2:Int)*256)) ((lim N 1:Int) / 72057594037927936)),
   .int .u64 (bits .or .u64 (IntKind.u64.wrap ((lim N 3:Int)*256)) ((lim N 2:Int) / 72057594037927936))]=wcs (N*256+x):=by
 rw [Qmy N x h,Qcg N x 0 1 h rfl,Qcg N x 1 2 h rfl,Qcg N x 2 3 h rfl];rfl
theorem Qmh (l:List UInt8)(k:Nat)(h:k<l.length):numL (l.take (k+1))=numL (l.take k)*256+l[k].toNat:=by
 rw [List.take_succ_eq_append_getElem h,Qea]
def Q21 (l:List UInt8):List UInt8:=l.drop (l.length - 32)
theorem Q46 (l:List UInt8)(h:l.length<=32):Q21 l=l:=by
 unfold Q21;rw [show l.length - 32=0 from by omega];rfl
theorem Qkd (a:Option Addr)(c:Nat)(l:List UInt8)(w:World)(h:Q02 w (.slice a l.length c) l) :
  Calls Tryz.prog 46 #[.slice a l.length c] w fun e w'=>e=.returned (wv (numL (Q21 l)))/\Below w.heap.size w w':=by
 obtain ⟨d,U⟩:=Qe (l.length - 32);obtain ⟨M,D⟩:=Qe (Q21 l);obtain ⟨n,V⟩:=Qe (l.length - d);have O:M.length=n:=by rw [D,Q21,length_drop];omega
 obtain ⟨a',c',hs,H⟩:=Q05.from elU8 h d (by omega) (d:Int) rfl;rw [<-V] at H hs;have H:Q02 w (.slice a' n c') M:=by rw [D,Q21,<-U];exact H
 have a1:Blk 24 (((w.alloc (.cells z4.toArray 24)).alloc (.cells z4.toArray 24))) w.heap.size z4:=(D01 w 24 z4).alloc _;have Z:Blk 24 (((w.alloc (.cells z4.toArray 24)).alloc (.cells z4.toArray 24))) (w.heap.size+1) z4:=by
  have:=D01 (w.alloc (.cells z4.toArray 24)) 24 z4;simpa using this
 have T:Below w.heap.size w ((w.alloc (.cells z4.toArray 24)).alloc (.cells z4.toArray 24)):=(Qba _ _).alloc (by simp) _;have a6:=h.small;unfold maxLen at a6;have e0:max (0:Int) ((l.length:Int) - 32)=(d:Int):=by omega
 have e1:IntKind.i64.wrap ((l.length:Int) - 32)=(l.length:Int) - 32:=IntWalk.i64_in _ (by omega);rw [<-D];have ah:n<=32:=by omega
 have z:=Qhd O;clear D O U V h;go_enter Tryz.func46,Tryz.ntmps46
 go_wp2
 go_loopw [5,14] (fun _ i wr=>∃ k:Nat,k<=n/\i=.int .i64 (k:Int)/\Blk 24 wr w.heap.size z4/\Blk 24 wr (w.heap.size+1) (wcs (numL (M.take k)))/\Below w.heap.size w wr) (fun _ i _=>n - (intOf i).toNat)
 case atStart=>exact ⟨0,by omega,rfl,a1,by rw [take_zero,show numL []=0 from rfl,Q4r 0 (by omega)];exact Z,T⟩
 case round =>
  clear a1 Z T;obtain ⟨k,hk,rfl,hz,y,J⟩:=hrel;by_cases hlt:k<n
  ·obtain ⟨b,off,rfl,ae,a4⟩:=H.later J k (by rw [z.out];exact hlt);have G:=Qmh M k (by rw [z.out];exact hlt);obtain ⟨x,W⟩:=Qe (M[k]'(by rw [z.out];exact hlt));rw [<-W] at G a4;have ai:=Qf6 x;obtain ⟨N,S⟩:=Qe (numL (M.take k));rw [<-S] at G y;have L:=Qor N x.toNat x.toNat_lt;rw [<-G] at L;have I:=Qhd L;have c0:=y.wat 0 (by omega);have c1:=y.wat 1 (by omega);have c2:=y.wat 2 (by omega);have c3:=y.wat 3 (by omega);have l0:=Q7m N 0;have l1:=Q7m N 1;have l2:=Q7m N 2;have l3:=Q7m N 3;clear L G S W
   go_wp2_with (first
    |(refine Q0n rfl 24 (.tmp 3) (.tmp 45) rfl (w.heap.size+1) _ rfl rfl Q0u y (by rw [I.out];rfl) rfl (by rw [I.out];exact Q1n _) J (by omega) ?_;intro w2 E K a5))
   rw [I.out] at E
   go_roundw
   case rel=>exact ⟨k+1,by omega,by go_num,hz.grown a5 (by simp),E,K⟩
   case measure=>simp [intOf];omega
  obtain rfl:k=n:=by omega
  have af:decide ((k:Int)<(k:Int))=false:=by rw [decide_eq_false_iff_not];omega
  rw [List.take_of_length_le (by rw [z.out];exact le_refl _)] at y
  go_wp2_with (first
   |(refine Q1b rfl 24 (.tmp 3) rfl (w.heap.size+1) rfl Q0u y (Q14 _) ?_)
   |(refine Q0n rfl 24 (.tmp 2) (.tmp 47) rfl w.heap.size (wcs (numL M)) rfl rfl Q0u hz (Q14 _) rfl (Q1n _) J (by omega) ?_;intro w2 E K _))
  exact bodyPost_ret (Q0h rfl _ _ w.heap.size Q0u E (Q14 _) rfl) rfl ⟨rfl,K⟩
theorem Qmz (N x k q j:Nat)(z:8*q<=k)(h:j<q):lim (x*256 ^ k+N) j=lim N j:=by
 unfold lim;have e:x*256 ^ k=2 ^ (64*j)*(18446744073709551616*(x*2 ^ (8*k - 64*j - 64))):=by
  rw [show (256:Nat)=2 ^ 8 from rfl,<-pow_mul,show (18446744073709551616:Nat)=2 ^ 64 from rfl];rw [Nat.mul_left_comm (2 ^ 64) x,Nat.mul_left_comm (2 ^ (64*j)) x,<-pow_add,<-pow_add,show 64*j+(64+(8*k - 64*j - 64))=8*k from by omega]
 rw [e,Nat.mul_add_div (Nat.two_pow_pos _)];generalize x*2 ^ (8*k - 64*j - 64)=y;omega
theorem Qi1 (N j k:Nat)(y:N<256 ^ k)(z:k<=8*j):lim N j=0:=by
 unfold lim;have h:(256:Nat) ^ k<=2 ^ (64*j):=by
  rw [show (256:Nat)=2 ^ 8 from rfl,<-pow_mul];exact Nat.pow_le_pow_right (by omega) (by omega)
 rw [Nat.div_eq_of_lt (by omega)]
theorem Qtx (N x k q r s:Nat)(M:k=8*q+r)(T:r<8)(U:s=8*r)(J:N<256 ^ k)(V:x<256) :
  bits .or .u64 (lim N q:Int) (IntKind.u64.wrap ((x:Int)*2 ^ s))=(lim (x*256 ^ k+N) q:Int):=by
 have D:(256:Nat) ^ k=2 ^ (64*q)*2 ^ s:=by rw [show (256:Nat)=2 ^ 8 from rfl,<-pow_mul,<-pow_add,show 64*q+s=8*k from by omega]
 have h:N / 2 ^ (64*q)<2 ^ s:=by
  rw [Nat.div_lt_iff_lt_mul (Nat.two_pow_pos _),Nat.mul_comm,<-D];exact J
 have L:2 ^ s<=2 ^ 56:=Nat.pow_le_pow_right (by omega) (by omega);have O:x*2 ^ s<=255*2 ^ s:=mul_le_mul_right _ (by omega);have e:IntKind.u64.wrap ((x:Int)*2 ^ s)=((x*2 ^ s:Nat):Int):=by
  have:(x:Int)*2 ^ s=((x*2 ^ s:Nat):Int):=by rw [Int.natCast_mul,Int.natCast_pow];rfl
  rw [this,IntKind.wrap_u64];omega
 have K:x*2 ^ s % 2 ^ s=0:=Nat.mul_mod_left _ _;have H:lim N q=N / 2 ^ (64*q):=by unfold lim;exact Nat.mod_eq_of_lt (Nat.lt_of_lt_of_le h (by omega))
 have E:N / 2 ^ (64*q)<18446744073709551616:=Nat.lt_of_lt_of_le h (by omega);have G:x*2 ^ s<18446744073709551616:=by omega
 have I:lim (x*256 ^ k+N) q=(x*2 ^ s+N / 2 ^ (64*q)) % 18446744073709551616:=by
  unfold lim;rw [D,Nat.mul_left_comm,Nat.mul_add_div (Nat.two_pow_pos _)]
 rw [e,H,u64_or_nat _ _ E G,Nat.or_comm,nat_join s _ _ K h,I];generalize N / 2 ^ (64*q)=y at *;generalize x*2 ^ s=z at *;generalize 2 ^ s=S at *;congr 1;exact (Nat.mod_eq_of_lt (by omega)).symm
theorem Qt4 (N x k q r s:Nat)(I:k<32)(D:k=8*q+r)(E:r<8)(G:s=8*r)(y:N<256 ^ k)(H:x<256) :
  (wcs N).set q (.int .u64 (bits .or .u64 (lim N q:Int) (IntKind.u64.wrap ((x:Int)*2 ^ s))))=wcs (x*256 ^ k+N):=by
 rw [Qtx N x k q r s D E G y H];have z:x*256 ^ k+N<256 ^ (k+1):=by
  have:x*256 ^ k<=255*256 ^ k:=mul_le_mul_right _ (by omega);rw [pow_succ];omega
 apply List.ext_getElem?;intro j;by_cases hj:j<4
 ·rw [Qkh _ j hj];by_cases hq:q=j
  ·subst hq;rw [List.getElem?_set_self (by rw [Q14];exact hj)]
  rw [List.getElem?_set_ne hq,Qkh _ j hj];rcases Nat.lt_or_ge j q with h|h
  ·rw [Qmz N x k q j (by omega) h]
  rw [Qi1 N j k y (by omega),Qi1 _ j (k+1) z (by omega)]
 rw [List.getElem?_eq_none (by rw [List.length_set,Q14];omega),List.getElem?_eq_none (by rw [Q14];omega)]
theorem Qmj (l:List UInt8)(k j:Nat)(h:j+k+1=l.length):numL (l.drop (l.length - (k+1)))=(l[j]'(by omega)).toNat*256 ^ k+numL (l.drop (l.length - k)):=by
 have e:l.length - (k+1)=j:=by omega
 rw [e,List.drop_eq_getElem_cons (by omega),numL,length_drop,show j+1=l.length - k from by omega,show l.length - (l.length - k)=k from by omega]
theorem Qbu (a:Option Addr)(c:Nat)(l:List UInt8)(w:World)(h:Q02 w (.slice a l.length c) l) :
  Calls Tryz.prog 85 #[.slice a l.length c] w fun e w'=>e=.returned (wv (numL (Q21 l)))/\Below w.heap.size w w':=by
 obtain ⟨n,hn⟩:=Qe (min l.length 32);have a2:Blk 24 (((w.alloc (.cells z4.toArray 24)).alloc (.cells z4.toArray 24))) w.heap.size z4:=(D01 w 24 z4).alloc _;have Z:Blk 24 (((w.alloc (.cells z4.toArray 24)).alloc (.cells z4.toArray 24))) (w.heap.size+1) z4:=by
  have:=D01 (w.alloc (.cells z4.toArray 24)) 24 z4;simpa using this
 have M:Below w.heap.size w ((w.alloc (.cells z4.toArray 24)).alloc (.cells z4.toArray 24)):=(Qba _ _).alloc (by simp) _;have a9:=h.small;unfold maxLen at a9;have e0:min (l.length:Int) 32=(n:Int):=by omega
 have az:n<=32:=by omega
 have aA:n<=l.length:=by omega
 have S:Q21 l=l.drop (l.length - n):=by unfold Q21;congr 1;omega
 have a3:=Qhd S;clear hn S;go_enter Tryz.func85,Tryz.ntmps85
 go_wp2
 go_loopw [4,8] (fun _ i wr=>∃ k:Nat,k<=n/\i=.int .i64 (k:Int)/\Blk 24 wr w.heap.size z4/\Blk 24 wr (w.heap.size+1) (wcs (numL (l.drop (l.length - k))))/\Below w.heap.size w wr) (fun _ i _=>n - (intOf i).toNat)
 case atStart=>exact ⟨0,by omega,rfl,a2,by rw [List.drop_eq_nil_of_le (by omega),show numL []=0 from rfl,Q4r 0 (by omega)];exact Z,M⟩
 case round =>
  clear a2 Z M;obtain ⟨k,hk,rfl,hz,y,E⟩:=hrel;by_cases hlt:k<n
  ·obtain ⟨j,T⟩:∃ j,j+k+1=l.length:=⟨l.length - k - 1,by omega⟩;obtain ⟨b,off,rfl,au,O⟩:=h.later E j (by omega);have z:=Qmj l k j T;have D:=Q99 (l.drop (l.length - k));rw [length_drop,show l.length - (l.length - k)=k from by omega] at D;obtain ⟨x,W⟩:=Qe (l[j]'(by omega));rw [<-W] at z O;have aD:=Qf6 x;obtain ⟨N,L⟩:=Qe (numL (l.drop (l.length - k)));rw [<-L] at z y D;obtain ⟨q,hq⟩:=Qe (k / 8);obtain ⟨r,hr⟩:=Qe (k % 8);obtain ⟨s,V⟩:=Qe (8*r);have G:=Qt4 N x.toNat k q r s (by omega) (by omega) (by omega) V D x.toNat_lt;rw [<-z] at G;have Hp:=Qhd G;have U:q<4:=by omega
   have aB:(q:Int)<4:=by omega
   have c0:=y.wat q U;have l0:=Q7m N q;have e1:IntKind.i64.wrap ((l.length:Int) - 1)=(l.length:Int) - 1:=IntWalk.i64_in _ (by omega);have e2:IntKind.i64.wrap ((l.length:Int) - 1 - (k:Int))=(j:Int):=by rw [IntWalk.i64_in _ (by omega)];omega
   have ai:(l.length:Int) - 1 - (k:Int)=(j:Int):=by omega
   have e9:IntKind.i64.wrap (j:Int)=(j:Int):=IntWalk.i64_in _ (by omega);have af:IntKind.i64.wrap (s:Int)=(s:Int):=IntWalk.i64_in _ (by omega);have ag:IntKind.i64.wrap (r:Int)=(r:Int):=IntWalk.i64_in _ (by omega);have e8:IntKind.i64.wrap (q:Int)=(q:Int):=IntWalk.i64_in _ (by omega);have e3:(k:Int) / 8=(q:Int):=by omega
   have e4:(k:Int).tdiv 8=(q:Int):=by rw [Int.tdiv_eq_ediv_of_nonneg (by omega)];omega
   have e5:(k:Int) % 8=(r:Int):=by omega
   have e6:(k:Int).tmod 8=(r:Int):=by rw [Int.tmod_eq_emod_of_nonneg (by omega)];omega
   have e7:IntKind.i64.wrap ((r:Int)*8)=(s:Int):=by rw [IntWalk.i64_in _ (by omega)];omega
   have ao:(r:Int)*8=(s:Int):=by omega
   have aC:s<=56:=by omega
   have aw:(j:Int)<(l.length:Int):=by omega
   have ax:j<l.length:=by omega
   clear G z L W V hr hq T;have k0:=fun u:Ext wr=>u.cell O;have k1:=fun u:Ext wr=>u.cell c0
   go_wp2
   refine Q03 wr 18 (by kernel_rfl) (by kernel_rfl) (Below.refl _ _) ?_;simp only [List.take_succ_cons,take_zero,take_nil]
   iterate 18 (refine Q06 (by rfl) (fun K J=>?_);go_simp;refine J _ ?_;clear J K)
   refine Q0i ?_;intro w1 H;change wpList _ _ _ [_,_] _ _;have I:=y.kept H;have ac:=hz.kept H;have a7:=E.trans (H.mono (Nat.le_trans (Nat.le_succ _) (Nat.le_of_lt y.lt)));have c1:=I.wat q U;have f1:=I.free q;have a0:=I.set q (.int .u64 (bits .or .u64 (lim N q:Int) (IntKind.u64.wrap ((x.toNat:Int)*2 ^ s))));rw [Hp.out] at a0
   go_wp2
   go_roundw
   case rel=>exact ⟨k+1,by omega,by go_num,ac.other _ (by simp) _,a0,a7.setCell (by simp) _⟩
   case measure=>simp [intOf];omega
  obtain rfl:k=n:=by omega
  have av:decide ((k:Int)<(k:Int))=false:=by rw [decide_eq_false_iff_not];omega
  rw [<-a3.out] at y
  go_wp2_with (first
   |(refine Q1b rfl 24 (.tmp 3) rfl (w.heap.size+1) rfl Q0u y (Q14 _) ?_)
   |(refine Q0n rfl 24 (.tmp 2) (.tmp 31) rfl w.heap.size (wcs (numL (Q21 l))) rfl rfl Q0u hz (Q14 _) rfl (Q1n _) E (by omega) ?_;intro w2 a6 a8 _))
  exact bodyPost_ret (Q0h rfl _ _ w.heap.size Q0u a6 (Q14 _) rfl) rfl ⟨rfl,a8⟩
theorem Q74:wcs 0=z4:=Q4r 0 (by omega)
def bare (l:List UInt8):List UInt8:=l.dropWhile (· == 0)
def numB (N:Nat):List UInt8:=bare (wb N)
theorem Q3j (l:List UInt8):bare (0::l)=bare l:=by simp [bare]
theorem Q3k (x:UInt8)(l:List UInt8)(h:x≠0):bare (x::l)=x::l:=by simp [bare,h]
theorem Qim (l:List UInt8):(bare l).length<=l.length:=by
 induction l with
 | nil=>simp [bare]
 | cons x l ih =>
  by_cases h:x=0
  ·rw [h,Q3j];simp;omega
  rw [Q3k x l h];exact le_refl _
theorem Qkp (x:UInt8)(h:x≠0):((x.toNat:Int) == 0)=false:=by
 rw [beq_eq_false_iff_ne];intro e;apply h;exact UInt8.toNat_inj.1 (by have:(0:UInt8).toNat=0:=rfl;omega)
theorem Qme (N:Nat)(w:World) :
  Calls Tryz.prog 50 #[wv N] w fun e w'=>∃ v,e=.returned v/\Q08 b8 1 5 w' w.heap.size v (numB N)/\Below w.heap.size w w':=by
 have V:=boxW w N;have K:Below w.heap.size w (w.alloc (.cells (wcs N).toArray 24)):=Qba _ _;show Calls Tryz.prog 50 #[.agg (wcs N).toArray] w _;go_enter Tryz.func50,Tryz.ntmps50
 go_wp2_with (first
  |(refine Q1b rfl 24 (.tmp 1) rfl w.heap.size rfl Q0u V (Q14 _) ?_)
  |(go_at_call 64;refine (Qo5 N _).mono ?_;rintro e E ⟨rfl,J⟩)
  |(refine Q0n rfl 30 (.tmp 3) (.tmp 6) rfl E.heap.size (hcs N) rfl rfl Qd9 (D01 E 30 z32) (Q51 _) rfl (Qnh _) (Below.alloc (Below.refl E.heap.size E) (le_refl _) _) (le_refl _) ?_;intro I a6 T _))
 have L:=K.trans ((J.trans (T.mono J.size)).mono K.size);have W:Q02 I (.slice (some ⟨E.heap.size,0,none⟩) 32 32) (wb N):=a6.row (wb N) 32 32 (fun _=>rfl) (Q2e N) (fun j u Z=>by rw [Q22] at Z;exact Z) (le_refl _) (by unfold maxLen;omega);have H:=L.size;clear V K J T
 go_loop [4] (fun v=>∃ (D:List UInt8) (n:Nat) (a:Option Addr) (c:Nat),D.length=n/\n<=32/\v=.slice a n c/\Q02 I v D/\numB N=bare D) (fun v=>lenV v)
 case atStart=>exact ⟨wb N,32,_,_,Q2e N,le_refl _,rfl,W,rfl⟩
 case round =>
  clear W;obtain ⟨D,n,a,c,y,af,rfl,G,h⟩:=hrel;cases D with
  | nil =>
   obtain rfl:n=0:=by simpa using y.symm
   have U:numB N=[]:=h;have z:=Qhd U;clear h U y
   go_wp2_with (at_builtin;(refine Q1v rfl (.tmp 19) (.tmp 20) 25 rfl elU8 rfl (Q08.empty b8 1 5 I w.heap.size H) rfl (G.alloc _) (L.alloc H _) (by simp;omega) (by simp) (by simp [maxLen]) ?_;intro v4 w4 O M _ a4))
   go_ret;exact ⟨_,rfl,by rw [z.out];exact O,M⟩
  | cons x t =>
   have ag:0<n:=by rw [<-y];simp
   have ah:(0:Int)<(n:Int):=by omega
   have hd:decide ((0:Int)<(n:Int))=true:=by rw [decide_eq_true_eq];omega
   have ae:decide (0<n)=true:=by rw [decide_eq_true_eq];omega
   obtain ⟨b,off,rfl,hc⟩:=G.at 0 (by simp);simp only [List.getElem_cons_zero,Nat.add_zero] at hc;by_cases hx:x=0
   ·subst hx;rw [Q3j] at h;obtain ⟨a',c',s1,S⟩:=Q05.from elU8 G 1 (by omega) 1 rfl;obtain ⟨m,hm⟩:=Qe (n - 1);rw [<-hm] at s1 S;have a9:t.length=m:=by simp at y;omega
    have a8:m<n:=by omega
    have a7:m<=32:=by omega
    simp only [List.drop_succ_cons,List.drop_zero] at S;have z:=Qhd h;clear hm y h
    go_wp2
    go_round
    case rel=>exact ⟨t,m,a',c',a9,a7,rfl,S,z.out⟩
    case measure=>simpa [lenV] using a8
   have ai:=Qkp x hx;rw [Q3k x t hx] at h;have z:=Qhd h;have a1:=Qhd y;clear h y
   go_wp2_with (at_builtin;(refine Q1v rfl (.tmp 19) (.tmp 20) 25 rfl elU8 rfl (Q08.empty b8 1 5 I w.heap.size H) rfl (G.alloc _) (L.alloc H _) (by simp;omega) (by rw [a1.out];simp;omega) (by rw [a1.out];simp [maxLen];omega) ?_;intro v4 w4 O M _ a4))
   go_ret;exact ⟨_,rfl,by rw [z.out];exact O,M⟩
theorem Qqs (x:UInt8)(h:x≠0):((x.toNat:Int) != 0)=true:=by
 have:=Qkp x h;simp [bne,this]
theorem Qby (N:Nat)(w:World) :
  Calls Tryz.prog 53 #[wv N] w fun e w'=>∃ v,e=.returned v/\Q02 w' v (numB N)/\Below w.heap.size w w':=by
 have I:=boxW w N;have D:Below w.heap.size w (w.alloc (.cells (wcs N).toArray 24)):=Qba _ _;show Calls Tryz.prog 53 #[.agg (wcs N).toArray] w _;go_enter Tryz.func53,Tryz.ntmps53
 go_wp2_with (first
  |(refine Q1b rfl 24 (.tmp 1) rfl w.heap.size rfl Q0u I (Q14 _) ?_)
  |(go_at_call 66;refine (Qaj N _).mono ?_;rintro e T ⟨v,rfl,E,G⟩;obtain ⟨a,c,rfl,_⟩:=E.form' 32 (Q2e N)))
 have J:=D.trans (G.mono D.size);have L:Q02 T (.slice a 32 c) (wb N):=E.row;clear D G E I
 go_loop [4,5,10] (fun _ _ i=>∃ k:Nat,k<=32/\i=.int .i64 (k:Int)/\numB N=bare ((wb N).drop k)) (fun _ _ i=>32 - (intOf i).toNat)
 case atStart=>exact ⟨0,by omega,rfl,rfl⟩
 case round =>
  obtain ⟨k,W,rfl,h⟩:=hrel;by_cases hlt:k<32
  ·obtain ⟨b,off,rfl,O⟩:=L.at k (by rw [Q2e];exact hlt);rw [List.drop_eq_getElem_cons (by rw [Q2e];exact hlt)] at h;obtain ⟨x,z⟩:=Qe ((wb N)[k]'(by rw [Q2e];exact hlt));rw [<-z] at O h;have a0:(k:Int)<32:=by omega
   by_cases h0:x=0
   ·subst h0;rw [Q3j] at h;have y:=Qhd h;clear h z
    go_wp2
    go_round
    case rel=>exact ⟨k+1,by omega,by go_num,y.out⟩
    case measure=>simp [intOf];omega
   have a1:=Qqs x h0;rw [Q3k x _ h0,z,<-List.drop_eq_getElem_cons] at h;have y:=Qhd h;obtain ⟨U,V,S,M⟩:=Q05.from elU8 L k (by omega) (k:Int) rfl;obtain ⟨m,K⟩:=Qe (32 - k);rw [<-K] at S M;have Z:k<=32:=by omega
   clear h z K
   go_wp2
   go_ret;exact ⟨_,rfl,by rw [y.out];exact M,J⟩
  obtain rfl:k=32:=by omega
  rw [List.drop_eq_nil_of_le (by rw [Q2e];omega)] at h;have H:numB N=[]:=h;have y:=Qhd H;clear h H
  go_wp2
  go_ret;exact ⟨_,rfl,by rw [y.out];exact Q05.nil _ _ _,J⟩
theorem Q6y (l:List UInt8):(bare l).head?≠some 0:=by
 induction l with
 | nil=>simp [bare]
 | cons x l ih =>
  by_cases h:x=0
  ·rw [h,Q3j];exact ih
  rw [Q3k x l h];simpa using h
theorem Qeu (l:List UInt8)(h:l.head?≠some 0):bare l=l:=by
 cases l with
 | nil=>rfl
 | cons x l=>exact Q3k x l (by simpa using h)
theorem Qil (k:Nat)(l:List UInt8):bare (List.replicate k 0++l)=bare l:=by
 induction k with
 | zero=>rfl
 | succ k ih=>rw [List.replicate_succ,cons_append,Q3j,ih]
theorem Qhv (k:Nat)(l:List UInt8):numL (List.replicate k 0++l)=numL l:=by
 induction k with
 | zero=>rfl
 | succ k ih=>rw [List.replicate_succ,cons_append,numL,ih];simp
theorem Qhx:∀ (l m:List UInt8),l.length=m.length->numL l=numL m->l=m
 | [],[],_,_=>rfl
 | [],_::_,h,_=>by simp at h
 | _::_,[],h,_=>by simp at h
 | x::l,y::m,h,e=>by
  have D:l.length=m.length:=by simpa using h
  have E:=Q99 l;have H:=Q99 m;simp only [numL] at e;rw [D] at E e;have G:=Qhx l m D;generalize 256 ^ m.length=P at *;rcases Nat.lt_trichotomy x.toNat y.toNat with z|z|z
  ·have:(x.toNat+1)*P<=y.toNat*P:=mul_le_mul_right _ z;rw [add_mul,Nat.one_mul] at this;omega
  ·obtain rfl:x=y:=UInt8.toNat_inj.1 z;rw [G (by omega)]
  have:(y.toNat+1)*P<=x.toNat*P:=mul_le_mul_right _ z;rw [add_mul,Nat.one_mul] at this;omega
theorem Qjp (l:List UInt8)(h:l.length<=32):numL l<W256 :=
 Nat.lt_of_lt_of_le (Q99 l) (by
  have:(256:Nat) ^ l.length<=256 ^ 32:=Nat.pow_le_pow_right (by omega) h;exact this)
theorem Qt5 (l:List UInt8)(h:l.length<=32):wb (numL l)=List.replicate (32 - l.length) 0++l:=by
 apply Qhx
 ·rw [Q2e];simp;omega
 rw [Qmf _ (Qjp l h),Qhv]
def Q3y (l:List UInt8):Bool:=decide (l.length<=32) && !(l.head? == some 0)
def numE (l:List UInt8):Int:=if Q3y l=true then 0 else 1
def numV (l:List UInt8):Nat:=if Q3y l=true then numL l else 0
theorem Q98 {l:List UInt8}(h:Q3y l=true):numE l=0/\numV l=numL (Q21 l):=by
 unfold numE numV;rw [if_pos h,if_pos h];unfold Q3y at h;simp only [Bool.and_eq_true,decide_eq_true_eq] at h;rw [Q46 l h.1];exact ⟨rfl,rfl⟩
theorem Qe9 {l:List UInt8}(h:Q3y l=false):numE l=1/\numV l=0:=by
 unfold numE numV;rw [h];exact ⟨rfl,rfl⟩
theorem Qc6 (l:List UInt8):(numB (numL (Q21 l)) == l)=Q3y l:=by
 cases h:Q3y l with
 | true =>
  unfold Q3y at h;simp only [Bool.and_eq_true,decide_eq_true_eq,Bool.not_eq_true',beq_eq_false_iff_ne] at h;rw [Q46 l h.1,numB,Qt5 l h.1,Qil,Qeu l h.2];simp
 | false =>
  rw [beq_eq_false_iff_ne];intro e;have z:=Q6y (wb (numL (Q21 l)));have y:=Qim (wb (numL (Q21 l)));rw [Q2e] at y;unfold numB at e;rw [e] at z y;have:Q3y l=true:=by
   unfold Q3y;simp only [Bool.and_eq_true,decide_eq_true_eq,Bool.not_eq_true',beq_eq_false_iff_ne];exact ⟨y,z⟩
  rw [h] at this;cases this
theorem Qta (a:Option Addr)(c:Nat)(l:List UInt8)(w:World)(h:Q02 w (.slice a l.length c) l) :
  Calls Tryz.prog 43 #[.slice a l.length c] w fun e w'=>e=.returned (.tuple #[wv (numV l),.int .i64 (numE l)])/\Below w.heap.size w w':=by
 have J:=D01 w 24 z4;have G:Below w.heap.size w (w.alloc (.cells z4.toArray 24)):=Qba _ _;have T:=h.small;unfold maxLen at T;by_cases h32:32<l.length
 ·have D:=Qe9 (l:=l) (by unfold Q3y;rw [decide_eq_false (by omega)];rfl);rw [D.1,D.2];have O:decide (32<l.length)=true:=by rw [decide_eq_true_eq];exact h32
  have S:decide ((32:Int)<(l.length:Int))=true:=by rw [decide_eq_true_eq];omega
  clear D;go_enter Tryz.func43,Tryz.ntmps43
  go_wp2_with (first
   |(refine Q0n rfl 24 (.tmp 2) (.tmp 18) rfl w.heap.size z4 rfl rfl Q0u J rfl rfl (by rw [<-Q74];exact Q1n 0) G (by omega) ?_;intro N y z _))
  exact bodyPost_ret (Q01 rfl _ _ w.heap.size Q0u y rfl rfl rfl) rfl ⟨by unfold wv;rw [Q74];rfl,z⟩
 have O:decide (32<l.length)=false:=by rw [decide_eq_false_iff_not];exact h32
 have S:decide ((32:Int)<(l.length:Int))=false:=by rw [decide_eq_false_iff_not];omega
 cases l with
 | nil =>
  have E:=Q98 (l:=[]) rfl;rw [E.1,E.2];clear E;have W:decide (0<0)=false:=rfl;go_enter Tryz.func43,Tryz.ntmps43;simp only [List.length_nil] at *
  go_wp2_with (first
   |(go_at_call 85;refine (Qbu a c [] _ (h.alloc _)).mono ?_;rintro e w3 ⟨rfl,I⟩;have M:=J.kept I;have K:=G.trans (I.mono G.size))
   |(refine Q0n rfl 24 (.tmp 2) (.tmp 20) rfl w.heap.size (wcs (numL (Q21 []))) rfl rfl Q0u M (Q14 _) rfl (Q1n _) K (by omega) ?_;intro N y z _))
  exact bodyPost_ret (Q01 rfl _ _ w.heap.size Q0u y rfl rfl rfl) rfl ⟨rfl,z⟩
 | cons x t =>
  obtain ⟨n,H⟩:=Qe ((x::t).length);have U:n=t.length+1:=by simpa using H
  obtain ⟨b,off,rfl,L⟩:=h.at 0 (by simp);simp only [List.getElem_cons_zero,Nat.add_zero] at L;have a5:(w.alloc (.cells #[.int .u64 0,.int .u64 0,.int .u64 0,.int .u64 0] 24)).cell? ⟨b,off,none⟩=some (.int .u8 (x.toNat:Int)):=(Below.cell (Below.alloc (Below.refl w.heap.size w) (le_refl _) (.cells z4.toArray 24)) (World.block_lt_of_cell? w _ L)).trans L;rw [<-H] at h T h32 O S |-;have W:decide (0<n)=true:=by rw [decide_eq_true_eq];omega
  have g4:decide ((0:Int)<(n:Int))=true:=by rw [decide_eq_true_eq];omega
  have g5:0<n:=by omega
  have g6:(0:Int)<(n:Int):=by omega
  by_cases hx:x=0
  ·have D:=Qe9 (l:=x::t) (by unfold Q3y;rw [hx];simp);rw [D.1,D.2];have a0:((x.toNat:Int)==0)=true:=by rw [hx];rfl
   clear D H U hx;go_enter Tryz.func43,Tryz.ntmps43
   go_wp2_with (first
    |(refine Q0n rfl 24 (.tmp 2) (.tmp 18) rfl w.heap.size z4 rfl rfl Q0u J rfl rfl (by rw [<-Q74];exact Q1n 0) G (by omega) ?_;intro N y z _))
   exact bodyPost_ret (Q01 rfl _ _ w.heap.size Q0u y rfl rfl rfl) rfl ⟨by unfold wv;rw [Q74];rfl,z⟩
  have E:=Q98 (l:=x::t) (by
   unfold Q3y;simp only [Bool.and_eq_true,decide_eq_true_eq,Bool.not_eq_true',beq_eq_false_iff_ne];exact ⟨by rw [<-H];omega,by simpa using hx⟩)
  rw [E.1,E.2];have a0:=Qkp x hx;have Z:=Qhd H;clear E H U;go_enter Tryz.func43,Tryz.ntmps43
  go_wp2_with (first
   |(go_at_call 85;have V:=h.alloc (.cells z4.toArray 24);rw [Z.out] at V |-;refine (Qbu _ c (x::t) _ V).mono ?_;rintro e w3 ⟨rfl,I⟩;have M:=J.kept I;have K:=G.trans (I.mono G.size))
   |(refine Q0n rfl 24 (.tmp 2) (.tmp 20) rfl w.heap.size (wcs (numL (Q21 (x::t)))) rfl rfl Q0u M (Q14 _) rfl (Q1n _) K (by omega) ?_;intro N y z _))
  exact bodyPost_ret (Q01 rfl _ _ w.heap.size Q0u y rfl rfl rfl) rfl ⟨rfl,z⟩
theorem Qjh (a:Option Addr)(c:Nat)(l:List UInt8)(w:World)(h:Q02 w (.slice a l.length c) l) :
  Calls Tryz.prog 73 #[.slice a l.length c] w fun e w'=>e=.returned (.tuple #[wv (numV l),.int .i64 (numE l)])/\Below w.heap.size w w':=by
 have Z:=D01 w 24 z4;have M:Below w.heap.size w (w.alloc (.cells z4.toArray 24)):=Qba _ _;have V:=Qc6 l;go_enter Tryz.func73,Tryz.ntmps73
 go_wp2_with (first
  |(go_at_call 46;refine (Qkd a c l _ (h.alloc _)).mono ?_;rintro e z ⟨rfl,I⟩;have a0:=Z.kept I;have N:=M.trans (I.mono M.size))
  |(refine Q0n rfl 24 (.tmp 4) (.tmp 6) rfl z.heap.size (wcs (numL (Q21 l))) rfl rfl Q0u (D01 z 24 z4) (Q14 _) rfl (Q1n _) (Below.alloc (Below.refl z.heap.size z) (le_refl _) _) (le_refl _) ?_;intro D H J _))
 have a9:=a0.kept J;have O:=N.trans (J.mono N.size);have h3:=h.below O;have a8:∀ u:Ext D,(convert 25 9 (.slice a l.length c)).run Tryz.prog u.val=.ok (str l) u.val:=fun u=>Q0q elU8.ht (by kernel_rfl) (by kernel_rfl) (u.row h3);have k0:=fun u:Ext D=>u.cell (H.wat 0 (by omega));have k1:=fun u:Ext D=>u.cell (H.wat 1 (by omega));have k2:=fun u:Ext D=>u.cell (H.wat 2 (by omega));have k3:=fun u:Ext D=>u.cell (H.wat 3 (by omega));clear Z M I a0 N J h;have a2:=Qhd V;clear V;refine Q03 D 6 (by kernel_rfl) (by kernel_rfl) (Below.refl _ _) ?_;simp only [List.take_succ_cons,take_zero,take_nil]
 (refine Q06 (by rfl) (fun K G=>?_);go_simp;refine G _ ?_;clear G K)
 refine Q0e 8 (fun v y=>Q02 y v (numB (numL (Q21 l)))) rfl (of_decide_eq_true rfl) (fun v y z h1 h2=>Q05.kept h1 h2) (fun y W=>?_) ?_
 ·simp only [Q18,List.filter_nil,Q00];refine ⟨rfl,?_⟩;go_simp;exact Qby (numL (Q21 l)) _
 refine Q3a (str (numB (numL (Q21 l)))) (fun y W=>?_) ?_
 ·change Q00 y [(8,_)] _ _;intro af a6;have hc:=Q0q (P:=Tryz.prog) (w:=y) (src:=25) (dst:=9) elU8.ht (by kernel_rfl) (by kernel_rfl) a6;simp only [Q00];refine ⟨rfl,?_⟩;go_simp;exact Below.refl _ _
 iterate 2 (refine Q06 (by rfl) (fun K G=>?_);go_simp;refine G _ ?_;clear G K)
 refine Q3a (.bool (Q3y l)) (fun y W=>?_) ?_
 ·change Q00 y [] _ _;simp only [Q00];refine ⟨rfl,?_⟩;go_simp;exact ⟨Below.refl _ _,a2.out⟩
 refine Q75 rfl ?_;rintro w4 T v8 _;simp only [Q00];have a1:=a9.kept T;have a7:=H.kept T;have U:=O.trans (T.mono O.size);clear k0 k1 k2 k3 a8;cases hok:Q3y l with
 | true =>
  have E:=Qhd (Q98 hok);clear hok
  go_wp2_with (first
   |(refine Q1b rfl 24 (.tmp 4) rfl z.heap.size rfl Q0u a7 (Q14 _) ?_)
   |(refine Q0n rfl 24 (.tmp 2) (.tmp 13) rfl w.heap.size (wcs (numL (Q21 l))) rfl rfl Q0u a1 (Q14 _) rfl (Q1n _) U (by omega) ?_;intro w5 L S _))
  exact bodyPost_ret (Q01 rfl _ _ w.heap.size Q0u L rfl rfl rfl) rfl ⟨by rw [E.out.1,E.out.2];rfl,S⟩
 | false =>
  have E:=Qhd (Qe9 hok);clear hok
  go_wp2_with (first
   |(refine Q0n rfl 24 (.tmp 2) (.tmp 14) rfl w.heap.size z4 rfl rfl Q0u a1 rfl rfl (by rw [<-Q74];exact Q1n 0) U (by omega) ?_;intro w5 L S _))
  exact bodyPost_ret (Q01 rfl _ _ w.heap.size Q0u L rfl rfl rfl) rfl ⟨by rw [E.out.1,E.out.2];unfold wv;rw [Q74];rfl,S⟩
end Go.Proofs.YtbdmkfjgnjfjbaaGreat
