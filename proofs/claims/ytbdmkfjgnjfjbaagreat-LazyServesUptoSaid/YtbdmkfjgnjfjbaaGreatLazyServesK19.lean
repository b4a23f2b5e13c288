/- Words as numbers; word.Bytes and the reference's WBytes. | word.Cmp, word.Int and the reference's WInt, WLess, WCmp. | word.Int and the reference's WInt, WLess, -/
import Derived.Test.YtbdmkfjgnjfjbaaGreatLazyServesK02
import Derived.Test.YtbdmkfjgnjfjbaaGreatLazyServesK01
import Derived.Deep.Onto
import Derived.Sort.Walk0
set_option linter.unusedSimpArgs false
set_option linter.unusedVariables false
set_option maxHeartbeats 4000000
set_option maxRecDepth 100000
namespace Go.Proofs.YtbdmkfjgnjfjbaaGreat
open Go.RowKit
theorem Q0f:Agg Tryz.prog 24 4:=⟨_,Tryz.underlying24,rfl,by kernel_rfl⟩
theorem Q97:Agg Tryz.prog 30 32:=⟨_,Tryz.underlying30,rfl,by kernel_rfl⟩
def lim (N i:Nat):Nat:=N / 2 ^ (64*i) % 18446744073709551616
def limI (N:Nat):List Int:=[(lim N 0:Int),(lim N 1:Int),(lim N 2:Int),(lim N 3:Int)]
def wcs (N:Nat):List Value:=(limI N).map (Value.int .u64)
def wv (N:Nat):Value:=.agg (wcs N).toArray
theorem lim_lt (N i:Nat):lim N i<18446744073709551616:=Nat.mod_lt _ (by omega)
theorem Q0u (N:Nat):(wcs N).length=4:=rfl
theorem wcs_at (N i:Nat)(h:i<4):(wcs N)[i]?=some (.int .u64 (lim N i:Int)):=by
 rcases (show i=0∨i=1∨i=2∨i=3 from by omega) with rfl|rfl|rfl|rfl<;>rfl
theorem Q38 (N:Nat):∀ u∈wcs N,u.oneCell'=true:=by
 intro u hu
 obtain ⟨x,_,rfl⟩:=List.mem_map.1 hu
 rfl
theorem Blk.wat {e:TypeId}{w:World}{b N:Nat}(hb:Blk e w b (wcs N))(i:Nat)(hi:i<4):w.cell? ⟨b,i,none⟩=some (.int .u64 (lim N i:Int)):=by
 rw [hb.cell,wcs_at N i hi]
def wbyte (N i:Nat):UInt8:=UInt8.ofNat (N / 2 ^ (8*(31 - i)))
def wb (N:Nat):List UInt8:=(List.range 32).map (wbyte N)
theorem wb_len (N:Nat):(wb N).length=32:=by simp [wb]
theorem wb_at (N i:Nat)(h:i<32):(wb N)[i]?=some (wbyte N i):=by simp [wb,h]
theorem wb_get (N i:Nat)(h:i<(wb N).length):(wb N)[i]=wbyte N i:=by simp [wb]
theorem Qjz (N q r:Nat)(hr:r≤7):lim N q / 2 ^ (8*r) % 256=N / 2 ^ (8*(8*q+r)) % 256:=by
 unfold lim
 have h1:(18446744073709551616:Nat)=2 ^ (8*r)*2 ^ (64 - 8*r):=by rw [←Nat.pow_add,show 8*r+(64 - 8*r)=64 from by omega]
 rw [h1,Nat.mod_mul_right_div_self,Nat.div_div_eq_div_mul,←Nat.pow_add,show 64*q+8*r=8*(8*q+r) from by omega]
 exact Nat.mod_mod_of_dvd _ ⟨2 ^ (56 - 8*r),by rw [show (256:Nat)=2 ^ 8 from rfl,←Nat.pow_add,show 64 - 8*r=8+(56 - 8*r) from by omega]⟩
theorem Q76 (N q r i:Nat)(hr:r≤7)(hi:8*q+r=31 - i):IntKind.u8.wrap ((lim N q:Int) / 2 ^ (8*r))=((wbyte N i).toNat:Int):=by
 have h:=Qjz N q r hr
 have e:(lim N q:Int) / 2 ^ (8*r)=((lim N q / 2 ^ (8*r):Nat):Int):=by rw [Int.natCast_ediv,Int.natCast_pow];rfl
 rw [IntKind.wrap_u8',e,wbyte,←hi,UInt8.toNat_ofNat']
 rw [show 2 ^ 8=256 from rfl,←h]
 omega
theorem Qf8 (N k:Nat)(h:k<32):(wb N).take (k+1)=(wb N).take k++[wbyte N k]:=by
 rw [List.take_succ_eq_append_getElem (by rw [wb_len];exact h),wb_get]
theorem boxW (w:World)(N:Nat):Blk 24 (w.alloc (.cells (wcs N).toArray 24)) w.heap.size (wcs N):=Blk.new w _ _
theorem Q1s (N:Nat)(w:World) :
  Calls Tryz.prog 66 #[wv N] w fun e w'=>∃ v,e=.returned v∧OwnOf b8 1 5 w' w.heap.size v (wb N)∧Below w.heap.size w w':=by
 have hb0:=boxW w N
 have hbel0:Below w.heap.size w (w.alloc (.cells (wcs N).toArray 24)):=Qba _ _
 show Calls Tryz.prog 66 #[.agg (wcs N).toArray] w _
 go_enter Tryz.func66,Tryz.ntmps66
 go_wp2
 go_loopw [3,4,5] (fun v i _ wr=>∃ (q:Nat) (x:Int),q≤4∧i=.int .i64 x∧x+1=(q:Int)∧OwnOf b8 1 5 wr (w.heap.size+1) v ((wb N).take (8*(4 - q)))∧Blk 24 wr w.heap.size (wcs N)∧Below w.heap.size w wr∧w.heap.size+1≤wr.heap.size) (fun _ i _ _=>((intOf i)+1).toNat)
 case atStart=>exact ⟨4,3,by omega,rfl,rfl,by simpa using OwnOf.nil _ _ _ _ _,hb0,hbel0,by simp⟩
 case round =>
  clear hb0 hbel0
  obtain ⟨q,x,hq,rfl,hx,hown,hb,hbel,hB⟩:=hrel
  by_cases hlt:0<q
  ·obtain ⟨p,rfl⟩:∃ p,q=p+1:=⟨q - 1,by omega⟩
   obtain rfl:x=(p:Int):=by omega
   have hd:decide (0≤(p:Int))=true:=by rw [decide_eq_true_eq];omega
   go_wp2
   go_loopw [3,5] (fun v i wr=>∃ (j:Nat) (x:Int),j≤8∧i=.int .i64 x∧x+8=8*(j:Int)∧OwnOf b8 1 5 wr (w.heap.size+1) v ((wb N).take (8*(3 - p)+(8 - j)))∧Blk 24 wr w.heap.size (wcs N)∧Below w.heap.size w wr∧w.heap.size+1≤wr.heap.size) (fun _ i _=>((intOf i)+8).toNat)
   case atStart=>exact ⟨8,56,by omega,rfl,rfl,by rw [show 8*(3 - p)+(8 - 8)=8*(4 - (p+1)) from by omega];exact hown,hb,hbel,hB⟩
   case round =>
    clear hown hb hbel hB
    obtain ⟨j,x,hj,rfl,hx2,hown,hb,hbel,hB⟩:=hrel
    by_cases hlt2:0<j
    ·obtain ⟨r,rfl⟩:∃ r,j=r+1:=⟨j - 1,by omega⟩
     obtain ⟨s,hs⟩:∃ s,s=8*r:=⟨_,rfl⟩
     obtain rfl:x=(s:Int):=by omega
     have hd2:decide (0≤(s:Int))=true:=by rw [decide_eq_true_eq];omega
     obtain ⟨g,hg⟩:∃ g,g=8*(3 - p)+(7 - r):=⟨_,rfl⟩
     have hc:=hb.wat p (by omega)
     have hl:=lim_lt N p
     have hcell:=Q76 N p r g (by omega) (by omega)
     rw [←hs] at hcell
     have hsn:=Qf8 N g (by omega)
     have hl1:((wb N).take g).length=g:=by rw [List.length_take,wb_len];omega
     rw [show 8*(3 - p)+(8 - (r+1))=g from by omega] at hown
     have hgn:8*(3 - p)+(8 - r)=g+1:=by omega
     have hg32:g<32:=by omega
     have Hgn:=Qhd hgn
     have Hl1:=Qhd hl1
     have Hsn:=Qhd hsn
     have hsr:(s:Int) - 8+8=8*(r:Int):=by omega
     clear hl1 hsn hs hgn hg
     go_wp2_with (at_builtin;(refine Q1b rfl (.tmp 14) (.tmp 21) 25 rfl elU8 rfl (hown.alloc _) rfl (RowOf.made b8 1 _ [wbyte N g] _ _ 1 rfl rfl rfl (by decide)) (Below.alloc (Below.refl (w.heap.size+1) wr) hB _) (by simp;omega) (by rw [Hl1.out];simp;omega) (by rw [Hl1.out];simp [maxLen];omega) ?_;intro v4 w4 hv4 hg4 _ hB4))
     rw [←Hsn.out] at hv4
     go_roundw
     case rel =>
      exact ⟨r,(s:Int) - 8,by omega,by go_num,hsr,by rw [Hgn.out];exact hv4,hb.below hg4 (by omega),hbel.trans (hg4.mono (by omega)),hB4⟩
     case measure=>simp [intOf];omega
    ·obtain rfl:j=0:=by omega
     obtain rfl:x=-8:=by omega
     go_wp2
     go_roundw
     case rel=>exact ⟨p,(p:Int) - 1,by omega,by go_num,by omega,by rw [show 8*(4 - p)=8*(3 - p)+(8 - 0) from by omega];exact hown,hb,hbel,hB⟩
     case measure=>simp [intOf]
  ·obtain rfl:q=0:=by omega
   obtain rfl:x=-1:=by omega
   go_wp2
   go_ret
   refine ⟨_,rfl,?_,hbel⟩
   rw [List.take_of_length_le (by rw [wb_len];omega)] at hown
   exact World.ownsRow.mono hown (by omega)
def z32:List Value:=List.replicate 32 (.int .u8 0)
def hcs (N:Nat):List Value:=(wb N).map u8v
theorem Q3f (N:Nat):(hcs N).length=32:=by simp [hcs,wb_len]
theorem hcs_at (N i:Nat)(h:i<32):(hcs N)[i]?=some (u8v (wbyte N i)):=by rw [hcs,List.getElem?_map,wb_at N i h];rfl
theorem Qhs (N:Nat):∀ u∈hcs N,u.oneCell'=true:=by
 intro u hu
 obtain ⟨x,_,rfl⟩:=List.mem_map.1 hu
 rfl
theorem Q6s (N:Nat)(w:World) :
  Calls Tryz.prog 64 #[wv N] w fun e w'=>e=.returned (.agg (hcs N).toArray)∧Below w.heap.size w w':=by
 obtain ⟨w1,hw1⟩:∃ w1,w1=((w.alloc (.cells (wcs N).toArray 24)).alloc (.cells z32.toArray 30)).alloc (.cells z32.toArray 30):=⟨_,rfl⟩
 have hb0:Blk 24 w1 w.heap.size (wcs N):=by rw [hw1];exact ((boxW w N).alloc _).alloc _
 have hz0:Blk 30 w1 (w.heap.size+1) z32:=by
  have:=Blk.new (w.alloc (.cells (wcs N).toArray 24)) 30 z32
  rw [hw1];simpa using this.alloc (.cells z32.toArray 30)
 have hy0:Blk 30 w1 (w.heap.size+2) z32:=by
  have:=Blk.new ((w.alloc (.cells (wcs N).toArray 24)).alloc (.cells z32.toArray 30)) 30 z32
  rw [hw1];simpa using this
 have hbel0:Below w.heap.size w w1:=by rw [hw1];exact ((Qba _ _).alloc (by simp) _).alloc (by simp;omega) _
 show Calls Tryz.prog 64 #[.agg (wcs N).toArray] w _
 go_enter Tryz.func64,Tryz.ntmps64
 go_wp2
 go_loopw [6] (fun i wr=>∃ k:Nat,k≤32∧i=.int .i64 (k:Int)∧Blk 24 wr w.heap.size (wcs N)∧Blk 30 wr (w.heap.size+1) z32∧Blk 30 wr (w.heap.size+2) (fillL (hcs N) (.int .u8 0) k)∧Below w.heap.size w wr) (fun i _=>(32 - intOf i).toNat)
 case atStart =>
  rw [hw1] at hb0 hz0 hy0 hbel0
  exact ⟨0,by omega,rfl,hb0,hz0,by rw [Q3g,Q3f];exact hy0,hbel0⟩
 case round =>
  clear hb0 hbel0 hz0 hy0 hw1
  obtain ⟨k,hk,rfl,hb,hz,hy,hbel⟩:=hrel
  by_cases hlt:k<32
  ·obtain ⟨m,hm⟩:∃ m,m+k=31:=⟨31 - k,by omega⟩
   obtain ⟨q,hq⟩:∃ q,q=m / 8:=⟨_,rfl⟩
   obtain ⟨r,hr⟩:∃ r,r=m % 8:=⟨_,rfl⟩
   obtain ⟨s,hs⟩:∃ s,s=8*r:=⟨_,rfl⟩
   have hc:=hb.wat q (by omega)
   have hl:=lim_lt N q
   have hcell:=Q76 N q r k (by omega) (by omega)
   rw [←hs] at hcell
   have e0:(31:Int) - (k:Int)=(m:Int):=by omega
   have e1:(m:Int) / 8=(q:Int):=by omega
   have e2:(m:Int).tdiv 8=(q:Int):=by rw [Int.tdiv_eq_ediv_of_nonneg (by omega)];omega
   have e3:(m:Int) % 8=(r:Int):=by omega
   have e4:(m:Int).tmod 8=(r:Int):=by rw [Int.tmod_eq_emod_of_nonneg (by omega)];omega
   have e5:(r:Int)*8=(s:Int):=by omega
   have hq4:q<4:=by omega
   have hs56:s≤56:=by omega
   have hm32:m<32:=by omega
   have hset:=Q3h (hcs N) (.int .u8 0) k _ (hcs_at N k hlt)
   have Hset:=Qhd hset
   obtain ⟨y1,hy1⟩:=hy.has k (by rw [Q3p _ _ _ (by rw [Q3f];omega),Q3f];exact hlt)
   have hf1:=hy.free k
   clear hset hs hr hq hm
   go_wp2
   go_roundw
   case rel =>
    have hy2:=hy.set k (u8v (wbyte N k))
    rw [Hset.out] at hy2
    exact ⟨k+1,by omega,by go_num,hb.other _ (by simp;omega) _,hz.other _ (by simp;try omega) _,hy2,hbel.setCell (by simp;try omega) _⟩
   case measure=>simp [intOf];omega
  ·obtain rfl:k=32:=by omega
   have hfe:fillL (hcs N) (.int .u8 0) 32=hcs N:=by have:=Q4k (hcs N) (.int .u8 0);rwa [Q3f] at this
   rw [hfe] at hy
   go_wp2_with (first
    |(refine Q14 rfl 30 (.tmp 3) rfl (w.heap.size+2) rfl Q97 hy (Q3f N) ?_)
    |(refine Q0j rfl 30 (.tmp 2) (.tmp 23) rfl (w.heap.size+1) (hcs N) rfl rfl Q97 hz (Q3f N) rfl (Qhs _) hbel (by omega) ?_;intro w2 hb2 hbel2 _))
   exact bodyPost_ret (Q0b rfl _ _ (w.heap.size+1) Q97 hb2 (Q3f N) rfl) rfl ⟨rfl,hbel2⟩
theorem lim0 (N:Nat):lim N 0=N % 18446744073709551616:=by unfold lim;simp
theorem lim1 (N:Nat):lim N 1=N / 18446744073709551616 % 18446744073709551616:=rfl
theorem lim2 (N:Nat):lim N 2=N / 340282366920938463463374607431768211456 % 18446744073709551616:=rfl
theorem lim3 (N:Nat):lim N 3=N / 6277101735386680763835789423207666416102355444464034512896 % 18446744073709551616:=rfl
def W256:Nat:=115792089237316195423570985008687907853269984665640564039457584007913129639936
theorem Q8n (N:Nat)(h:N<W256):N=lim N 0+18446744073709551616*lim N 1+340282366920938463463374607431768211456*lim N 2+6277101735386680763835789423207666416102355444464034512896*lim N 3:=by
 rw [lim0,lim1,lim2,lim3];unfold W256 at h;omega
theorem Qd8 (N M:Nat)(hN:N<W256)(hM:M<W256)(p:Nat)(hp:p<4)(he:∀ i,p<i→i<4→lim N i=lim M i)(hl:lim N p<lim M p):N<M:=by
 have h0:=Q8n N hN
 have h1:=Q8n M hM
 have a0:=lim_lt N 0;have a1:=lim_lt N 1;have a2:=lim_lt N 2;have a3:=lim_lt N 3
 have b0:=lim_lt M 0;have b1:=lim_lt M 1;have b2:=lim_lt M 2;have b3:=lim_lt M 3
 rcases (show p=0∨p=1∨p=2∨p=3 from by omega) with rfl|rfl|rfl|rfl
 ·have e1:=he 1 (by omega) (by omega);have e2:=he 2 (by omega) (by omega);have e3:=he 3 (by omega) (by omega)
  rw [e1,e2,e3] at h0;omega
 ·have e2:=he 2 (by omega) (by omega);have e3:=he 3 (by omega) (by omega)
  rw [e2,e3] at h0;omega
 ·have e3:=he 3 (by omega) (by omega)
  rw [e3] at h0;omega
 ·omega
theorem Qh8 (N M:Nat)(hN:N<W256)(hM:M<W256)(he:∀ i,i<4→lim N i=lim M i):N=M:=by
 rw [Q8n N hN,Q8n M hM,he 0 (by omega),he 1 (by omega),he 2 (by omega),he 3 (by omega)]
theorem Qh9 (N M:Nat)(hN:N<W256)(hM:M<W256):(limI N == limI M)=decide (N=M):=by
 by_cases h:N=M
 ·subst h;simp
 ·have:limI N≠limI M:=fun e=>h (Qh8 N M hN hM fun i hi=>by
   unfold limI at e
   simp only [List.cons.injEq,and_true,Int.natCast_inj] at e
   rcases (show i=0∨i=1∨i=2∨i=3 from by omega) with rfl|rfl|rfl|rfl
   ·exact e.1
   ·exact e.2.1
   ·exact e.2.2.1
   ·exact e.2.2.2)
  simp [this,h]
def cmpI (N M:Nat):Int:=if N<M then -1 else if M<N then 1 else 0
theorem cmp_lt {N M:Nat}(h:N<M):cmpI N M=-1:=if_pos h
theorem cmp_gt {N M:Nat}(h:M<N):cmpI N M=1:=by unfold cmpI;rw [if_neg (by omega),if_pos h]
theorem cmp_eq {N M:Nat}(h:N=M):cmpI N M=0:=by unfold cmpI;rw [if_neg (by omega),if_neg (by omega)]
theorem Qly (N M:Nat)(hN:N<W256)(hM:M<W256)(w:World) :
  Calls Tryz.prog 74 #[wv N,wv M] w fun e w'=>e=.returned (.int .i64 (cmpI N M))∧Below w.heap.size w w':=by
 obtain ⟨w1,hw1⟩:∃ w1,w1=(w.alloc (.cells (wcs N).toArray 24)).alloc (.cells (wcs M).toArray 24):=⟨_,rfl⟩
 have hb0:Blk 24 w1 w.heap.size (wcs N):=by rw [hw1];exact (boxW w N).alloc _
 have hd0:Blk 24 w1 (w.heap.size+1) (wcs M):=by
  have:=Blk.new (w.alloc (.cells (wcs N).toArray 24)) 24 (wcs M)
  rw [hw1];simpa using this
 have hbel0:Below w.heap.size w w1:=by rw [hw1];exact (Qba _ _).alloc (by simp) _
 show Calls Tryz.prog 74 #[.agg (wcs N).toArray,.agg (wcs M).toArray] w _
 go_enter Tryz.func74,Tryz.ntmps74
 go_wp2
 go_loopw [5] (fun i wr=>∃ (q:Nat) (x:Int),q≤4∧i=.int .i64 x∧x+1=(q:Int)∧(∀ j,q≤j→j<4→lim N j=lim M j)∧Blk 24 wr w.heap.size (wcs N)∧Blk 24 wr (w.heap.size+1) (wcs M)∧Below w.heap.size w wr) (fun i _=>((intOf i)+1).toNat)
 case atStart =>
  rw [hw1] at hb0 hd0 hbel0
  exact ⟨4,3,by omega,rfl,rfl,fun j h1 h2=>by omega,hb0,hd0,hbel0⟩
 case round =>
  clear hb0 hbel0 hd0 hw1
  obtain ⟨q,x,hq,rfl,hx,he,hb,hd,hbel⟩:=hrel
  by_cases hlt:0<q
  ·obtain ⟨p,rfl⟩:∃ p,q=p+1:=⟨q - 1,by omega⟩
   obtain rfl:x=(p:Int):=by omega
   have hd2:decide (0≤(p:Int))=true:=by rw [decide_eq_true_eq];omega
   have hc:=hb.wat p (by omega)
   have hc2:=hd.wat p (by omega)
   have hl:=lim_lt N p
   have hl2:=lim_lt M p
   have hp4:p<4:=by omega
   have hpi:(p:Int)<4:=by omega
   have He:=Qhd he
   clear he
   have k0:=fun u:Ext wr=>u.cell hc
   have k1:=fun u:Ext wr=>u.cell hc2
   go_wp2
   refine Q02 wr 8 (by kernel_rfl) (by kernel_rfl) (Below.refl _ _) ?_;simp only [List.take_succ_cons,List.take_zero,List.take_nil]
   iterate 8 (refine Q01 (by rfl) (fun K hK=>?_);go_simp;refine hK _ ?_;clear hK K)
   refine Q7v rfl ?_
   rintro w2 hw2
   simp only [List.reverse_nil,Q00]
   have hb2:=hb.kept hw2
   have hd3:=hd.kept hw2
   have hc3:=hb2.wat p (by omega)
   have hc4:=hd3.wat p (by omega)
   have hbel2:=hbel.trans (hw2.mono hbel.size)
   clear hc hc2 hb hd k0 k1
   by_cases h1:lim N p<lim M p
   ·have hd5:decide (lim N p<lim M p)=true:=by rw [decide_eq_true_eq];exact h1
    have hz:=cmp_lt (Qd8 N M hN hM p (by omega) (fun i h1 h2=>He.out i h1 h2) h1)
    go_wp2
    go_ret
    exact ⟨Q8b hz.symm,hbel2⟩
   ·have hd5:decide (lim N p<lim M p)=false:=by rw [decide_eq_false_iff_not];exact h1
    have k0:=fun u:Ext w2=>u.cell hc3
    have k1:=fun u:Ext w2=>u.cell hc4
    go_wp2
    refine Q02 w2 8 (by kernel_rfl) (by kernel_rfl) (Below.refl _ _) ?_;simp only [List.take_succ_cons,List.take_zero,List.take_nil]
    iterate 8 (refine Q01 (by rfl) (fun K hK=>?_);go_simp;refine hK _ ?_;clear hK K)
    refine Q7v rfl ?_
    rintro w3 hw3
    simp only [List.reverse_nil,Q00]
    have hb4:=hb2.kept hw3
    have hd4:=hd3.kept hw3
    have hbel3:=hbel2.trans (hw3.mono hbel2.size)
    clear hc3 hc4 hb2 hd3 k0 k1
    by_cases h2:lim M p<lim N p
    ·have hd6:decide (lim M p<lim N p)=true:=by rw [decide_eq_true_eq];exact h2
     have hz:=cmp_gt (Qd8 M N hM hN p (by omega) (fun i h1 h2=>(He.out i h1 h2).symm) h2)
     go_wp2
     go_ret
     exact ⟨Q8b hz.symm,hbel3⟩
    ·have hd6:decide (lim M p<lim N p)=false:=by rw [decide_eq_false_iff_not];exact h2
     go_wp2
     go_roundw
     case rel =>
      refine ⟨p,(p:Int) - 1,by omega,by go_num,by omega,fun j h3 h4=>?_,hb4,hd4,hbel3⟩
      rcases Nat.lt_or_ge p j with h5|h5
      ·exact He.out j h5 h4
      ·obtain rfl:j=p:=by omega
       omega
     case measure=>simp [intOf]
  ·obtain rfl:q=0:=by omega
   obtain rfl:x=-1:=by omega
   have hz:=cmp_eq (Qh8 N M hN hM fun i hi=>he i (by omega) hi)
   go_wp2
   go_ret
   exact ⟨Q8b hz.symm,hbel⟩
def numL:List UInt8→Nat
 | []=>0
 | x::l=>x.toNat*256 ^ l.length+numL l
theorem Qgy (l:List UInt8)(x:UInt8):numL (l++[x])=numL l*256+x.toNat:=by
 induction l with
 | nil=>simp [numL]
 | cons y l ih =>
  simp only [List.cons_append,numL,ih,List.length_append,List.length_singleton,Nat.pow_succ,Nat.add_mul,Nat.mul_assoc]
  omega
theorem Q4u (l:List UInt8):numL l<256 ^ l.length:=by
 induction l with
 | nil=>simp [numL]
 | cons x l ih =>
  have hx:=x.toNat_lt
  have:x.toNat*256 ^ l.length+256 ^ l.length≤256*256 ^ l.length:=by rw [←Nat.succ_mul];exact Nat.mul_le_mul_right _ (by omega)
  simp only [numL,List.length_cons,Nat.pow_succ]
  omega
theorem Qgx (N k:Nat)(h:k≤32):numL ((wb N).take k)=N / 2 ^ (8*(32 - k)) % 256 ^ k:=by
 induction k with
 | zero=>simp [numL,Nat.mod_one]
 | succ k ih =>
  rw [Qf8 N k (by omega),Qgy,ih (by omega),wbyte,UInt8.toNat_ofNat',show 2 ^ 8=256 from rfl]
  have e:N / 2 ^ (8*(32 - k))=N / 2 ^ (8*(31 - k)) / 256:=by
   rw [Nat.div_div_eq_div_mul,show (256:Nat)=2 ^ 8 from rfl,←Nat.pow_add,show 8*(31 - k)+8=8*(32 - k) from by omega]
  rw [e,show 32 - (k+1)=31 - k from by omega,Nat.pow_succ,Nat.mul_comm (256 ^ k) 256,Nat.mod_mul]
  omega
theorem Qbe (N:Nat)(h:N<W256):numL (wb N)=N:=by
 have:=Qgx N 32 (by omega)
 rw [List.take_of_length_le (by rw [wb_len];omega)] at this
 rw [this]
 simp only [Nat.sub_self,Nat.mul_zero,Nat.pow_zero,Nat.div_one]
 exact Nat.mod_eq_of_lt h
theorem Qbg:∀ (l m:List UInt8),l.length=m.length→(l<m↔numL l<numL m)
 | [],[],_=>by simp [numL]
 | [],_::_,h=>by simp at h
 | _::_,[],h=>by simp at h
 | x::l,y::m,h=>by
  have hl:l.length=m.length:=by simpa using h
  have ih:=Qbg l m hl
  have b1:=Q4u l
  have b2:=Q4u m
  rw [hl] at b1
  simp only [List.cons_lt_cons_iff,ih,numL,hl]
  generalize hP:256 ^ m.length=P at *
  rcases Nat.lt_trichotomy x.toNat y.toNat with h1|h1|h1
  ·have:(x.toNat+1)*P≤y.toNat*P:=Nat.mul_le_mul_right _ h1
   rw [Nat.add_mul,Nat.one_mul] at this
   have hx:x<y:=UInt8.lt_iff_toNat_lt.2 h1
   exact ⟨fun _=>by omega,fun _=>.inl hx⟩
  ·obtain rfl:x=y:=UInt8.toNat_inj.1 h1
   have:¬ x<x:=UInt8.lt_irrefl x
   simp [this]
  ·have:(y.toNat+1)*P≤x.toNat*P:=Nat.mul_le_mul_right _ h1
   rw [Nat.add_mul,Nat.one_mul] at this
   refine ⟨fun h2=>?_,fun h2=>by omega⟩
   rcases h2 with h2|h2
   ·have:=UInt8.lt_iff_toNat_lt.1 h2;omega
   ·rw [h2.1] at h1;omega
theorem Qkt (N M:Nat)(hN:N<W256)(hM:M<W256):Op.bytesLess (wb N) (wb M)=decide (N<M):=by
 rw [bytesLess_eq]
 have:=Qbg (wb N) (wb M) (by rw [wb_len,wb_len])
 rw [Qbe N hN,Qbe M hM] at this
 simp [this]
theorem Q9h (n:Nat)(h:n<18446744073709551616):wcs n=[.int .u64 (n:Int),.int .u64 0,.int .u64 0,.int .u64 0]:=by
 have e0:lim n 0=n:=by rw [lim0];omega
 have e1:lim n 1=0:=by rw [lim1];omega
 have e2:lim n 2=0:=by rw [lim2];omega
 have e3:lim n 3=0:=by rw [lim3];omega
 unfold wcs limI
 rw [e0,e1,e2,e3];rfl
def z4:List Value:=[.int .u64 0,.int .u64 0,.int .u64 0,.int .u64 0]
theorem Qhn (n:Nat)(h:n<18446744073709551616)(w:World) :
  Calls Tryz.prog 51 #[.int .u64 (n:Int)] w fun e w'=>e=.returned (wv n)∧Below w.heap.size w w':=by
 have hz:=Blk.new w 24 z4
 have hbel:Below w.heap.size w (w.alloc (.cells z4.toArray 24)):=Qba _ _
 have hws:=Q9h n h
 go_enter Tryz.func51,Tryz.ntmps51
 go_wp2_with (first
  |(refine Q0j rfl 24 (.tmp 2) (.tmp 4) rfl (w.heap.size) [.int .u64 (n:Int),.int .u64 0,.int .u64 0,.int .u64 0] rfl rfl Q0f hz rfl rfl (by rw [←hws];exact Q38 n) hbel (by omega) ?_;intro w2 hb2 hbel2 _))
 exact bodyPost_ret (Q0b rfl _ _ (w.heap.size) Q0f hb2 rfl rfl) rfl ⟨by unfold wv;rw [hws],hbel2⟩
theorem Qc7 (n:Nat)(h:n<18446744073709551616)(w:World) :
  Calls Tryz.prog 54 #[.int .u64 (n:Int)] w fun e w'=>e=.returned (wv n)∧Below w.heap.size w w':=by
 have hz:=Blk.new w 24 z4
 have hbel:Below w.heap.size w (w.alloc (.cells z4.toArray 24)):=Qba _ _
 have hws:=Q9h n h
 go_enter Tryz.func54,Tryz.ntmps54
 go_wp2_with (first
  |(refine Q0j rfl 24 (.tmp 2) (.tmp 4) rfl (w.heap.size) [.int .u64 (n:Int),.int .u64 0,.int .u64 0,.int .u64 0] rfl rfl Q0f hz rfl rfl (by rw [←hws];exact Q38 n) hbel (by omega) ?_;intro w2 hb2 hbel2 _))
 exact bodyPost_ret (Q0b rfl _ _ (w.heap.size) Q0f hb2 rfl rfl) rfl ⟨by unfold wv;rw [hws],hbel2⟩
theorem Qk0 (N M:Nat)(hN:N<W256)(hM:M<W256)(w:World) :
  Calls Tryz.prog 79 #[wv N,wv M] w fun e w'=>e=.returned (.bool (decide (N<M)))∧Below w.heap.size w w':=by
 obtain ⟨w1,hw1⟩:∃ w1,w1=(w.alloc (.cells (wcs N).toArray 24)).alloc (.cells (wcs M).toArray 24):=⟨_,rfl⟩
 have hb0:Blk 24 w1 w.heap.size (wcs N):=by rw [hw1];exact (boxW w N).alloc _
 have hd0:Blk 24 w1 (w.heap.size+1) (wcs M):=by
  have:=Blk.new (w.alloc (.cells (wcs N).toArray 24)) 24 (wcs M)
  rw [hw1];simpa using this
 have hbel0:Below w.heap.size w w1:=by rw [hw1];exact (Qba _ _).alloc (by simp) _
 have hlt:=Qkt N M hN hM
 have k0:=fun u:Ext w1=>u.cell (hb0.wat 0 (by omega))
 have k1:=fun u:Ext w1=>u.cell (hb0.wat 1 (by omega))
 have k2:=fun u:Ext w1=>u.cell (hb0.wat 2 (by omega))
 have k3:=fun u:Ext w1=>u.cell (hb0.wat 3 (by omega))
 have m0:=fun u:Ext w1=>u.cell (hd0.wat 0 (by omega))
 have m1:=fun u:Ext w1=>u.cell (hd0.wat 1 (by omega))
 have m2:=fun u:Ext w1=>u.cell (hd0.wat 2 (by omega))
 have m3:=fun u:Ext w1=>u.cell (hd0.wat 3 (by omega))
 show Calls Tryz.prog 79 #[.agg (wcs N).toArray,.agg (wcs M).toArray] w _
 go_enter Tryz.func79,Tryz.ntmps79
 go_wp2
 simp only [←hw1]
 clear hw1
 refine Q02 w1 8 (by kernel_rfl) (by kernel_rfl) (Below.refl _ _) ?_;simp only [List.take_succ_cons,List.take_zero,List.take_nil]
 (refine Q01 (by rfl) (fun K hK=>?_);go_simp;refine hK _ ?_;clear hK K)
 refine Q07 6 (fun v w1=>Bytes w1 v (wb N)) rfl (of_decide_eq_true rfl) (fun v w1 w2 h1 h2=>RowOf.kept h1 h2) (fun w1 hw1=>?_) ?_
 ·simp only [relOf,List.filter_nil,Q00]
  refine ⟨rfl,?_⟩
  go_simp
  refine (Q1s N _).mono ?_
  rintro e w2 ⟨v,rfl,hv,hb⟩
  exact ⟨v,rfl,hv.row,hb⟩
 refine wpX_eq (str (wb N)) (fun w1 hw1=>?_) ?_
 ·change Q00 w1 [(6,_)] _ _
  intro v33 h33
  have hc:=Q0h (P:=Tryz.prog) (w:=w1) (src:=25) (dst:=9) elU8.ht (by kernel_rfl) (by kernel_rfl) h33
  simp only [Q00]
  refine ⟨rfl,?_⟩
  go_simp
  exact Below.refl _ _
 (refine Q01 (by rfl) (fun K hK=>?_);go_simp;refine hK _ ?_;clear hK K)
 refine Q07 9 (fun v w1=>Bytes w1 v (wb M)) rfl (of_decide_eq_true rfl) (fun v w1 w2 h1 h2=>RowOf.kept h1 h2) (fun w1 hw1=>?_) ?_
 ·change Q00 w1 [] _ _
  simp only [Q00]
  refine ⟨rfl,?_⟩
  go_simp
  refine (Q1s M _).mono ?_
  rintro e w2 ⟨v,rfl,hv,hb⟩
  exact ⟨v,rfl,hv.row,hb⟩
 refine wpX_eq (str (wb M)) (fun w1 hw1=>?_) ?_
 ·change Q00 w1 [(9,_)] _ _
  intro v33 h33
  have hc:=Q0h (P:=Tryz.prog) (w:=w1) (src:=25) (dst:=9) elU8.ht (by kernel_rfl) (by kernel_rfl) h33
  simp only [Q00]
  refine ⟨rfl,?_⟩
  go_simp
  exact Below.refl _ _
 iterate 2 (refine Q01 (by rfl) (fun K hK=>?_);go_simp;refine hK _ ?_;clear hK K)
 refine Q7v rfl ?_
 rintro w3 hw3 v6 _ v9 _
 simp only [Q00]
 go_wp2
 go_ret
 exact ⟨rfl,hbel0.trans (hw3.mono hbel0.size)⟩
end Go.Proofs.YtbdmkfjgnjfjbaaGreat
