/- sponge.Pad and the reference's SPad: both come to one list. | sponge.Mix and Unmix and the reference's. | The reference's SMix; sponge.Unmix and the reference's -/
import Derived.Test.YtbdmkfjgnjfjbaaGreatBlockListsK02
import Derived.StillTailTactics
import Derived.OpenShut
import Derived.Laws.BitsAllLaws
import Derived.Test.YtbdmkfjgnjfjbaaGreatBlockListsK01
import Derived.Deep.MidRow
set_option linter.unusedSimpArgs false
set_option linter.unusedVariables false
set_option maxHeartbeats 4000000
set_option maxRecDepth 100000
open List (append_assoc getElem?_append_right getElem?_drop getElem?_eq_getElem getElem?_eq_none getElem?_map getElem?_set length_map map_set mem_map set_append_right take_nil take_succ_cons take_zero)
open Nat (add_mul le_refl lt_of_lt_of_le mod_lt mul_comm mul_one one_mul pow_add sub_self two_pow_pos zero_add)
namespace Go.Proofs.YtbdmkfjgnjfjbaaGreat
open Go.RowKit
def padZ (n:Nat):Nat:=(62 - n % 32) % 32
def padL (l:List UInt8):List UInt8:=l++[1]++List.replicate (padZ l.length) 0++[128]

theorem Qjo (l:List UInt8)(n:Nat)(h:n=l.length+2+padZ l.length):((((splice (List.replicate n (Value.int .u8 0)) 0 (l.map u8v)).set l.length (.int .u8 1))).set (n - 1) (.int .u8 128))=(padL l).map u8v:=by
 have y:splice (List.replicate n (Value.int .u8 0)) 0 (l.map u8v)=l.map u8v++(Value.int .u8 0::(List.replicate (padZ l.length) (Value.int .u8 0)++[Value.int .u8 0])):=by
  unfold splice;rw [take_zero,List.nil_append,zero_add,length_map,List.drop_replicate,show n - l.length=padZ l.length+1+1 from by omega,List.replicate_succ,List.replicate_succ']
 rw [y,set_append_right _ _ (by simp)];simp only [length_map,sub_self,List.set_cons_zero];rw [set_append_right _ _ (by simp;omega),length_map,show n - 1 - l.length=padZ l.length+1 from by omega,List.set_cons_succ,set_append_right _ _ (by simp)];simp [padL,u8v]
theorem Qp1 (a:Option Addr)(c:Nat)(l:List UInt8)(w:World)(h:Q02 w (.slice a l.length c) l)(hl:l.length+64<=140737488355328) :
  Calls Tryz.prog 82 #[.slice a l.length c] w fun e w'=>∃ v,e=.returned v/\Q08 b8 1 5 w' w.heap.size v (padL l)/\Below w.heap.size w w':=by
 have V:=h.small;unfold maxLen at V;have hz:padZ l.length<=31:=by unfold padZ;omega
 obtain ⟨n,z⟩:∃ n:Nat,n=l.length+2+padZ l.length:=⟨_,rfl⟩;have K:=Qjo l n z;have N:(splice (List.replicate n (Value.int .u8 0)) 0 (l.map u8v)).length=n:=by rw [length_splice _ _ _ (by simp;omega)];simp
 have H:=Qhd z;have a5:l.length+2<=n/\n<=l.length+33:=by omega
 have O:=Qhd K;have G:=Qhd N;have U:((((l.length:Int) % 32==31)=true/\((l.length:Int) / 32+1)*32+32=(n:Int))∨(((l.length:Int) % 32==31)=false/\((l.length:Int) / 32+1)*32=(n:Int))):=by
  unfold padZ at z;by_cases D:(l.length:Int) % 32=31
  ·exact .inl ⟨by simpa using D,by omega⟩
  exact .inr ⟨by simpa using D,by omega⟩
 clear z K N;go_enter Tryz.func82,Tryz.ntmps82;rcases U with ⟨D,W⟩|⟨D,W⟩
 all_goals
  go_wp2_with (refine Q4p rfl (.tmp 16) (.tmp 16) 25 rfl elU8 rfl .i64 .i64 _ _ n rfl rfl ?_ ?_ (Below.refl _ _) (le_refl _) ?_ ?_ ?_)
  ·rfl
  ·rfl
  ·omega
  ·unfold maxLen;omega
  intro w1 T I _ Z;have M:l.length<=n:=by omega
  have L:0+l.length<=(List.replicate n (Value.int .u8 0)).length:=by simp;omega
  go_wp2_with (refine Qbf rfl (.tmp 18) (.tmp 19) 25 25 rfl elU8 w.heap.size 0 n n rfl (.slice a l.length c) l rfl (h.below I) M _ T L w.heap.size w I (le_refl _) ?_)
  intro w2 y S;clear M L;rw [Q22] at y;obtain ⟨x1,a0⟩:=y.has l.length (by rw [G.out];omega);have a1:=y.free l.length;have E:=y.set l.length (.int .u8 1);obtain ⟨x3,a2⟩:=E.has (n - 1) (by rw [List.length_set,G.out];omega);have a3:=E.free (n - 1)
  go_wp2
  go_ret;have J:=E.set (n - 1) (.int .u8 128);rw [O.out,<-Q22] at J;refine ⟨_,rfl,(J.own (B:=w.heap.size) n (fun _=>rfl) ?_ (le_refl _) (by unfold maxLen;omega)),(S.setCell (le_refl _) _).setCell (le_refl _) _⟩;have:=H.out;simp [padL];omega
theorem Quq (k:Int)(h:0<=k/\k<=63):bits .and .u64 k 63=k:=by
 have:=u64_and k 63 h.1 (by omega) (by omega) (by omega);rw [this,show (63:Int).toNat=63 from rfl,nat_mask6];omega
def rotN (x k:Nat):Nat:=(x*2 ^ k) % 18446744073709551616+x / 2 ^ (64 - k)
def rotI (x k:Int):Int:=(rotN x.toNat k.toNat:Nat)
def inU (x:Int):Prop:=0<=x/\x<=18446744073709551615
theorem Q8y (x k:Nat)(y:k<=64):rotN x k=(x % 2 ^ (64 - k))*2 ^ k+x / 2 ^ (64 - k):=by
 unfold rotN;have h:(18446744073709551616:Nat)=2 ^ (64 - k)*2 ^ k:=by rw [<-pow_add,show 64 - k+k=64 from by omega]
 rw [h,Nat.mul_mod_mul_right]
theorem Qlm (x k:Nat)(O:x<18446744073709551616)(M:k<=63):rotN x (k+1)=(rotN x k*2) % 18446744073709551616+rotN x k / 9223372036854775808:=by
 rw [Q8y x (k+1) (by omega),Q8y x k (by omega)];have D:64 - (k+1)=63 - k:=by omega
 have E:64 - k=63 - k+1:=by omega
 rw [D,E];have y:2 ^ (63 - k)*2 ^ k=9223372036854775808:=by rw [<-pow_add,show 63 - k+k=63 from by omega]
 have z:0<2 ^ (63 - k):=two_pow_pos _;have L:0<2 ^ k:=two_pow_pos _;rw [Nat.pow_succ,Nat.pow_succ];generalize 2 ^ (63 - k)=A at *;generalize 2 ^ k=B at *;have J:x % (A*2)=A*(x / A % 2)+x % A:=by rw [Nat.mod_mul];omega
 have K:x / (A*2)=x / A / 2:=by rw [Nat.div_div_eq_div_mul]
 rw [J,K];have I:x % A+1<=A:=mod_lt _ z;have N:x / A<2*B:=by
  rw [Nat.div_lt_iff_lt_mul z,Nat.mul_assoc,mul_comm B A,y];omega
 have h:x / A % 2=0∨x / A % 2=1:=by omega
 generalize x % A=b0 at *;generalize x / A=q at *;have G:(b0+1)*B<=A*B:=Nat.mul_le_mul_right _ I;rw [add_mul,y,one_mul] at G;have H:b0*(B*2)=2*(b0*B):=by rw [<-Nat.mul_assoc,mul_comm]
 rw [H];rcases h with h|h
 ·rw [h,Nat.mul_zero,zero_add];generalize b0*B=c at *;omega
 rw [h,mul_one,add_mul A b0 B,y];generalize b0*B=c at *;omega
theorem Qfh (x k:Nat)(E:x<18446744073709551616)(H:k<=63):rotN x k<18446744073709551616:=by
 rw [Q8y x k (by omega)];have h:(18446744073709551616:Nat)=2 ^ (64 - k)*2 ^ k:=by rw [<-pow_add,show 64 - k+k=64 from by omega]
 have y:0<2 ^ (64 - k):=two_pow_pos _;have G:x / 2 ^ (64 - k)<2 ^ k:=by rw [Nat.div_lt_iff_lt_mul y,mul_comm,<-h];exact E
 generalize 2 ^ (64 - k)=A at *;generalize 2 ^ k=B at *;have D:x % A+1<=A:=mod_lt _ y;have z:(x % A+1)*B<=A*B:=Nat.mul_le_mul_right _ D;rw [add_mul,<-h,one_mul] at z;omega
theorem Q8g (x:Int):IntKind.u64.wrap x=x % 18446744073709551616:=IntKind.wrap_u64 x
theorem Qpa (x k:Int)(y:inU x)(h:0<=k/\k<=63):bits .or .u64 (IntKind.u64.wrap (x*2 ^ k.toNat)) (x / 2 ^ (64 - k).toNat)=rotI x k:=by
 unfold inU at y;obtain ⟨n,rfl⟩:=Int.eq_ofNat_of_zero_le y.1;obtain ⟨m,rfl⟩:=Int.eq_ofNat_of_zero_le h.1;have z:n<18446744073709551616:=by omega
 have K:m<=63:=by omega
 have D:((64:Int) - (m:Int)).toNat=64 - m:=by omega
 have E:IntKind.u64.wrap ((n:Int)*2 ^ ((m:Int)).toNat)=((n*2 ^ m % 18446744073709551616:Nat):Int):=by
  have e:(n:Int)*2 ^ m=((n*2 ^ m:Nat):Int):=by rw [Int.natCast_mul,Int.natCast_pow];rfl
  rw [Q8g,Int.toNat_natCast,e];generalize n*2 ^ m=c;omega
 have G:(n:Int) / 2 ^ (64 - m)=((n / 2 ^ (64 - m):Nat):Int):=by rw [Int.natCast_ediv,Int.natCast_pow];rfl
 have J:=Qfh n m z K;have H:n / 2 ^ (64 - m)<2 ^ m:=by
  rw [Nat.div_lt_iff_lt_mul (two_pow_pos _),<-pow_add,show m+(64 - m)=64 from by omega];exact z
 have I:n*2 ^ m % 18446744073709551616 % 2 ^ m=0:=by
  have h:(18446744073709551616:Nat)=2 ^ (64 - m)*2 ^ m:=by rw [<-pow_add,show 64 - m+m=64 from by omega]
  rw [h,Nat.mul_mod_mul_right];exact Nat.mul_mod_left _ _
 rw [D,E,G,u64_or_nat _ _ (mod_lt _ (by omega)) (by unfold rotN at J;omega),nat_join m _ _ I H];rfl
theorem Qrw (x k:Int)(h:inU x)(y:0<=k/\k<=63)(w:World) :
  Calls Tryz.prog 159 #[.int .u64 x,.int .i64 k] w fun e w'=>e=.returned (.int .u64 (rotI x k))/\w'=w:=by
 have z:=Quq k y;have D:=Qpa x k h y;unfold inU at h;go_enter Tryz.func159,Tryz.ntmps159
 go_wp2
 go_ret;exact ⟨rfl,rfl⟩
def Qul (st:List Int)(i:Nat):Int:=IntKind.u64.wrap (st[i]?.getD 0+rotI (bits .xor .u64 (st[(i+1) % 8]?.getD 0) (st[(i+5) % 8]?.getD 0)) (5*i+3))
def Qj0 (st:List Int)(i:Nat):List Int:=st.set i (Qul st i)
def Q43 (st:List Int):Nat->List Int
 | 0=>st
 | n+1=>Qj0 (Q43 st n) n
def Q4w (r:Nat):Int:=IntKind.u64.wrap (((r:Int)+1)*11400714819323198485)
def Qqx (st:List Int)(r:Nat):List Int:=Q43 (st.set 0 (bits .xor .u64 (st[0]?.getD 0) (Q4w r))) 8
def mixL (st:List Int):Nat->List Int
 | 0=>st
 | n+1=>Qqx (mixL st n) n
def z8:List Value:=[.int .u64 0,.int .u64 0,.int .u64 0,.int .u64 0,.int .u64 0,.int .u64 0,.int .u64 0,.int .u64 0]
def u64s (st:List Int):List Value:=st.map (Value.int .u64)
theorem Q5c (st:List Int)(i:Nat)(x:Int):(u64s st).set i (.int .u64 x)=u64s (st.set i x):=by simp [u64s,map_set]
def St (st:List Int):Prop:=st.length=8/\∀ x∈st,inU x
theorem Qoo (x:Int):inU (IntKind.u64.wrap x):=bounds_u64 (wf_wrap _ _)
theorem Q5n (op:BinOp)(x y:Int):inU (bits op .u64 x y):=bounds_u64 (wf_bits _ _ _ _)
theorem St.set {st:List Int}(h:St st)(i:Nat)(x:Int)(D:inU x):St (st.set i x):=by
 refine ⟨by simpa using h.1,fun y z=>?_⟩;rcases List.mem_or_eq_of_mem_set z with z|rfl
 ·exact h.2 y z
 exact D
theorem St.get {st:List Int}(h:St st)(i:Nat)(y:i<8):inU (st[i]?.getD 0):=by
 have:i<st.length:=by rw [h.1];exact y
 simp only [getElem?_eq_getElem this,Option.getD_some];exact h.2 _ (List.getElem_mem this)
theorem St.step {st:List Int}(h:St st)(i:Nat):St (Qj0 st i):=h.set i _ (Qoo _)
theorem St.steps {st:List Int}(h:St st)(n:Nat):St (Q43 st n):=by
 induction n with
 | zero=>exact h
 | succ n ih=>exact ih.step n
theorem St.round {st:List Int}(h:St st)(r:Nat):St (Qqx st r):=(h.set 0 _ (Q5n _ _ _)).steps 8
theorem St.mix {st:List Int}(h:St st)(n:Nat):St (mixL st n):=by
 induction n with
 | zero=>exact h
 | succ n ih=>exact ih.round n
theorem Q8k {st:List Int}(h:St st)(i:Nat)(y:i<8):(u64s st)[i]?=some (.int .u64 (st[i]?.getD 0)):=by
 have:i<st.length:=by rw [h.1];exact y
 simp [u64s,getElem?_eq_getElem this]
theorem Blk.st {e:TypeId}{w:World}{b:Nat}{st:List Int}(y:Blk e w b (u64s st))(h:St st)(i:Nat)(z:i<8):w.cell? ⟨b,i,none⟩=some (.int .u64 (st[i]?.getD 0)):=by
 rw [y.cell,Q8k h i z]
theorem Q13 {st:List Int}(h:St st):(u64s st).length=8:=by simp [u64s,h.1]
theorem Q7x (st:List Int):∀ u∈u64s st,u.oneCell'=true:=by
 intro u h;obtain ⟨x,_,rfl⟩:=mem_map.1 h;rfl
theorem Qsd (st:List Int)(h:St st)(w:World) :
  Calls Tryz.prog 135 #[.agg (u64s st).toArray] w fun e w'=>e=.returned (.agg (u64s (mixL st 12)).toArray)/\Below w.heap.size w w':=by
 have D:Blk 110 (((w.alloc (.cells (u64s st).toArray 110)).alloc (.cells z8.toArray 110))) (w.heap.size+1) z8:=by
  have:=D01 (w.alloc (.cells (u64s st).toArray 110)) 110 z8;simpa using this
 have K:Blk 110 (((w.alloc (.cells (u64s st).toArray 110)).alloc (.cells z8.toArray 110))) w.heap.size (u64s st):=(D01 w 110 (u64s st)).alloc _;have z:Below w.heap.size w ((w.alloc (.cells (u64s st).toArray 110)).alloc (.cells z8.toArray 110)):=(Qba _ _).alloc (by simp) _;go_enter Tryz.func135,Tryz.ntmps135
 go_wp2
 go_loopw [5] (fun r wr=>∃ k:Nat,k<=12/\r=.int .i64 k/\Blk 110 wr w.heap.size (u64s (mixL st k))/\Below w.heap.size w wr/\Blk 110 wr (w.heap.size+1) z8) (fun r _=>12 - (intOf r).toNat)
 case atStart=>exact ⟨0,by omega,rfl,K,z,D⟩
 case round =>
  clear D K z;obtain ⟨k,hk,rfl,y,z,D⟩:=hrel;have hst:=h.mix k;by_cases hlt:k<12
  ·have V:=y.st hst 0 (by omega);have W:=y.free 0;have hd:decide ((k:Int)<12)=true:=by rw [decide_eq_true_eq];omega
   go_wp2
   rw [show IntKind.u64.wrap (((k:Int)+1)*11400714819323198485)=Q4w k from rfl];obtain ⟨O,rfl⟩:∃ O:World,O=wr:=⟨_,rfl⟩
   go_loopw [16] (fun r I=>∃ i:Nat,i<=8/\r=.int .i64 i/\Blk 110 I w.heap.size (u64s (Q43 ((mixL st k).set 0 (bits .xor .u64 ((mixL st k)[0]?.getD 0) (Q4w k))) i))/\Below w.heap.size w I/\Blk 110 I (w.heap.size+1) z8) (fun r _=>8 - (intOf r).toNat)
   case atStart=>exact ⟨0,by omega,rfl,by have:=y.set 0 (.int .u64 (bits .xor .u64 ((mixL st k)[0]?.getD 0) (Q4w k)));rw [Q5c] at this;exact this,z.setCell (le_refl _) _,D.other _ (by simp) _⟩
   case round =>
    clear y z D V W;obtain ⟨i,hi,rfl,y,z,D⟩:=hrel;have H:St (Q43 ((mixL st k).set 0 (bits .xor .u64 ((mixL st k)[0]?.getD 0) (Q4w k))) i):=(hst.set 0 _ (Q5n _ _ _)).steps i;generalize hq:Q43 ((mixL st k).set 0 (bits .xor .u64 ((mixL st k)[0]?.getD 0) (Q4w k))) i=s2 at y H;have J:=Qhd hq;clear hq;by_cases hi8:i<8
    ·obtain ⟨E,L⟩:=Qe ((i+1) % 8);obtain ⟨G,M⟩:=Qe ((i+5) % 8);have c0:=y.st H i hi8;have c1:=y.st H E (by omega);have c5:=y.st H G (by omega);have f0:=y.free i;have Z:inU (bits .xor .u64 (s2[E]?.getD 0) (s2[G]?.getD 0)):=Q5n _ _ _;have e1:IntKind.i64.wrap ((i:Int)+1)=(i:Int)+1:=IntWalk.i64_in _ (by omega);have e5:IntKind.i64.wrap ((i:Int)+5)=(i:Int)+5:=IntWalk.i64_in _ (by omega);have em:IntKind.i64.wrap (5*(i:Int))=5*(i:Int):=IntWalk.i64_in _ (by omega);have ea:IntKind.i64.wrap (5*(i:Int)+3)=5*(i:Int)+3:=IntWalk.i64_in _ (by omega);have t1:((i:Int)+1).tmod 8=(E:Int):=by rw [Int.tmod_eq_emod_of_nonneg (by omega)];omega
     have t5:((i:Int)+5).tmod 8=(G:Int):=by rw [Int.tmod_eq_emod_of_nonneg (by omega)];omega
     have l1:(E:Int)<8:=by omega
     have l5:(G:Int)<8:=by omega
     have S:Hid ((s2.set i (IntKind.u64.wrap (s2[i]?.getD 0+rotI (bits .xor .u64 (s2[E]?.getD 0) (s2[G]?.getD 0)) (5*(i:Int)+3))))=Qj0 s2 i):=by rw [L,M];exact Qhd rfl
     clear L M
     go_wp2
     refine wp_region_still_tail 20 (by kernel_rfl) (by kernel_rfl) ?_;simp only [take_succ_cons,take_zero,List.drop_succ_cons,List.drop_zero]
     iterate 17 still_step
     still_call (Qrw _ _ Z ⟨by omega,by omega⟩ _)
     iterate 2 still_step
     refine wpStill_nil ?_;change wpList _ _ _ _ _ wr.drew
     go_wp2
     go_roundw
     case rel =>
      have N:=(y.set i (.int .u64 (IntKind.u64.wrap (s2[i]?.getD 0+rotI (bits .xor .u64 (s2[E]?.getD 0) (s2[G]?.getD 0)) (5*(i:Int)+3))))).drew;rw [Q5c,S.out] at N;exact ⟨i+1,by omega,by go_num,by show Blk _ _ _ (u64s (Qj0 (Q43 _ i) i));rw [J.out];exact N,(z.setCell (le_refl _) _).drew,(D.other _ (by simp) _).drew⟩
     case measure=>simp [intOf];omega
    obtain rfl:i=8:=by omega
    go_wp2
    go_roundw
    case rel=>exact ⟨k+1,by omega,by go_num,by show Blk _ _ _ (u64s (Q43 _ 8));rw [J.out];exact y,z,D⟩
    case measure=>simp [intOf];omega
  ·obtain rfl:k=12:=by omega
   have hst:=h.mix 12
   go_wp2_with (first
    |(refine Q1b rfl 110 (.tmp 1) rfl w.heap.size rfl Q3w y (Q13 hst) ?_)
    |(refine Q0n rfl 110 (.tmp 2) (.tmp 41) rfl (w.heap.size+1) (u64s (mixL st 12)) rfl rfl Q3w D (Q13 hst) rfl (Q7x _) z (by omega) ?_;intro w2 T U _))
   exact bodyPost_ret (Q0h rfl _ _ (w.heap.size+1) Q3w T (Q13 hst) rfl) rfl ⟨rfl,U⟩

theorem Qks (x k:Int)(h:inU x)(y:0<=k/\k<63):IntKind.u64.wrap (IntKind.u64.wrap (rotI x k*2)+rotI x k / 9223372036854775808)=rotI x (k+1):=by
 unfold inU at h;obtain ⟨n,rfl⟩:=Int.eq_ofNat_of_zero_le h.1;obtain ⟨m,rfl⟩:=Int.eq_ofNat_of_zero_le y.1;have z:=Qlm n m (by omega) (by omega);have D:=Qfh n (m+1) (by omega) (by omega);have e:((m:Int)+1).toNat=m+1:=by omega
 unfold rotI;rw [Q8g,Q8g,e,Int.toNat_natCast,Int.toNat_natCast];omega
theorem Qpb (x k:Int)(h:inU x)(y:0<=k/\k<=63):inU (rotI x k):=by
 unfold inU at *;have:=Qfh x.toNat k.toNat (by omega) (by omega);unfold rotI;omega
theorem Qln (x:Int)(h:inU x):rotI x 0=x:=by
 unfold inU at h;unfold rotI rotN;simp;omega
theorem Qot (x n:Int)(h:inU x)(E:0<=n/\n<=63)(w:World) :
  Calls Tryz.prog 113 #[.int .u64 x,.int .i64 n] w fun e w'=>e=.returned (.int .u64 (rotI x n))/\w'=w:=by
 obtain ⟨m,rfl⟩:=Int.eq_ofNat_of_zero_le E.1;go_enter Tryz.func113,Tryz.ntmps113
 go_wp2
 go_loop [0,6] (fun y i=>∃ k:Nat,k<=m/\i=.int .i64 k/\y=.int .u64 (rotI x k)) (fun _ i=>m - (intOf i).toNat)
 case atStart=>exact ⟨0,Nat.zero_le _,rfl,Qkk (Qln x h).symm⟩
 case round =>
  obtain ⟨k,H,rfl,rfl⟩:=hrel;by_cases hlt:k<m
  ·have z:=Qks x k h ⟨by omega,by omega⟩;have G:=Qpb x k h ⟨by omega,by omega⟩;unfold inU at G;have D:=Qhd z;clear z
   go_wp2
   go_round
   case rel=>exact ⟨k+1,by omega,by go_num,Qkk D.out⟩
   case measure=>simp [intOf];omega
  obtain rfl:k=m:=by omega
  go_wp2
  go_ret;exact ⟨rfl,rfl⟩
theorem Qi5 (n:Int):bits .and .i64 n 7=n % 8:=by
 have h:(BitVec.ofInt 64 7).toNat=2 ^ 3 - 1:=by decide
 have y:(BitVec.ofInt 64 n &&& BitVec.ofInt 64 7).toNat=(n % ((2 ^ 64:Nat):Int)).toNat % 2 ^ 3:=by
  rw [BitVec.toNat_and,BitVec.toNat_ofInt,h,Nat.and_two_pow_sub_one_eq_mod]
 show IntKind.i64.wrap ((BitVec.ofInt 64 n &&& BitVec.ofInt 64 7).toNat:Nat)=n % 8;rw [y,IntKind.wrap_i64];omega
theorem Qp2 (st:List Int)(h:St st)(w:World) :
  Calls Tryz.prog 83 #[.agg (u64s st).toArray] w fun e w'=>e=.returned (.agg (u64s (mixL st 12)).toArray)/\Below w.heap.size w w':=by
 have D:Blk 110 (((w.alloc (.cells (u64s st).toArray 110)).alloc (.cells z8.toArray 110))) (w.heap.size+1) z8:=by
  have:=D01 (w.alloc (.cells (u64s st).toArray 110)) 110 z8;simpa using this
 have L:Blk 110 (((w.alloc (.cells (u64s st).toArray 110)).alloc (.cells z8.toArray 110))) w.heap.size (u64s st):=(D01 w 110 (u64s st)).alloc _;have z:Below w.heap.size w ((w.alloc (.cells (u64s st).toArray 110)).alloc (.cells z8.toArray 110)):=(Qba _ _).alloc (by simp) _;obtain ⟨T,I⟩:=Qe (mixL st 12);rw [<-I];have U:=Qhd I;clear I;have ad:∀ w1:World,(Instr.arrayAt 110 (.slice (some ⟨w.heap.size,0,none⟩) 8 8)).run Tryz.prog w1=.ok (.pointer (some ⟨w.heap.size,0,none⟩)) w1:=fun _=>by simp [Instr.arrayAt,run_underlying Tryz.underlying110]
 go_enter Tryz.func83,Tryz.ntmps83
 go_wp2
 go_loopw [4] (fun r wr=>∃ k:Nat,k<=12/\r=.int .u64 ((k:Int)+1)/\Blk 110 wr w.heap.size (u64s (mixL st k))/\Below w.heap.size w wr/\Blk 110 wr (w.heap.size+1) z8) (fun r _=>(13 - intOf r).toNat)
 case atStart=>exact ⟨0,by omega,rfl,L,z,D⟩
 case round =>
  clear D L z;obtain ⟨k,hk,rfl,y,z,D⟩:=hrel;have hst:=h.mix k;by_cases hlt:k<12
  ·have a0:=y.st hst 0 (by omega);have a1:=y.free 0;have hd:decide ((k:Int)+1<=12)=true:=by rw [decide_eq_true_eq];omega
   go_wp2
   rw [show IntKind.u64.wrap (((k:Int)+1)*11400714819323198485)=Q4w k from rfl];obtain ⟨S,rfl⟩:∃ S:World,S=wr:=⟨_,rfl⟩
   go_loopw [5,6] (fun r q J=>∃ i:Nat,i<=8/\r=.int .i64 i/\q=.int .i64 (5*(i:Int)+3)/\Blk 110 J w.heap.size (u64s (Q43 ((mixL st k).set 0 (bits .xor .u64 ((mixL st k)[0]?.getD 0) (Q4w k))) i))/\Below w.heap.size w J/\Blk 110 J (w.heap.size+1) z8) (fun r _ _=>8 - (intOf r).toNat)
   case atStart=>exact ⟨0,by omega,rfl,rfl,by have:=y.set 0 (.int .u64 (bits .xor .u64 ((mixL st k)[0]?.getD 0) (Q4w k)));rw [Q5c] at this;exact this,z.setCell (le_refl _) _,D.other _ (by simp) _⟩
   case round =>
    clear y z D a0 a1;obtain ⟨i,hi,rfl,rfl,y,z,D⟩:=hrel;have H:St (Q43 ((mixL st k).set 0 (bits .xor .u64 ((mixL st k)[0]?.getD 0) (Q4w k))) i):=(hst.set 0 _ (Q5n _ _ _)).steps i;generalize hq:Q43 ((mixL st k).set 0 (bits .xor .u64 ((mixL st k)[0]?.getD 0) (Q4w k))) i=s2 at y H;have K:=Qhd hq;clear hq;by_cases hi8:i<8
    ·skip;obtain ⟨E,M⟩:=Qe ((i+1) % 8);obtain ⟨G,N⟩:=Qe ((i+5) % 8);have c0:=y.st H i (by omega);have c1:=y.st H E (by omega);have c5:=y.st H G (by omega);have f0:=y.free i;have hx:inU (bits .xor .u64 (s2[E]?.getD 0) (s2[G]?.getD 0)):=Q5n _ _ _;have e1:IntKind.i64.wrap ((i:Int)+1)=(i:Int)+1:=IntWalk.i64_in _ (by omega);have e5:IntKind.i64.wrap ((i:Int)+5)=(i:Int)+5:=IntWalk.i64_in _ (by omega);have em:IntKind.i64.wrap (5*(i:Int))=5*(i:Int):=IntWalk.i64_in _ (by omega);have ea:IntKind.i64.wrap (5*(i:Int)+3)=5*(i:Int)+3:=IntWalk.i64_in _ (by omega);have t1:bits .and .i64 ((i:Int)+1) 7=(E:Int):=by rw [Qi5];omega
     have t5:bits .and .i64 ((i:Int)+5) 7=(G:Int):=by rw [Qi5];omega
     have l0:(i:Int)<8:=by omega
     have l1:(E:Int)<8:=by omega
     have l5:(G:Int)<8:=by omega
     have V:Hid ((s2.set i (IntKind.u64.wrap (s2[i]?.getD 0+rotI (bits .xor .u64 (s2[E]?.getD 0) (s2[G]?.getD 0)) (5*(i:Int)+3))))=Qj0 s2 i):=by rw [M,N];exact Qhd rfl
     clear M N
     go_wp2
     refine wp_region_still_tail 21 (by kernel_rfl) (by kernel_rfl) ?_;simp only [take_succ_cons,take_zero,List.drop_succ_cons,List.drop_zero]
     iterate 18 still_step
     still_call (Qot _ _ hx ⟨by omega,by omega⟩ _)
     iterate 2 still_step
     refine wpStill_nil ?_;change wpList _ _ _ _ _ wr.drew;have eb:5*(i:Int)+3+5=5*((i:Int)+1)+3:=by omega
     go_wp2
     go_roundw
     case rel =>
      have O:=(y.set i (.int .u64 (IntKind.u64.wrap (s2[i]?.getD 0+rotI (bits .xor .u64 (s2[E]?.getD 0) (s2[G]?.getD 0)) (5*(i:Int)+3))))).drew;rw [Q5c,V.out] at O;exact ⟨i+1,by omega,by go_num,by go_num,by show Blk _ _ _ (u64s (Qj0 (Q43 _ i) i));rw [K.out];exact O,(z.setCell (le_refl _) _).drew,(D.other _ (by simp) _).drew⟩
     case measure=>simp [intOf];try omega
    obtain rfl:i=8:=by omega
    go_wp2
    go_roundw
    case rel=>exact ⟨k+1,by omega,by go_num,by show Blk _ _ _ (u64s (Q43 _ 8));rw [K.out];exact y,z,D⟩
    case measure=>simp [intOf];try omega
  obtain rfl:k=12:=by omega
  have hst:=h.mix 12;rw [<-U.out] at y hst
  go_wp2_with (first
   |(refine Q1b rfl 110 (.tmp 47) rfl w.heap.size rfl Q3w y (Q13 hst) ?_)
   |(refine Q0n rfl 110 (.tmp 2) (.tmp 48) rfl (w.heap.size+1) (u64s T) rfl rfl Q3w D (Q13 hst) rfl (Q7x _) z (by omega) ?_;intro w2 W Z _))
  exact bodyPost_ret (Q0h rfl _ _ (w.heap.size+1) Q3w W (Q13 hst) rfl) rfl ⟨rfl,Z⟩
theorem Qeb (i x y:Nat)(z:x % 2 ^ i=0)(D:y<2 ^ i):x ^^^ y=x+y:=by
 rw [<-nat_join i x y z D];apply Nat.eq_of_testBit_eq;intro b;rw [Nat.testBit_xor,Nat.testBit_or];by_cases hb:b<i
 ·have:x.testBit b=false:=by
   have h:=Nat.testBit_mod_two_pow x i b;rw [z,Nat.zero_testBit] at h;simpa [hb] using h.symm
  rw [this];simp
 have:y.testBit b=false:=Nat.testBit_lt_two_pow (lt_of_lt_of_le D (Nat.pow_le_pow_right (n:=2) (by omega) (show i<=b by omega)));rw [this];simp
def rdN (p:List UInt8)(j:Nat):Nat->Nat
 | 0=>0
 | m+1=>rdN p j m+(p[8*j+m]?.getD 0).toNat*2 ^ (8*m)
theorem Qls (p:List UInt8)(j m:Nat):rdN p j m<2 ^ (8*m):=by
 induction m with
 | zero=>simp [rdN]
 | succ m ih =>
  have y:=(p[8*j+m]?.getD 0).toNat_lt;rw [rdN,show 8*(m+1)=8*m+8 from by omega,pow_add];generalize (p[8*j+m]?.getD 0).toNat=x at *;have h:(x+1)*2 ^ (8*m)<=256*2 ^ (8*m):=Nat.mul_le_mul_right _ (by omega);rw [add_mul,one_mul] at h;rw [show (2:Nat) ^ 8=256 from rfl,mul_comm _ 256];omega
theorem Qlt (p:List UInt8)(j m:Nat)(h:m<=8):rdN p j m<18446744073709551616 :=
 lt_of_lt_of_le (Qls p j m) (Nat.pow_le_pow_right (n:=2) (by omega) (show 8*m<=64 by omega))
theorem Qd5 (x:UInt8)(m:Nat)(z:m<8):x.toNat*2 ^ (8*m)<18446744073709551616:=by
 have D:=x.toNat_lt;have y:x.toNat*2 ^ (8*m)<=255*2 ^ (8*m):=Nat.mul_le_mul_right _ (by omega);have h:(2:Nat) ^ (8*m)<=2 ^ 56:=Nat.pow_le_pow_right (n:=2) (by omega) (by omega);rw [show (2:Nat) ^ 56=72057594037927936 from rfl] at h;omega
theorem Qtm (p:List UInt8)(j m:Nat)(h:m<8):bits .or .u64 ((rdN p j m:Nat):Int) (((p[8*j+m]?.getD 0).toNat*2 ^ (8*m):Nat):Int)=((rdN p j (m+1):Nat):Int):=by
 rw [u64_or_nat _ _ (Qlt p j m (by omega)) (Qd5 _ m h),Nat.or_comm,nat_join (8*m) _ _ (Nat.mul_mod_left _ _) (Qls p j m),Nat.add_comm];rfl
def xorI (a:Int)(n:Nat):Int:=bits .xor .u64 a (n:Int)
theorem Qcn {a:Int}(h:inU a):∃ n:Nat,a=(n:Int)/\n<18446744073709551616:=by
 unfold inU at h;exact ⟨a.toNat,by omega,by omega⟩
theorem Qdd {a:Int}(h:inU a):xorI a 0=a:=by
 obtain ⟨n,rfl,y⟩:=Qcn h;unfold xorI;rw [u64_xor_nat n 0 y (by omega),Nat.xor_zero]
theorem Qri (a:Int)(n:Nat):inU (xorI a n):=Q5n _ _ _
theorem Qk9 {a:Int}(h:inU a)(p:List UInt8)(j m:Nat)(E:m<8):bits .xor .u64 (xorI a (rdN p j m)) (((p[8*j+m]?.getD 0).toNat*2 ^ (8*m):Nat):Int)=xorI a (rdN p j (m+1)):=by
 obtain ⟨n,rfl,y⟩:=Qcn h;unfold xorI;have z:=Qlt p j m (by omega);have D:=Qd5 (p[8*j+m]?.getD 0) m E;rw [u64_xor_nat n _ y z,u64_xor_nat _ _ (Nat.xor_lt_two_pow (n:=64) y z) D,u64_xor_nat n _ y (Qlt p j (m+1) (by omega)),Nat.xor_assoc,Nat.xor_comm (rdN p j m),Qeb (8*m) _ _ (Nat.mul_mod_left _ _) (Qls p j m),Nat.add_comm];rfl
def absK (st:List Int)(p:List UInt8)(k:Nat):List Int:=(List.range 8).map fun j=>xorI (st[j]?.getD 0) (rdN p j (min 8 (k - 8*j)))
theorem Q7h (st:List Int)(p:List UInt8)(k j:Nat)(h:j<8):(absK st p k)[j]?=some (xorI (st[j]?.getD 0) (rdN p j (min 8 (k - 8*j)))):=by simp [absK,h]
theorem Q5q (st:List Int)(p:List UInt8)(k:Nat):(absK st p k).length=8:=by simp [absK]
theorem Qda (st:List Int)(p:List UInt8)(k:Nat):St (absK st p k):=by
 refine ⟨Q5q _ _ _,fun x h=>?_⟩;unfold absK at h;obtain ⟨j,_,rfl⟩:=mem_map.1 h;exact Qri _ _
theorem Qex {st:List Int}(h:St st)(p:List UInt8):absK st p 0=st:=by
 apply List.ext_getElem?;intro j;by_cases hj:j<8
 ·rw [Q7h st p 0 j hj,show min 8 (0 - 8*j)=0 from by omega,rdN,Qdd (h.get j hj)];have:j<st.length:=by rw [h.1];exact hj
  rw [getElem?_eq_getElem this];rfl
 rw [getElem?_eq_none (by rw [Q5q];omega),getElem?_eq_none (by rw [h.1];omega)]
theorem Qio (st:List Int)(p:List UInt8)(k h j:Nat)(y:j<8)(x:Int)(D:x=xorI (st[j]?.getD 0) (rdN p j (min 8 (h - 8*j))))(z:∀ i,i<8->i≠j->min 8 (k - 8*i)=min 8 (h - 8*i)) :
  (absK st p k).set j x=absK st p h:=by
 apply List.ext_getElem?;intro i;rw [getElem?_set];by_cases hi:i<8
 ·by_cases hij:j=i
  ·subst hij;rw [if_pos rfl,if_pos (by rw [Q5q];exact y),Q7h st p h j y,D]
  rw [if_neg hij,Q7h st p k i hi,Q7h st p h i hi,z i hi (Ne.symm hij)]
 rw [if_neg (by omega),getElem?_eq_none (by rw [Q5q];omega),getElem?_eq_none (by rw [Q5q];omega)]
theorem Qoi {st:List Int}(h:St st)(p:List UInt8)(k q r:Nat)(z:k<32)(E:q=k / 8)(G:r=k % 8) :
  (absK st p k).set q (bits .xor .u64 ((absK st p k)[q]?.getD 0) (((p[k]?.getD 0).toNat*2 ^ (8*r):Nat):Int))=absK st p (k+1):=by
 refine Qio st p k (k+1) q (by omega) _ ?_ (fun i y D=>by omega);rw [Q7h st p k q (by omega),Option.getD_some,show min 8 (k - 8*q)=r from by omega,show min 8 (k+1 - 8*q)=r+1 from by omega];have:=Qk9 (h.get q (by omega)) p q r (by omega);rw [show 8*q+r=k from by omega] at this;exact this
theorem Qoh {st:List Int}(h:St st)(p:List UInt8)(j:Nat)(z:j<4) :
  (absK st p (8*j)).set j (bits .xor .u64 ((absK st p (8*j))[j]?.getD 0) ((rdN p j 8:Nat):Int))=absK st p (8*(j+1)):=by
 refine Qio st p (8*j) (8*(j+1)) j (by omega) _ ?_ (fun i y D=>by omega);rw [Q7h st p (8*j) j (by omega),Option.getD_some,show min 8 (8*j - 8*j)=0 from by omega,show min 8 (8*(j+1) - 8*j)=8 from by omega,rdN,Qdd (h.get j (by omega))];rfl
def stB (P:List UInt8):Nat->List Int
 | 0=>List.replicate 8 0
 | m+1=>mixL (absK (stB P m) (P.drop (32*m)) 32) 12
theorem Qdn (P:List UInt8)(m:Nat):St (stB P m):=by
 cases m with
 | zero =>
  refine ⟨by simp [stB],fun x h=>?_⟩;simp only [stB,List.mem_replicate] at h;rw [h.2];unfold inU;omega
 | succ m=>exact (Qda _ _ _).mix 12
def outB (st:List Int):List UInt8:=(List.range 32).map fun k=>UInt8.ofNat ((st[k / 8]?.getD 0).toNat / 2 ^ (8*(k % 8)))
theorem Q1r (st:List Int):(outB st).length=32:=by simp [outB]
theorem Qs3 (st:List Int)(k:Nat)(h:k<32):(outB st)[k]?=some (UInt8.ofNat ((st[k / 8]?.getD 0).toNat / 2 ^ (8*(k % 8)))):=by simp [outB,h]
theorem Qph (p q:List UInt8)(j m:Nat)(h:∀ i,i<8*j+m->p[i]?=q[i]?):rdN p j m=rdN q j m:=by
 induction m with
 | zero=>rfl
 | succ m ih=>rw [rdN,rdN,ih (fun i y=>h i (by omega)),h (8*j+m) (by omega)]
theorem Qoj (st:List Int)(p q:List UInt8)(k:Nat)(D:k<=32)(h:∀ i,i<32->p[i]?=q[i]?):absK st p k=absK st q k:=by
 unfold absK;apply List.map_congr_left;intro j y;have:j<8:=by simpa using y
 by_cases hj4:j<4
 ·rw [Qph p q j _ (fun i z=>h i (by omega))]
 rw [show min 8 (k - 8*j)=0 from by omega];rfl
theorem Qke (x m:Nat)(h:x*2 ^ m<18446744073709551616):IntKind.u64.wrap ((x:Int)*(2:Int) ^ m)=((x*2 ^ m:Nat):Int):=by
 rw [show (x:Int)*(2:Int) ^ m=((x*2 ^ m:Nat):Int) from by simp];generalize x*2 ^ m=y at *;rw [IntKind.wrap_u64];omega
theorem Qah (x:UInt8):IntKind.u64.wrap (x.toNat:Int)=(x.toNat:Int):=by
 have:=x.toNat_lt;rw [IntKind.wrap_u64];omega
theorem Qlr (a:Option Addr)(n c:Nat)(p:List UInt8)(J:p.length=n)(V:8<=n)(w:World)(h:Q02 w (.slice a n c) p) :
  Calls Tryz.prog 134 #[.slice a n c] w fun e w'=>e=.returned (.int .u64 ((rdN p 0 8:Nat):Int))/\Below w.heap.size w w':=by
 have D:=Qhd J;clear J;go_enter Tryz.func134,Tryz.ntmps134
 go_wp2
 go_loop [5,3] (fun I x=>∃ i:Nat,i<=8/\I=.int .i64 (i:Int)/\x=.int .u64 ((rdN p 0 i:Nat):Int)) (fun I _=>8 - (intOf I).toNat)
 case atStart=>exact ⟨0,by omega,rfl,rfl⟩
 case round =>
  obtain ⟨i,W,rfl,rfl⟩:=hrel;by_cases hlt:i<8
  ·have Z:(i:Int)<8:=by omega
   obtain ⟨b,off,rfl,O⟩:=h.at i (by rw [D.out];omega);obtain ⟨x,H⟩:=Qe (p[i]'(by rw [D.out];omega));rw [<-H] at O;have K:p[8*0+i]?.getD 0=x:=by rw [show 8*0+i=i from by omega,getElem?_eq_getElem (by rw [D.out];omega),<-H];rfl
   have z:=Qtm p 0 i hlt;have G:=Qd5 x i hlt;rw [K] at z;obtain ⟨s,L⟩:=Qe (8*i);have T:(8:Int)*(i:Int)=(s:Int):=by omega
   have U:IntKind.i64.wrap (s:Int)=(s:Int):=IntWalk.i64_in _ (by omega);rw [<-L] at z G;have S:=Qke x.toNat s G;have a2:=Qah x;obtain ⟨y,M⟩:=Qe (x.toNat*2 ^ s);rw [<-M] at z S;obtain ⟨R,E⟩:=Qe (rdN p 0 (i+1));rw [<-E] at z;have a0:(i:Int)<(n:Int):=by omega
   have a1:i<n:=by omega
   have a3:=Qf6 x;have N:=Qhd E;generalize rdN p 0 i=r at *;clear K H L M G E
   go_wp2
   go_round
   case rel=>exact ⟨i+1,by omega,by go_num,by rw [<-N.out]⟩
   case measure=>simp [intOf];omega
  obtain rfl:i=8:=by omega
  go_wp2
  go_ret;exact ⟨rfl,Below.refl _ _⟩
theorem Qgq (y:Nat):IntKind.u8.wrap (y:Int)=((UInt8.ofNat y).toNat:Int):=by
 rw [IntKind.wrap_u8',UInt8.toNat_ofNat'];omega
theorem Qiv (g o n:Nat)(x:Nat)(T:List Value)(e:TypeId)(hx:x<18446744073709551616)(h8:8<=n)(J:∀ i,i<8->T[o+i]?=some (u8v (UInt8.ofNat (x / 2 ^ (8*i)))))(M:o+8<=T.length)(w:World)(h:Blk e w g (Q34 T (.int .u8 0) o)) :
  Calls Tryz.prog 108 #[.slice (some ⟨g,o,none⟩) n n,.int .u64 (x:Int)] w fun V w'=>V=.returned (.tuple #[])/\Blk e w' g (Q34 T (.int .u8 0) (o+8))/\w.grownBy w' (some g):=by
 have U:=Qhd J;have I:=Qhd M;clear J M;have K:=World.grownBy.refl w (some g);go_enter Tryz.func108,Tryz.ntmps108
 go_wp2
 go_loopw [5] (fun H wr=>∃ i:Nat,i<=8/\H=.int .i64 (i:Int)/\Blk e wr g (Q34 T (.int .u8 0) (o+i))/\w.grownBy wr (some g)) (fun H _=>8 - (intOf H).toNat)
 case atStart=>exact ⟨0,by omega,rfl,h,K⟩
 case round =>
  clear h K;obtain ⟨i,hi,rfl,h,D⟩:=hrel;by_cases hlt:i<8
  ·have a7:(i:Int)<8:=by omega
   obtain ⟨s,N⟩:=Qe (8*i);have es:(8:Int)*(i:Int)=(s:Int):=by omega
   have ew:IntKind.i64.wrap (s:Int)=(s:Int):=IntWalk.i64_in _ (by omega);have E:=U.out i hlt;rw [<-N] at E;obtain ⟨y,G⟩:=Qe (x / 2 ^ s);have ey:(x:Int) / 2 ^ s=(y:Int):=by rw [G];simp
   rw [<-G] at E;have a0:=Qgq y;obtain ⟨z,S⟩:=Qe (UInt8.ofNat y);rw [<-S] at E a0;obtain ⟨y1,aa⟩:=h.has (o+i) (by rw [Q5j _ _ _ (by have:=I.out;omega)];have:=I.out;omega);have hf:=h.free (o+i);have O:=h.set (o+i) (u8v z);rw [Q56 T _ (o+i) _ E] at O;have W:w.grownBy (wr.setCell ⟨g,o+i,none⟩ (u8v z)) (some g):=⟨D.os,D.tape,D.output,by simpa using D.size,fun k Z L=>by rw [<-D.block k Z L];exact heap_setCell_other wr _ k _ (by simpa using L)⟩;have a8:(i:Int)<(n:Int):=by omega
   have a9:i<n:=by omega
   clear E G S N h D
   go_wp2
   go_roundw
   case rel=>exact ⟨i+1,by omega,by go_num,O,W⟩
   case measure=>simp [intOf];omega
  obtain rfl:i=8:=by omega
  go_wp2
  go_end0
  exact ⟨rfl,h,D⟩
def sumB (l:List UInt8):List UInt8:=outB (stB (padL l) ((padL l).length / 32))
theorem Q84 (l:List UInt8):(padL l).length=l.length+2+padZ l.length:=by simp [padL];omega
theorem Qhp (l:List UInt8):(padL l).length % 32=0:=by rw [Q84];unfold padZ;omega
theorem Q08.inBlk {e:TypeId}{w:World}{B n c:Nat}{a:Option Addr}{l:List UInt8}(h:Q08 b8 1 e w B (.slice a n c) l)(O:0<n) :
  ∃ g z,a=some ⟨g,0,none⟩/\B<=g/\Blk e w g z/\∀ (k:Nat) (x:UInt8),l[k]?=some x->z[k]?=some (.int .u8 (x.toNat:Int)):=by
 obtain ⟨K,y⟩:=h;rcases y with ⟨y,E⟩|⟨H,cap,z,y,E,I,L,M,N,G⟩
 ·simp only [Value.slice.injEq] at y;omega
 simp only [Value.slice.injEq] at y;obtain ⟨rfl,rfl,rfl⟩:=y;refine ⟨H,z.toList,rfl,E,by unfold Blk;simpa using I,fun k x J=>?_⟩;rw [Q22,mul_one] at G;have D:(l.map u8v)[k]?=some (u8v x):=by rw [getElem?_map,J];rfl
 rw [<-G,List.getElem?_take] at D;split at D
 ·exact D
 cases D
def zh:List Value:=List.replicate 32 (.int .u8 0)
theorem Q0g:Agg Tryz.prog 30 32:=⟨_,Tryz.underlying30,rfl,by kernel_rfl⟩
def ocs (st:List Int):List Value:=(outB st).map u8v
theorem Q4y (st:List Int):(ocs st).length=32:=by simp [ocs,Q1r]
theorem Qmb (st:List Int):∀ u∈ocs st,u.oneCell'=true:=by
 intro u h;obtain ⟨x,_,rfl⟩:=mem_map.1 h;rfl
theorem Qr0 (st:List Int)(k:Nat)(h:k<32):(ocs st)[k]?=some (u8v (UInt8.ofNat ((st[k / 8]?.getD 0).toNat / 2 ^ (8*(k % 8))))):=by
 unfold ocs;rw [getElem?_map,Qs3 st k h];rfl
structure FrP (w:World)(gP:Nat)(cur:List Value)(S:List Int)(u:World):Prop where
 z:Blk 30 u w.heap.size zh
 s:Blk 110 u (w.heap.size+1) (u64s S)
 p:Blk 5 u gP cur
 bel:Below w.heap.size w u
theorem FrP.kept {w u u':World}{E:Nat}{D:List Value}{S:List Int}(h:FrP w E D S u)(y:Below u.heap.size u u'):FrP w E D S u':=⟨h.z.kept y,h.s.kept y,h.p.kept y,h.bel.trans (y.mono h.bel.size)⟩
theorem FrP.set {w u:World}{y:Nat}{D:List Value}{S S':List Int}(h:FrP w y D S u)(G:w.heap.size+2<=y)(k:Nat)(x:Value)(E:(u64s S).set k x=u64s S'):FrP w y D S' (u.setCell ⟨w.heap.size+1,k,none⟩ x) :=
 ⟨h.z.other _ (by simp) _,E▸h.s.set k x,h.p.other _ (by simp;omega) _,h.bel.setCell (by simp) _⟩
theorem FrP.put {w u u':World}{y:Nat}{D:List Value}{S S':List Int}(h:FrP w y D S u)(I:w.heap.size+2<=y)(H:Blk 110 u' (w.heap.size+1) (u64s S'))(G:Below (w.heap.size+1) u u')(E:u.grownBy u' (some (w.heap.size+1))):FrP w y D S' u' :=
 ⟨h.z.grown E (by simp),H,h.p.grown E (by simp;omega),h.bel.trans (G.mono (by omega))⟩
theorem Q81 (a:Option Addr)(n c:Nat)(l:List UInt8)(hn:l.length=n)(w:World)(h:Q02 w (.slice a n c) l)(hl:n+64<=140737488355328) :
  Calls Tryz.prog 41 #[.slice a n c] w fun e w'=>e=.returned (.agg ((sumB l).map u8v).toArray)/\Below w.heap.size w w':=by
 obtain ⟨w1,a4⟩:=Qe ((w.alloc (.cells zh.toArray 30)).alloc (.cells z8.toArray 110));have aZ:Blk 30 w1 w.heap.size zh:=by rw [a4];exact (D01 w 30 zh).alloc _
 have aC:Blk 110 w1 (w.heap.size+1) (u64s (stB (padL l) 0)):=by
  have:=D01 (w.alloc (.cells zh.toArray 30)) 110 z8;have h2:Blk 110 ((w.alloc (.cells zh.toArray 30)).alloc (.cells z8.toArray 110)) (w.heap.size+1) z8:=by simpa using this
  rw [a4];exact h2
 have ak:Below w.heap.size w w1:=by rw [a4];exact (Qba _ _).alloc (by simp) _
 have bx:w1.heap.size=w.heap.size+2:=by rw [a4];simp
 obtain ⟨P,L⟩:=Qe (padL l);obtain ⟨N,V⟩:=Qe (P.length);have bM:N % 32=0:=by rw [V,L];exact Qhp l
 have bN:N<=140737488355400:=by rw [V,L,Q84];unfold padZ;omega
 have bk:0<N:=by rw [V,L,Q84];omega
 have aK:∀ w',Q02 w' (.slice a n c) l->Calls Tryz.prog 82 #[.slice a n c] w' fun e w2=>∃ (E:Nat) (H:List Value) (c2:Nat),e=.returned (.slice (some ⟨E,0,none⟩) N c2)/\w'.heap.size<=E/\Blk 5 w2 E H/\(∀ (k:Nat) (x:UInt8),P[k]?=some x->H[k]?=some (.int .u8 (x.toNat:Int)))/\Below w'.heap.size w' w2:=by
  intro w' h';subst hn;refine (Qp1 a c l w' h' hl).mono ?_;rintro e w2 ⟨v,rfl,h2,h3⟩;obtain ⟨a2,c2,rfl,_⟩:=h2.form' N (by rw [V,L]);obtain ⟨E,H,rfl,q1,q2,q3⟩:=h2.inBlk bk;exact ⟨E,H,c2,rfl,q1,q2,by rw [L];exact q3,h3⟩
 have aP:∀ k,k<N->∃ x,P[k]?=some x:=fun k hk=>⟨_,getElem?_eq_getElem (by rw [<-V];exact hk)⟩;rw [<-L] at aC;have aI:=Qhd a4;have HP:=Qhd L;have HN:=Qhd V;have bd:=Qhd aK;have b7:=Qhd aP;clear a4 L V aK aP;go_enter Tryz.func41,Tryz.ntmps41
 go_wp2_with (go_at_call 82;(have ay:=bd.out w1 (h.below ak));rw [aI.out] at ay;refine ay.mono ?_;rintro e w2 ⟨E,H,c2,rfl,q1,q2,q3,U⟩;rw [<-aI.out] at q1 U;clear ay)
 have F0:FrP w E H (stB P 0) w2:=⟨aZ.kept U,aC.kept U,q2,ak.trans (U.mono ak.size)⟩;have aU:w.heap.size+2<=E:=by omega
 have Q3:=Qhd q3;clear q1 q2 q3 U aZ aC ak bx h
 go_loopw [5] (fun G wr=>∃ m A:Nat,A=32*m/\A<=N/\G=.int .i64 (A:Int)/\FrP w E H (stB P m) wr) (fun G _=>N - (intOf G).toNat)
 case atStart=>exact ⟨0,0,rfl,by omega,rfl,F0⟩
 case round =>
  clear F0;obtain ⟨m,A,hA,bL,rfl,D⟩:=hrel;have HA:=Qhd hA;have Z:=Qdn P m;by_cases hlt:A<N
  ·have bS:(A:Int)<(N:Int):=by omega
   have bK:A+32<=N:=by omega
   obtain ⟨S0,aq⟩:=Qe (stB P m);rw [<-aq] at D Z;have b9:=Qhd aq;rw [<-Qex Z (P.drop A)] at D;clear hA aq
   go_wp2
   obtain ⟨wo,rfl⟩:∃ wo:World,wo=wr:=⟨_,rfl⟩
   go_loopw [17] (fun G wi=>∃ k:Nat,k<=32/\G=.int .i64 (k:Int)/\FrP w E H (absK S0 (P.drop A) k) wi) (fun G _=>32 - (intOf G).toNat)
   case atStart=>exact ⟨0,by omega,rfl,D⟩
   case round =>
    clear D;obtain ⟨k,hk,rfl,D⟩:=hrel;by_cases hlk:k<32
    ·obtain ⟨q,hq⟩:=Qe (k / 8);obtain ⟨r,hr⟩:=Qe (k % 8);obtain ⟨s,hs⟩:=Qe (8*r);obtain ⟨j,hj⟩:=Qe (A+k);obtain ⟨x,hx⟩:=b7.out j (by omega);have a':=Qoi Z (P.drop A) k q r hlk hq hr;have aR:(P.drop A)[k]?.getD 0=x:=by rw [getElem?_drop,<-hj,hx];rfl
     have aD:=Qd5 x r (by omega);rw [aR,<-hs] at a';rw [<-hs] at aD;have bw:=Qke x.toNat s aD;have bT:=Qah x;have O:=Qda S0 (P.drop A) k;have hcs:=(D.s.cell q).trans (Q8k O q (by omega));have aQ:=(D.p.cell j).trans (Q3.out j x hx);obtain ⟨z,hz⟩:=Qe ((absK S0 (P.drop A) k)[q]?.getD 0);obtain ⟨y,hy⟩:=Qe (x.toNat*2 ^ s);rw [<-hz] at a' hcs;rw [<-hy] at a' bw;have bo:(k:Int)<32:=by omega
     have e1:(k:Int) / 8=(q:Int):=by omega
     have bF:(k:Int).tdiv 8=(q:Int):=by rw [Int.tdiv_eq_ediv_of_nonneg (by omega)];exact e1
     have e2:(k:Int) % 8=(r:Int):=by omega
     have bG:(k:Int).tmod 8=(r:Int):=by rw [Int.tmod_eq_emod_of_nonneg (by omega)];exact e2
     have e3:(r:Int)*8=(s:Int):=by omega
     have e4:(A:Int)+(k:Int)=(j:Int):=by omega
     have bW:IntKind.i64.wrap (q:Int)=(q:Int):=IntWalk.i64_in _ (by omega);have bX:IntKind.i64.wrap (r:Int)=(r:Int):=IntWalk.i64_in _ (by omega);have bY:IntKind.i64.wrap (s:Int)=(s:Int):=IntWalk.i64_in _ (by omega);have bZ:IntKind.i64.wrap (j:Int)=(j:Int):=IntWalk.i64_in _ (by omega);have bs:(q:Int)<8:=by omega
     have bt:q<8:=by omega
     have bP:(j:Int)<(N:Int):=by omega
     have bR:j<N:=by omega
     have bu:(s:Int)<=56:=by omega
     have bU:=Qf6 x;have k0:=fun u:Ext wr=>u.cell hcs;have k1:=fun u:Ext wr=>u.cell aQ;have be:=Qhd a';have H8:=Qhd O.1;clear a' hz hy hs hr hq hj hx aR aD hcs aQ O
     go_wp2
     refine Q03 wr 17 (by kernel_rfl) (by kernel_rfl) (Below.refl _ _) ?_;simp only [take_succ_cons,take_zero,take_nil]
     iterate 17 (refine Q06 (by rfl) (fun K hK=>?_);go_simp;refine hK _ ?_;clear hK K)
     refine Q0i ?_;intro u2 bl;change wpList _ _ _ [_] _ _;have I:=D.kept bl;obtain ⟨y1,bA⟩:=I.s.has q (by simp [u64s,Q5q];omega);have bn:=I.s.free q;have ah:=I.set aU q (.int .u64 (bits .xor .u64 z (y:Int))) (by rw [Q5c,be.out]);clear k0 k1 D I
     go_wp2
     go_roundw
     case rel=>exact ⟨k+1,by omega,by go_num,ah⟩
     case measure=>simp [intOf];omega
    obtain rfl:k=32:=by omega
    have O:=Qda S0 (P.drop A) 32;obtain ⟨S,W⟩:=Qe (absK S0 (P.drop A) 32);rw [<-W] at D O;obtain ⟨M,hM⟩:=Qe (mixL S 12);have bj:St M:=by rw [hM];exact O.mix 12
    have aS:M=stB P (m+1):=by rw [hM,W,b9.out,HA.out];rfl
    have cm:∀ w,Calls Tryz.prog 83 #[.agg (u64s S).toArray] w fun e w'=>e=.returned (.agg (u64s M).toArray)/\Below w.heap.size w w':=fun w=>by rw [hM];exact Qp2 S O w
    have Cm:=Qhd cm;have bc:=Qhd aS;have H8:=Qhd (Q13 O);have b4:=Qhd (Q13 bj);clear W hM cm aS
    go_wp2_with (first
     |(refine Qla 110 3 (w.heap.size+1) Q3w D.s H8.out ?_)
     |(go_at_call 83;(with_reducible refine (Cm.out _).mono ?_);rintro e u2 ⟨rfl,U⟩;have I:=D.kept U)
     |(refine Q0n (by rfl) 110 (.tmp 3) (.tmp 39) (by rfl) (w.heap.size+1) (u64s M) (by rfl) (by rfl) Q3w I.s b4.out H8.out (Q7x _) (Below.refl _ _) (le_refl _) ?_;intro u3 aB aw aT;have ah:=I.put aU aB aw aT))
    rw [bc.out] at ah;have bH:(A:Int)+32=((A+32:Nat):Int):=by omega
    go_roundw
    case rel=>exact ⟨m+1,A+32,by have:=HA.out;omega,by omega,by go_num,ah⟩
    case measure=>simp [intOf];omega
  have hm:m=N / 32:=by omega
  obtain ⟨S,W⟩:=Qe (stB P m);rw [<-W] at D Z;have hT:ocs S=(sumB l).map u8v:=by
   unfold ocs sumB;rw [W,hm,HN.out,HP.out]
  have HT:=Qhd hT;have av:=Q4y S;have au:=fun k hk=>Qr0 S k hk;obtain ⟨T,aj⟩:=Qe (ocs S);rw [<-aj] at hT av;simp only [<-aj] at au;have ba:=Qhd aj;have ae:=Qhd av;have bb:=Qhd au;have hd:¬ ((A:Int)<(N:Int)):=by omega
  have ax:=D01 wr 30 zh;have aN:=D.kept ((Below.refl wr.heap.size wr).alloc (le_refl _) (.cells zh.toArray 30));obtain ⟨J,aA⟩:=Qe (wr.heap.size);have bv:=D.s.lt;have br:=D.p.lt;rw [<-aA] at ax bv br;have aH:=Qhd aA;have H8:=Qhd Z.1;have b0:zh=Q34 T (.int .u8 0) 0:=by rw [Q55,ae.out];rfl
  clear hT aj av au W hm aA D hA
  go_wp2
  rw [show wr.heap.size=J from aH.out.symm];clear aH
  go_loopw [40] (fun G wi=>∃ k:Nat,k<=32/\G=.int .i64 (k:Int)/\Blk 30 wi J (Q34 T (.int .u8 0) k)/\FrP w E H S wi) (fun G _=>32 - (intOf G).toNat)
  case atStart=>exact ⟨0,by omega,rfl,by rw [<-b0];exact ax,aN⟩
  case round =>
   clear ax aN b0;obtain ⟨k,hk,rfl,hb,D⟩:=hrel;by_cases hlk:k<32
   ·obtain ⟨q,hq⟩:=Qe (k / 8);obtain ⟨r,hr⟩:=Qe (k % 8);obtain ⟨s,hs⟩:=Qe (8*r);have a0:=bb.out k hlk;rw [<-hq,<-hr,<-hs] at a0;have hcs:=(D.s.cell q).trans (Q8k Z q (by omega));obtain ⟨z,hz,bV⟩:=Qcn (Z.get q (by omega));rw [hz] at a0 hcs;rw [Int.toNat_natCast] at a0;obtain ⟨y,hy⟩:=Qe (z / 2 ^ s);have ey:(z:Int) / 2 ^ s=(y:Int):=by rw [hy];simp
    rw [<-hy] at a0;have bz:=Qgq y;obtain ⟨v,hv⟩:=Qe (UInt8.ofNat y);rw [<-hv] at a0 bz;have bo:(k:Int)<32:=by omega
    have e1:(k:Int) / 8=(q:Int):=by omega
    have e2:(k:Int) % 8=(r:Int):=by omega
    have e3:(r:Int)*8=(s:Int):=by omega
    have bs:(q:Int)<8:=by omega
    have bt:q<8:=by omega
    have bu:(s:Int)<=56:=by omega
    obtain ⟨y1,bA⟩:=hb.has k (by rw [Q5j _ _ _ (by rw [ae.out];omega),ae.out];exact hlk);have bn:=hb.free k;have aX:=hb.set k (u8v v);rw [Q56 T _ k _ a0] at aX;have I:FrP w E H S (wr.setCell ⟨J,k,none⟩ (u8v v)):=⟨D.z.other _ (by show J≠_;omega) _,D.s.other _ (by show J≠_;omega) _,D.p.other _ (by show J≠_;omega) _,D.bel.setCell (by show w.heap.size<=J;omega) _⟩;clear a0 hz hy hv hs hr hq hb D
    go_wp2
    go_roundw
    case rel=>exact ⟨k+1,by omega,by go_num,aX,I⟩
    case measure=>simp [intOf];omega
   obtain rfl:k=32:=by omega
   have az:=Q6u T (.int .u8 0);rw [ae.out] at az;rw [az,ba.out] at hb;clear az
   go_wp2_with (first
    |(refine Qla 30 7 J Q0g hb (Q4y _) ?_)
    |(refine Q0n (by rfl) 30 (.tmp 2) (.tmp 55) (by rfl) w.heap.size (ocs S) (by rfl) (by rfl) Q0g D.z (Q4y _) (by rfl) (Qmb _) (Below.refl _ _) (le_refl _) ?_;intro u3 aB aw aT;have bm:=D.bel.trans aw))
   exact bodyPost_ret (Q0h rfl _ _ w.heap.size Q0g aB (Q4y _) rfl) rfl ⟨by rw [<-HT.out],bm⟩
def hst (st:List Int)(pt:List UInt8)(n:Nat):List Value:=u64s st++(pt.map u8v++[.int .i64 (n:Int)])
theorem Qco {st:List Int}{h:List UInt8}(z:st.length=8)(y:h.length=32)(n:Nat):(hst st h n).length=41:=by simp [hst,u64s,z,y]
theorem Qi6 {st:List Int}(h:St st)(z:List UInt8)(n j:Nat)(y:j<8):(hst st z n)[j]?=some (.int .u64 (st[j]?.getD 0)):=by
 unfold hst;rw [List.getElem?_append_left (by rw [Q13 h];exact y),Q8k h j y]
theorem Qu1 {st:List Int}(h:St st){y:List UInt8}(z:y.length=32)(n i:Nat)(D:i<32):(hst st y n)[8+i]?=some (u8v (y[i]?.getD 0)):=by
 unfold hst;rw [getElem?_append_right (by rw [Q13 h];omega),Q13 h,show 8+i - 8=i from by omega,List.getElem?_append_left (by simp;omega),getElem?_map,getElem?_eq_getElem (by omega)];rfl
theorem Qg0 {st:List Int}(h:St st){y:List UInt8}(z:y.length=32)(n:Nat):(hst st y n)[40]?=some (.int .i64 (n:Int)):=by
 unfold hst;rw [getElem?_append_right (by rw [Q13 h];omega),Q13 h,getElem?_append_right (by simp;omega)];simp [z]
theorem Q9h {st:List Int}(h:St st){y:List UInt8}(z:y.length=32)(n m:Nat):(hst st y n).set 40 (.int .i64 (m:Int))=hst st y m:=by
 unfold hst;rw [set_append_right _ _ (by rw [Q13 h];omega),Q13 h,set_append_right _ _ (by simp;omega)];simp [z]
theorem Qb1 {st:List Int}(h:St st){y:List UInt8}(z:y.length=32)(n i:Nat)(D:i<32)(x:UInt8):(hst st y n).set (8+i) (u8v x)=hst st (y.set i x) n:=by
 unfold hst;rw [set_append_right _ _ (by rw [Q13 h];omega),Q13 h,show 8+i - 8=i from by omega,List.set_append_left _ _ (by simp;omega),map_set]
theorem Qjs {st:List Int}(h:St st)(y:List UInt8)(n j:Nat)(z:j<8)(x:Int):(hst st y n).set j (.int .u64 x)=hst (st.set j x) y n:=by
 unfold hst;rw [List.set_append_left _ _ (by rw [Q13 h];exact z),Q5c]
theorem Q2k {w u:World}{g:Nat}(h:w.grownBy u (some g))(k:Nat)(x:Value):w.grownBy (u.setCell ⟨g,k,none⟩ x) (some g) :=
 ⟨h.os,h.tape,h.output,by simpa using h.size,fun i z y=>by rw [<-h.block i z y];exact heap_setCell_other u _ i _ (by simpa using y)⟩
theorem Q6r {w u v:World}{g:Nat}(h:w.grownBy u (some g))(y:Below u.heap.size u v):w.grownBy v (some g) :=
 ⟨y.os.trans h.os,y.tape.trans h.tape,y.output.trans h.output,Nat.le_trans h.size y.size,fun i z D=>(y.block i (lt_of_lt_of_le z h.size)).trans (h.block i z D)⟩
theorem Qkv (st:List Int)(y:List UInt8)(n:Nat)(x:UInt8)(h:St st)(z:y.length=32)(hn:n<31)(g:Nat)(w:World)(M:Blk 112 w g (hst st y n)) :
  Calls Tryz.prog 107 #[.pointer (some ⟨g,0,none⟩),.int .u8 (x.toNat:Int)] w fun e w'=>e=.returned (.tuple #[])/\Blk 112 w' g (hst st (y.set n x) (n+1))/\w.grownBy w' (some g):=by
 have O:=(M.cell 40).trans (Qg0 h z n);have k0:=fun u:Ext w=>u.cell O;have a7:(n:Int)<32:=by omega
 have Z:n<32:=by omega
 have a6:(n:Int)+1<32:=by omega
 have J:(y.set n x).length=32:=by simpa using z
 have I:=Qhd z;have D:=Qhd J;clear z J O;go_enter Tryz.func107,Tryz.ntmps107
 go_wp2
 refine Q03 w 9 (by kernel_rfl) (by kernel_rfl) (Below.refl _ _) ?_;simp only [take_succ_cons,take_zero,take_nil]
 iterate 9 (refine Q06 (by rfl) (fun K L=>?_);go_simp;refine L _ ?_;clear L K)
 refine Q0i ?_;intro H T;change wpList _ _ _ [_] _ _;have E:=M.kept T;have U:=Q6r (World.grownBy.refl w (some g)) T;have S:=Qco h.1 I.out n;obtain ⟨y1,a8⟩:=E.has (8+n) (by rw [S];omega);have a3:=E.free (8+n);have G:Blk 112 (H.setCell ⟨g,8+n,none⟩ (.int .u8 (x.toNat:Int))) g (hst st (y.set n x) n):=by
  have:=E.set (8+n) (u8v x);rw [Qb1 h I.out n n Z x] at this;exact this
 have V:=Q2k U (8+n) (.int .u8 (x.toNat:Int));have a1:=(G.cell 40).trans (Qg0 h D.out n);have a4:=G.free 40;have N:Blk 112 ((H.setCell ⟨g,8+n,none⟩ (.int .u8 (x.toNat:Int))).setCell ⟨g,40,none⟩ (.int .i64 ((n:Int)+1))) g (hst st (y.set n x) (n+1)):=by
  have:=G.set 40 (.int .i64 ((n+1:Nat):Int));rw [Q9h h D.out n (n+1)] at this;exact this
 have W:=Q2k V 40 (.int .i64 ((n:Int)+1));have a2:((H.setCell ⟨g,8+n,none⟩ (.int .u8 (x.toNat:Int))).setCell ⟨g,40,none⟩ (.int .i64 ((n:Int)+1))).cell? ⟨g,40,none⟩=some (.int .i64 ((n:Int)+1)):=(N.cell 40).trans (Qg0 h D.out (n+1));clear k0 S
 go_wp2
 exact bodyPost_ret (results_none (by rfl) _ _ _) rfl ⟨rfl,N,W⟩
def Qja (cs:List Value)(o:Nat):List Value->List Value
 | []=>cs
 | v::vs=>Qja (cs.set o v) (o+1) vs
theorem Q8r (b h:List Value)(y:b.length=h.length)(r:List Value):∀ a:List Value,Qja (a++(b++r)) a.length h=a++(h++r):=by
 induction h generalizing b with
 | nil =>
  obtain rfl:b=[]:=List.eq_nil_of_length_eq_zero y;intro a;rfl
 | cons v h ih =>
  intro a
  match b,y with
  | x::b,y =>
   rw [Qja,set_append_right _ _ (le_refl _),sub_self,List.cons_append,List.set_cons_zero];have:=ih b (by simpa using y) (a++[v]);simp only [List.length_append,List.length_cons,List.length_nil,append_assoc,List.cons_append,List.nil_append] at this;exact this
theorem Blk.sets {e:TypeId}{g:Nat}(y:List Value):∀ {w:World} {cs:List Value} (o:Nat),Blk e w g cs->Blk e (w.setCells g o y) g (Qja cs o y):=by
 induction y with
 | nil=>intro w cs o h;exact h
 | cons v y ih=>intro w cs o h;exact ih (o+1) (h.set o v)
theorem Q2r {w:World}{g:Nat}(y:List Value):∀ {u:World} (o:Nat),w.grownBy u (some g)->w.grownBy (u.setCells g o y) (some g):=by
 induction y with
 | nil=>intro u o h;exact h
 | cons v y ih=>intro u o h;exact ih (o+1) (Q2k h o v)
theorem Qq4 {st y:List Int}(h:St st)(D:St y)(z:List UInt8)(n:Nat):Qja (hst st z n) 0 (u64s y)=hst y z n:=by
 have:=Q8r (u64s st) (u64s y) (by rw [Q13 h,Q13 D]) (z.map u8v++[.int .i64 (n:Int)]) [];simpa [hst] using this
theorem Ql5 {t:TypeId}(G:Tryz.prog.underlying t=some (.array (Tryz.prog.arrayLen t) (Tryz.prog.elem t)))(h:Tryz.prog.arrayLen t=32)(y:(Tryz.prog.info? (Tryz.prog.elem t)).map (·.size)=some 1)(g o j:Nat)(H:j<4)(k:IntKind)(w:World) :
  (Instr.sliceAt t (.pointer (some ⟨g,o,none⟩)) (some (.int k (8*(j:Int)))) none none).run Tryz.prog w=.ok (.slice (some ⟨g,o+8*j,none⟩) (32 - 8*j) (32 - 8*j)) w:=by
 rw [run_sliceAt_array_l w t ⟨g,o,none⟩ G k (8*(j:Int)) (by omega) (by rw [h];omega),h];have z:(⟨g,o,none⟩:Addr).add (8*j*1)=⟨g,o+8*j,none⟩:=by unfold Addr.add;split<;>simp_all
 have e:(8*(j:Int)).toNat=8*j:=by omega
 cases hq:Tryz.prog.info? (Tryz.prog.elem t) with
 | none=>simp [hq] at y
 | some q =>
  have D:q.size=1:=by simpa [hq] using y
  have E:(sizeOf (Tryz.prog.elem t)).run Tryz.prog w=.ok 1 w:=by simp [sizeOf,typeInfo,hq,D]
  rw [E];simp only [Result.andThen_ok,slicedAt];rw [e,if_neg (by omega),z]
theorem Qpi (p:List UInt8)(j m:Nat):rdN (p.drop (8*j)) 0 m=rdN p j m:=by
 induction m with
 | zero=>rfl
 | succ m ih=>rw [rdN,rdN,ih,getElem?_drop,show 8*j+(8*0+m)=8*j+m from by omega]
theorem Blk.partRow {α:Type}{f:α->List Value}{c1:α->Value}(hf:One f c1){e:TypeId}{w:World}{g:Nat}{cs:List Value}(h:Blk e w g cs)(o n c:Nat)(l:List α)(hl:l.length=n)(hcs:∀ (j:Nat) (u:Value),(l.map c1)[j]?=some u->cs[o+j]?=some u)(hc:n<=c)(hm:c<=maxLen) :
  Q05 f 1 w (.slice (some ⟨g,o,none⟩) n c) l:=by
 subst hl;refine ⟨by rw [hf.map,length_map,mul_one],_,_,rfl,hc,hm,.inr ⟨g,o,none,rfl,.inl rfl,fun j u y=>?_⟩⟩;rw [hf.map] at y;rw [h.cell];exact hcs j u y
theorem Qsj {st:List Int}(h:St st){z:List UInt8}(D:z.length=32)(n j:Nat)(H:j<4){w:World}{g:Nat}(E:Blk 112 w g (hst st z n)) :
  Q02 w (.slice (some ⟨g,8+8*j,none⟩) (32 - 8*j) (32 - 8*j)) (z.drop (8*j)):=by
 refine Blk.partRow (c1:=u8v) (fun _=>rfl) E (8+8*j) (32 - 8*j) (32 - 8*j) _ (by simp [D]) (fun i u y=>?_) (le_refl _) (by unfold maxLen;omega);rw [getElem?_map,getElem?_drop] at y;have G:8*j+i<32:=by
  by_cases hlt:8*j+i<32
  ·exact hlt
  rw [getElem?_eq_none (by omega)] at y;cases y
 rw [show 8+8*j+i=8+(8*j+i) from by omega,Qu1 h D n (8*j+i) G,<-y,getElem?_eq_getElem (by omega)];rfl
theorem Qkw (st:List Int)(H:List UInt8)(x:UInt8)(J:St st)(T:H.length=32)(g:Nat)(w:World)(G:Blk 112 w g (hst st H 31)) :
  Calls Tryz.prog 107 #[.pointer (some ⟨g,0,none⟩),.int .u8 (x.toNat:Int)] w fun e w'=>e=.returned (.tuple #[])/\Blk 112 w' g (hst (mixL (absK st (H.set 31 x) 32) 12) (H.set 31 x) 0)/\w.grownBy w' (some g):=by
 have af:=(G.cell 40).trans (Qg0 J T 31);have k0:∀ u:Ext w,u.val.cell? ⟨g,40,none⟩=some (.int .i64 31):=fun u=>u.cell af;have ad:(H.set 31 x).length=32:=by simpa using T
 have aa:=Qhd T;have L:=Qhd ad;clear T ad af;go_enter Tryz.func107,Tryz.ntmps107
 go_wp2
 refine Q03 w 9 (by kernel_rfl) (by kernel_rfl) (Below.refl _ _) ?_;simp only [take_succ_cons,take_zero,take_nil]
 iterate 9 (refine Q06 (by rfl) (fun K D=>?_);go_simp;refine D _ ?_;clear D K)
 refine Q0i ?_;intro O aq;change wpList _ _ _ [_] _ _;have V:=G.kept aq;have ah:=Q6r (World.grownBy.refl w (some g)) aq;have ak:=Qco J.1 aa.out 31;obtain ⟨y1,aM⟩:=V.has 39 (by rw [ak];omega);have aD:=V.free 39;have I:Blk 112 (O.setCell ⟨g,39,none⟩ (.int .u8 (x.toNat:Int))) g (hst st (H.set 31 x) 31):=by
  have:=V.set (8+31) (u8v x);rw [Qb1 J aa.out 31 31 (by omega) x] at this;exact this
 have Z:=Q2k ah 39 (.int .u8 (x.toNat:Int));have aB:(O.setCell ⟨g,39,none⟩ (.int .u8 (x.toNat:Int))).cell? ⟨g,40,none⟩=some (.int .i64 31):=(I.cell 40).trans (Qg0 J L.out 31);have aE:=I.free 40;obtain ⟨u2,aL⟩:=Qe (O.setCell ⟨g,39,none⟩ (.int .u8 (x.toNat:Int)));have N:Blk 112 ((O.setCell ⟨g,39,none⟩ (.int .u8 (x.toNat:Int))).setCell ⟨g,40,none⟩ (.int .i64 32)) g (hst st (H.set 31 x) 32):=by
  have:=I.set 40 (.int .i64 ((32:Nat):Int));rw [Q9h J L.out 31 32] at this;exact this
 have a0:=Q2k Z 40 (.int .i64 32);have aC:((O.setCell ⟨g,39,none⟩ (.int .u8 (x.toNat:Int))).setCell ⟨g,40,none⟩ (.int .i64 32)).cell? ⟨g,40,none⟩=some (.int .i64 32):=(N.cell 40).trans (Qg0 J L.out 32);have aF:=N.free 40;have a7:Blk 112 (((O.setCell ⟨g,39,none⟩ (.int .u8 (x.toNat:Int))).setCell ⟨g,40,none⟩ (.int .i64 32)).setCell ⟨g,40,none⟩ (.int .i64 0)) g (hst (absK st (H.set 31 x) 0) (H.set 31 x) 0):=by
  have:=N.set 40 (.int .i64 ((0:Nat):Int));rw [Q9h J L.out 32 0,<-Qex J (H.set 31 x)] at this;exact this
 have ai:=Q2k a0 40 (.int .i64 0);clear k0 ak aL u2
 go_wp2
 obtain ⟨z,a8⟩:=Qe (H.set 31 x);rw [<-a8] at a7 L;have aw:=Qhd a8;clear a8
 go_loopw [29] (fun ix wr=>∃ j:Nat,j<=4/\ix=.int .i64 (j:Int)/\Blk 112 wr g (hst (absK st z (8*j)) z 0)/\w.grownBy wr (some g)) (fun ix _=>4 - (intOf ix).toNat)
 case atStart=>exact ⟨0,by omega,rfl,a7,ai⟩
 case round =>
  clear G V I N a7 ah Z a0 ai aB aC aD aE aF aM;obtain ⟨j,hj,rfl,G,aj⟩:=hrel;have E:=Qda st z (8*j);by_cases hlt:j<4
  ·have am:=Qsj E L.out 0 j hlt G;have ag:=(G.cell j).trans (Qi6 E z 0 j (by omega));have k0:=fun u:Ext wr=>u.cell ag;have a3:=Qoh J z j hlt;have a2:=fun w h=>Qlr (some ⟨g,8+8*j,none⟩) (32 - 8*j) (32 - 8*j) (z.drop (8*j)) (by simp [L.out]) (by omega) w h;rw [Qpi] at a2;obtain ⟨y,hy⟩:=(⟨_,rfl⟩:∃ y,y=(absK st z (8*j))[j]?.getD 0);obtain ⟨r,hr⟩:=Qe (rdN z j 8);rw [<-hr] at a2 a3;rw [<-hy] at a3;simp only [<-hy] at k0;have ax:=Qhd a2;have ay:=Qhd am;have aA:=Qhd a3;have aR:(j:Int)<4:=by omega
   have aQ:(j:Int)<8:=by omega
   have aS:(8*(j:Int)).toNat=8*j:=by omega
   have e1:IntKind.i64.wrap (8*(j:Int))=8*(j:Int):=IntWalk.i64_in _ (by omega);have aK:=fun k w=>Ql5 (t:=29) (by kernel_rfl) (by kernel_rfl) (by kernel_rfl) g 8 j hlt k w;clear a2 am a3 hy hr ag
   go_wp2
   refine Q03 wr 17 (by kernel_rfl) (by kernel_rfl) (Below.refl _ _) ?_;simp only [take_succ_cons,take_zero,take_nil]
   iterate 12 (refine Q06 (by rfl) (fun K D=>?_);go_simp;refine D _ ?_;clear D K)
   (refine Q06 (by rfl) (fun K D=>?_);go_simp;first|(refine D _ ?_;clear D K)|(apply Exists.intro;refine ⟨fun _=>?_,D _ ?_⟩;exact ax.out _ (Ext.row _ ay.out);clear D K))
   iterate 4 (refine Q06 (by rfl) (fun K D=>?_);go_simp;refine D _ ?_;clear D K)
   refine Q0i ?_;intro u2 I;change wpList _ _ _ [_] _ _;have W:=G.kept I;obtain ⟨yj,aT⟩:=W.has j (by rw [Qco E.1 L.out];omega);have aO:=W.free j;have ae:=W.set j (.int .u64 (bits .xor .u64 y (r:Int)));rw [Qjs E z 0 j (by omega),aA.out] at ae;have aH:=Q2k (Q6r aj I) j (.int .u64 (bits .xor .u64 y (r:Int)));clear k0 G W aK
   go_wp2
   go_roundw
   case rel=>exact ⟨j+1,by omega,by go_num,ae,aH⟩
   case measure=>simp [intOf];omega
  obtain rfl:j=4:=by omega
  obtain ⟨S,hS⟩:=Qe (absK st z (8*4));rw [<-hS] at G E;have HS:=Qhd hS;obtain ⟨M,U⟩:=Qe (mixL S 12);have a5:St M:=by rw [U];exact E.mix 12
  have HM:=Qhd U;have aJ:wr.rangeAt g 0 (u64s S):=fun i v hv=>by
   have hi:i<8:=by
    have:=(List.getElem?_eq_some_iff.1 hv).1
    rwa [Q13 E] at this
   rw [zero_add,G.cell,Qi6 E z 0 i hi,<-hv,Q8k E i hi]
  have cm:∀ w,Calls Tryz.prog 135 #[.agg (u64s S).toArray] w fun e w'=>e=.returned (.agg (u64s M).toArray)/\Below w.heap.size w w':=fun w=>by rw [U];exact Qsd S E w
  have Cm:=Qhd cm;have an:∀ u:World,Blk 112 u g (hst S z 0)->u.there g 0 (u64s M).toArray.size:=fun u hu i hi=>by
   have aI:i<8:=by simpa [Q13 a5] using hi
   refine ⟨?_,hu.free (0+i)⟩;rw [zero_add,hu.cell,Qi6 E z 0 i aI];rfl
  have az:=Qhd an;clear hS U cm an
  go_wp2_with (first
   |(refine wpList_load_mid (op:=⟨some 54,_,_,_,_,_⟩) (by rfl) 110 (.tmp 53) (by rfl) g 0 (by rfl) (u64s S) _ aJ Tryz.underlying110 (by rfl) (by rw [Q13 E];kernel_rfl) ?_)
   |(go_at_call 135;(with_reducible refine (Cm.out _).mono ?_);rintro e u2 ⟨rfl,b2⟩;have I:=G.kept b2;have Z:=Q6r aj b2)
   |(refine wpList_store_mid (by rfl) 110 (.tmp 57) (.tmp 55) (by rfl) g 0 (u64s M).toArray (by rfl) (by rfl) (az.out u2 I) (by rw [List.size_toArray,Q13 a5];kernel_rfl) (all_oneCell_toArray (Q7x M)) ?_))
  go_end0
  have N:=I.sets (u64s M) 0;rw [Qq4 E a5 z 0] at N;have aG:M=mixL (absK st z 32) 12:=by rw [HM.out,HS.out]
  have a0:=Q2r (u64s M) 0 Z;exact ⟨rfl,by rw [<-aw.out,<-aG];exact N,a0⟩
def Q2z (P:List UInt8)(t g:Nat)(w:World):Prop:=∃ pt:List UInt8,pt.length=32/\(∀ i,i<t % 32->pt[i]?=P[32*(t / 32)+i]?)/\Blk 112 w g (hst (stB P (t / 32)) pt (t % 32))
theorem Q2z.n {P:List UInt8}{t g:Nat}{w:World}(h:Q2z P t g w):w.cell? ⟨g,40,none⟩=some (.int .i64 ((t % 32:Nat):Int)):=by
 obtain ⟨E,y,D,z⟩:=h;exact (z.cell 40).trans (Qg0 (Qdn P _) y _)
theorem Q7z (P:List UInt8)(t:Nat)(x:UInt8)(g:Nat)(w:World)(K:P[t]?=some x)(h:Q2z P t g w) :
  Calls Tryz.prog 107 #[.pointer (some ⟨g,0,none⟩),.int .u8 (x.toNat:Int)] w fun e w'=>e=.returned (.tuple #[])/\Q2z P (t+1) g w'/\w.grownBy w' (some g):=by
 obtain ⟨y,z,I,E⟩:=h;have J:=Qdn P (t / 32);by_cases hn:t % 32<31
 ·refine (Qkv _ y (t % 32) x J z hn g w E).mono ?_;rintro e w' ⟨rfl,D,G⟩;refine ⟨rfl,⟨y.set (t % 32) x,by simpa using z,fun i H=>?_,?_⟩,G⟩
  ·rw [show (t+1) / 32=t / 32 from by omega];rw [show (t+1) % 32=t % 32+1 from by omega] at H;rw [getElem?_set];by_cases hit:t % 32=i
   ·rw [if_pos hit,if_pos (by omega),<-hit,show 32*(t / 32)+t % 32=t from by omega,K]
   rw [if_neg hit];exact I i (by omega)
  rw [show (t+1) / 32=t / 32 from by omega,show (t+1) % 32=t % 32+1 from by omega];exact D
 have M:t % 32=31:=by omega
 rw [M] at E I;refine (Qkw _ y x J z g w E).mono ?_;rintro e w' ⟨rfl,D,G⟩;refine ⟨rfl,⟨y.set 31 x,by simpa using z,fun i H=>by omega,?_⟩,G⟩;rw [show (t+1) / 32=t / 32+1 from by omega,show (t+1) % 32=0 from by omega];have L:absK (stB P (t / 32)) (y.set 31 x) 32=absK (stB P (t / 32)) (P.drop (32*(t / 32))) 32:=Qoj _ _ _ 32 (le_refl _) (fun i H=>by
  rw [getElem?_set,getElem?_drop];by_cases hi31:31=i
  ·rw [if_pos hi31,if_pos (by omega),<-hi31,show 32*(t / 32)+31=t from by omega,K]
  rw [if_neg hi31];exact I i (by omega))
 rw [L] at D;exact D
theorem Qkc (P l:List UInt8)(a:Option Addr)(n c g:Nat)(z w:World)(H:l.length=n)(L:∀ i,i<n->P[i]?=l[i]?)(S:Q02 z (.slice a n c) l)(hg:z.heap.size<=g)(M:Below z.heap.size z w)(h:Q2z P 0 g w)(a6:g<w.heap.size) :
  Calls Tryz.prog 77 #[.pointer (some ⟨g,0,none⟩),.slice a n c] w fun e w'=>e=.returned (.tuple #[])/\Q2z P n g w'/\w.grownBy w' (some g):=by
 have W:=Qhd L;have G:=Qhd H;have O:=World.grownBy.refl w (some g);have a1:=M.size;have U:=S.small;unfold maxLen at U;rw [H] at U;clear L H;go_enter Tryz.func77,Tryz.ntmps77
 go_wp2
 go_loopw [8] (fun J wr=>∃ i:Nat,i<=n/\J=.int .i64 (i:Int)/\Q2z P i g wr/\w.grownBy wr (some g)) (fun J _=>n - (intOf J).toNat)
 case atStart=>exact ⟨0,by omega,rfl,h,O⟩
 case round =>
  clear h O;obtain ⟨i,hi,rfl,K,y⟩:=hrel;by_cases hlt:i<n
  ·have a8:(i:Int)<(n:Int):=by omega
   have N:Below z.heap.size z wr:=M.grown y a1 (fun k E=>by cases E;exact hg);obtain ⟨b,off,rfl,hc⟩:=Q02.at (S.below N) i (by rw [G.out];exact hlt);have I:P[i]?=some (l[i]'(by rw [G.out];exact hlt)):=(W.out i hlt).trans (getElem?_eq_getElem _);obtain ⟨x,V⟩:=Qe (l[i]'(by rw [G.out];exact hlt));rw [<-V] at I hc;have Z:=Qhd I;clear I V N
   go_wp2_with (go_at_call 107;(with_reducible refine (Q7z P i x g _ Z.out K).mono ?_);rintro e w2 ⟨rfl,a0,D⟩)
   have a4:w.grownBy w2 (some g):=⟨D.os.trans y.os,D.tape.trans y.tape,D.output.trans y.output,Nat.le_trans y.size D.size,fun k E T=>(D.block k (lt_of_lt_of_le E y.size) T).trans (y.block k E T)⟩
   go_roundw
   case rel=>exact ⟨i+1,by omega,by go_num,a0,a4⟩
   case measure=>simp [intOf];omega
  obtain rfl:i=n:=by omega
  go_wp2
  go_end0
  exact ⟨rfl,K,y⟩
def Qsg (g:Nat)(w:World):Nat:=match w.cell? ⟨g,40,none⟩ with
 | some (.int _ k)=>(31 - k).toNat
 | _=>0
theorem Qi2 {P:List UInt8}{t g:Nat}{w:World}(h:Q2z P t g w):Qsg g w=31 - t % 32:=by
 unfold Qsg;rw [h.n];simp only;omega
theorem Qpn (l:List UInt8):(padL l)[l.length]?=some 1:=by
 unfold padL;rw [append_assoc,append_assoc,getElem?_append_right (le_refl _),sub_self];rfl
theorem Qm5 (l:List UInt8)(t:Nat)(h:l.length+1<=t)(y:t<l.length+1+padZ l.length):(padL l)[t]?=some 0:=by
 unfold padL;rw [append_assoc,getElem?_append_right (by simp;omega),List.getElem?_append_left (by simp;omega),List.getElem?_replicate,if_pos (by simp;omega)]
theorem Qm6 (l:List UInt8):(padL l)[l.length+1+padZ l.length]?=some 128:=by
 unfold padL;rw [getElem?_append_right (by simp;omega)];have e:l.length+1+padZ l.length - (l++[1]++List.replicate (padZ l.length) 0).length=0:=by simp;omega
 rw [e];rfl
theorem Qm7 (l:List UInt8)(i:Nat)(h:i<l.length):(padL l)[i]?=l[i]?:=by
 unfold padL;rw [append_assoc,append_assoc,List.getElem?_append_left h]
def scs (l:List UInt8):List Value:=(sumB l).map u8v
theorem Qlf (l:List UInt8):(scs l).length=32:=by unfold scs sumB;rw [length_map,Q1r]
theorem Qrq (l:List UInt8):∀ u∈scs l,u.oneCell'=true:=by
 intro u h;obtain ⟨x,_,rfl⟩:=mem_map.1 h;rfl
theorem Qof:Agg Tryz.prog 112 41:=⟨_,Tryz.underlying112,rfl,by kernel_rfl⟩
theorem Qp3 (g j:Nat)(h:j<4)(k:IntKind)(w:World) :
  (Instr.sliceAt 30 (.pointer (some ⟨g,0,none⟩)) (some (.int k (8*(j:Int)))) none none).run Tryz.prog w=.ok (.slice (some ⟨g,8*j,none⟩) (32 - 8*j) (32 - 8*j)) w:=by
 have:=Ql5 (t:=30) (by kernel_rfl) (by kernel_rfl) (by kernel_rfl) g 0 j h k w
 rwa [zero_add] at this
theorem Qq3 (l V:List UInt8)(a0:V.length=32)(aM:∀ i,i<l.length % 32->V[i]?=(padL l)[32*(l.length / 32)+i]?)(w:World) :
  Calls Tryz.prog 78 #[.agg (hst (stB (padL l) (l.length / 32)) V (l.length % 32)).toArray] w fun e w'=>e=.returned (.agg ((sumB l).map u8v).toArray)/\Below w.heap.size w w':=by
 obtain ⟨H,hH⟩:=Qe (hst (stB (padL l) (l.length / 32)) V (l.length % 32));obtain ⟨w1,a4⟩:=Qe ((w.alloc (.cells H.toArray 112)).alloc (.cells zh.toArray 30));have ag:Q2z (padL l) l.length w.heap.size w1:=⟨V,a0,aM,by rw [a4,<-hH];exact (D01 w 112 H).alloc _⟩;have aO:Blk 30 w1 (w.heap.size+1) zh:=by
  have:=D01 (w.alloc (.cells H.toArray 112)) 30 zh;have h2:Blk 30 ((w.alloc (.cells H.toArray 112)).alloc (.cells zh.toArray 30)) (w.heap.size+1) zh:=by simpa using this
  rw [a4];exact h2
 have aH:Below w.heap.size w w1:=by rw [a4];exact (Qba _ _).alloc (by simp) _
 obtain ⟨P,hP⟩:=Qe (padL l);obtain ⟨n,hn⟩:=Qe (l.length);obtain ⟨E,aa⟩:=Qe (padZ l.length);have p1:=Qpn l;have p2:=Qm5 l;have p3:=Qm6 l;have pm:=Qhp l;have pl:=Q84 l;have aQ:(n+1+E) % 32=31:=by rw [aa,<-hn];unfold padZ;omega
 have aS:∀ t,n+1<=t->t<n+1+E->t % 32<31:=by
  intro t q1 q2;rw [aa,<-hn] at q2;unfold padZ at q2;omega
 rw [<-hP,<-hn] at ag p1;rw [<-hP,<-aa,<-hn] at p2 p3 pl;rw [<-hP] at pm;have g0:∀ (u u':World),Below w.heap.size w u->Blk 30 u (w.heap.size+1) zh->u.grownBy u' (some w.heap.size)->Below w.heap.size w u'/\Blk 30 u' (w.heap.size+1) zh :=
  fun u u' b z g=>⟨b.grown g b.size (fun k G=>by cases G;exact le_refl _),z.grown g (by simp)⟩
 have c1:∀ w',Q2z P n w.heap.size w'->Calls Tryz.prog 107 #[.pointer (some ⟨w.heap.size,0,none⟩),.int .u8 1] w' fun e D=>e=.returned (.tuple #[])/\Q2z P (n+1) w.heap.size D/\w'.grownBy D (some w.heap.size):=fun w' h=>Q7z P n 1 _ w' p1 h;have c2:∀ t w',n+1<=t->t<n+1+E->Q2z P t w.heap.size w'->Calls Tryz.prog 107 #[.pointer (some ⟨w.heap.size,0,none⟩),.int .u8 0] w' fun e D=>e=.returned (.tuple #[])/\Q2z P (t+1) w.heap.size D/\w'.grownBy D (some w.heap.size):=fun t w' q1 q2 h=>Q7z P t 0 _ w' (p2 t q1 q2) h;have c3:∀ w',Q2z P (n+1+E) w.heap.size w'->Calls Tryz.prog 107 #[.pointer (some ⟨w.heap.size,0,none⟩),.int .u8 128] w' fun e D=>e=.returned (.tuple #[])/\Q2z P (n+1+E+1) w.heap.size D/\w'.grownBy D (some w.heap.size):=fun w' h=>Q7z P _ 128 _ w' p3 h;have hS:stB P ((n+1+E+1) / 32)=stB P (P.length / 32):=by rw [pl];congr 2;omega
 have O:ocs (stB P (P.length / 32))=(sumB l).map u8v:=by unfold ocs sumB;rw [hP]
 have aD:(n+1+E+1) % 32=0:=by omega
 have ax:=Qhd a4;have C1:=Qhd c1;have C2:=Qhd c2;have C3:=Qhd c3;have G0:=Qhd g0;have HS:=Qhd hS;have HT:=Qhd O;have HH:=Qhd hH;have b':=Qhd aS;have b9:=Qhd aQ;have b1:=Qhd aD;rw [show hst (stB (padL l) (l.length / 32)) V (l.length % 32)=H from hH.symm];clear a4 c1 c2 c3 g0 hS O hH aS aQ aD p1 p2 p3 pm pl hP hn aa a0 aM;go_enter Tryz.func78,Tryz.ntmps78
 go_wp2_with (go_at_call 107;(have ai:=C1.out w1 ag);rw [ax.out] at ai;refine ai.mono ?_;rintro e D ⟨rfl,I,ak⟩;rw [<-ax.out] at ak;clear ai)
 obtain ⟨aI,aP⟩:=G0.out w1 D aH aO ak;clear ag aO aH ak
 go_loopw [] (fun wr=>∃ t:Nat,n+1<=t/\t<=n+1+E/\Q2z P t w.heap.size wr/\Blk 30 wr (w.heap.size+1) zh/\Below w.heap.size w wr) (fun wr=>Qsg w.heap.size wr)
 case atStart=>exact ⟨n+1,le_refl _,by omega,I,aP,aI⟩
 case round =>
  clear I aP aI;obtain ⟨t,aN,bC,y,N,L⟩:=hrel;have J:=y.n;by_cases hlt:t<n+1+E
  ·have hq:=b'.out t aN hlt;obtain ⟨q,an⟩:=Qe (t % 32);rw [<-an] at J hq;have hd:((q:Int) != 31)=true:=by rw [bne_iff_ne];omega
   have b7:=Qhd an;clear an
   go_wp2_with (go_at_call 107;(with_reducible refine (C2.out t _ aN hlt y).mono ?_);rintro e W ⟨rfl,U,a2⟩;obtain ⟨M,a5⟩:=G0.out _ W L N a2)
   have m1:=Qi2 y;have m2:=Qi2 U
   go_roundw
   case rel=>exact ⟨t+1,by omega,by omega,U,a5,M⟩
   case measure=>rw [m1,m2];have:=b7.out;omega
  obtain rfl:t=n+1+E:=by omega
  rw [b9.out] at J;have be:wr.cell? ⟨w.heap.size,40,none⟩=some (.int .i64 31):=J;clear J
  go_wp2_with (go_at_call 107;(with_reducible refine (C3.out _ y).mono ?_);rintro e W ⟨rfl,U,a2⟩;obtain ⟨M,a5⟩:=G0.out _ W L N a2)
  obtain ⟨aV,a0,_,a'⟩:=U;rw [HS.out,b1.out] at a';have ae:=Qdn P (P.length / 32);obtain ⟨S,aF⟩:=Qe (stB P (P.length / 32));have O:=HT.out;rw [<-aF] at a' ae O;have a9:=Q4y S;have af:=fun k G=>Qr0 S k G;obtain ⟨T,a8⟩:=Qe (ocs S);rw [<-a8] at a9;simp only [<-a8] at af;have ah:=D01 W 30 zh;have aL:=a'.alloc (.cells zh.toArray 30);have aR:=a5.alloc (.cells zh.toArray 30);have aJ:=M.alloc M.size (.cells zh.toArray 30);have bh:=a5.lt;obtain ⟨Z,al⟩:=Qe (W.heap.size);rw [<-al] at ah bh;have aT:zh=Q34 T (.int .u8 0) 0:=by rw [Q55,a9];rfl
  have b4:=Qhd O;have b5:=Qhd a8;have aw:=Qhd a9;have b6:=Qhd af;have bs:=Qhd a0;rw [show W.heap.size=Z from al.symm];clear O a8 a9 af a0 al a' a5 M a2 y N L be aF
  go_loopw [11] (fun ix wi=>∃ j:Nat,j<=4/\ix=.int .i64 (j:Int)/\Blk 30 wi Z (Q34 T (.int .u8 0) (8*j))/\Blk 112 wi w.heap.size (hst S aV 0)/\Blk 30 wi (w.heap.size+1) zh/\Below w.heap.size w wi) (fun ix _=>4 - (intOf ix).toNat)
  case atStart=>exact ⟨0,by omega,rfl,by rw [<-aT];exact ah,aL,aR,aJ⟩
  case round =>
   clear ah aL aR aJ aT;obtain ⟨j,hj,rfl,y,G,N,L⟩:=hrel;by_cases hlt:j<4
   ·have J:=(G.cell j).trans (Qi6 ae aV 0 j (by omega));obtain ⟨x,hx,bm⟩:=Qcn (ae.get j (by omega));rw [hx] at J;have k0:=fun u:Ext wr=>u.cell J;have bk:=fun k w=>Qp3 Z j hlt k w;have aG:∀ i,i<8->T[8*j+i]?=some (u8v (UInt8.ofNat (x / 2 ^ (8*i)))):=by
     intro i hi;rw [b6.out (8*j+i) (by omega),show (8*j+i) / 8=j from by omega,show (8*j+i) % 8=i from by omega,hx,Int.toNat_natCast]
    have cw:=fun u hu=>Qiv Z (8*j) (32 - 8*j) x T 30 bm (by omega) aG (by rw [aw.out];omega) u hu;have Cw:=Qhd cw;have bB:(j:Int)<4:=by omega
    have bz:(j:Int)<8:=by omega
    have bA:j<8:=by omega
    have e1:IntKind.i64.wrap (8*(j:Int))=8*(j:Int):=IntWalk.i64_in _ (by omega);clear aG cw hx J
    go_wp2
    refine Q03 wr 7 (by kernel_rfl) (by kernel_rfl) (Below.refl _ _) ?_;simp only [take_succ_cons,take_zero,take_nil]
    iterate 7 (refine Q06 (by rfl) (fun K hK=>?_);go_simp;refine hK _ ?_;clear hK K)
    refine Q0i ?_;intro u2 I;change wpList _ _ _ [_] _ _;have bc:=y.kept I;have bf:=G.kept I;have bn:=N.kept I;have aK:=D00 L I;clear k0 bk y G N L I
    go_wp2_with (go_at_call 108;(with_reducible refine (Cw.out _ bc).mono ?_);rintro e u3 ⟨rfl,bb,am⟩)
    have bg:=bf.grown am (by simp;omega);have bo:=bn.grown am (by simp;omega);have bd:=aK.grown am aK.size (fun k G=>by cases G;omega)
    go_roundw
    case rel=>exact ⟨j+1,by omega,by go_num,bb,bg,bo,bd⟩
    case measure=>simp [intOf];omega
   obtain rfl:j=4:=by omega
   have aj:=Q6u T (.int .u8 0);rw [aw.out] at aj;rw [show 8*4=32 from rfl,aj,b5.out] at y;clear aj
   go_wp2_with (first
    |(refine Qla 30 3 Z Q0g y (Q4y _) ?_)
    |(refine Q0n (by rfl) 30 (.tmp 2) (.tmp 23) (by rfl) (w.heap.size+1) (ocs S) (by rfl) (by rfl) Q0g N (Q4y _) (by rfl) (Qmb _) (Below.refl _ _) (le_refl _) ?_;intro u3 bi U a2;have M:=L.trans (U.mono (by omega))))
   exact bodyPost_ret (Q0h rfl _ _ (w.heap.size+1) Q0g bi (Q4y _) rfl) rfl ⟨by rw [<-b4.out],M⟩
theorem Qbl (a:Option Addr)(n c:Nat)(l:List UInt8)(J:l.length=n)(w:World)(h:Q02 w (.slice a n c) l) :
  Calls Tryz.prog 37 #[.slice a n c] w fun e w'=>e=.returned (.agg ((sumB l).map u8v).toArray)/\Below w.heap.size w w':=by
 obtain ⟨z,E⟩:=Qe (hst (stB (padL l) 0) (List.replicate 32 0) 0);obtain ⟨D,y⟩:=Qe ((w.alloc (.cells zh.toArray 30)).alloc (.cells z.toArray 112));have aa:Blk 30 D w.heap.size zh:=by rw [y];exact (D01 w 30 zh).alloc _
 have V:Q2z (padL l) 0 (w.heap.size+1) D:=by
  refine ⟨List.replicate 32 0,by simp,fun i hi=>by omega,?_⟩;have:=D01 (w.alloc (.cells zh.toArray 30)) 112 z;have h2:Blk 112 ((w.alloc (.cells zh.toArray 30)).alloc (.cells z.toArray 112)) (w.heap.size+1) z:=by simpa using this
  rw [y,<-E];exact h2
 have G:Below w.heap.size w D:=by rw [y];exact (Qba _ _).alloc (by simp) _
 have af:D.heap.size=w.heap.size+2:=by rw [y];simp
 have S:=Qkc (padL l) l a n c (w.heap.size+1) w D J (fun i hi=>Qm7 l i (by omega)) h (by omega) G V (by omega);have U:z.toArray=#[.int .u64 0,.int .u64 0,.int .u64 0,.int .u64 0,.int .u64 0,.int .u64 0,.int .u64 0,.int .u64 0,.int .u8 0,.int .u8 0,.int .u8 0,.int .u8 0,.int .u8 0,.int .u8 0,.int .u8 0,.int .u8 0,.int .u8 0,.int .u8 0,.int .u8 0,.int .u8 0,.int .u8 0,.int .u8 0,.int .u8 0,.int .u8 0,.int .u8 0,.int .u8 0,.int .u8 0,.int .u8 0,.int .u8 0,.int .u8 0,.int .u8 0,.int .u8 0,.int .u8 0,.int .u8 0,.int .u8 0,.int .u8 0,.int .u8 0,.int .u8 0,.int .u8 0,.int .u8 0,.int .i64 0]:=by rw [E];rfl
 have Z:=Qhd S;have N:=Qhd y;have M:=Qhd U;have Hn:=Qhd J;clear S y U E J V h;go_enter Tryz.func37,Tryz.ntmps37
 go_wp2_with (first
  |(go_at_call 77;(have H:=Z.out);rw [N.out,M.out] at H;refine H.mono ?_;rintro e w2 ⟨rfl,a3,I⟩;rw [<-M.out,<-N.out] at I;clear H;obtain ⟨pt,T,K,W⟩:=a3;rw [<-Hn.out] at W K;have ab:=aa.grown I (by simp);have a5:=G.grown I G.size (fun k hk=>by cases hk;omega);have L:=Qhd T;have a1:=Qhd K;clear T K)
  |(refine Qla 112 3 (w.heap.size+1) Qof W (Qco (Qdn _ _).1 L.out _) ?_)
  |(go_at_call 78;(with_reducible refine (Qq3 l pt L.out a1.out _).mono ?_);rintro e w3 ⟨rfl,O⟩;have ac:=ab.kept O;have a6:=D00 a5 O)
  |(refine Q0n (by rfl) 30 (.tmp 2) (.tmp 7) (by rfl) w.heap.size (scs l) (by rfl) (by rfl) Q0g ac (Qlf l) (by rfl) (Qrq l) (Below.refl _ _) (le_refl _) ?_;intro u3 a' a4 ae;have a7:=a6.trans a4))
 exact bodyPost_ret (Q0h rfl _ _ w.heap.size Q0g a' (Qlf l) rfl) rfl ⟨rfl,a7⟩
end Go.Proofs.YtbdmkfjgnjfjbaaGreat
