/- The reference's routes: what it hands back; a leaf, nothing, something else. | The reference's routes: a road; nothing, something else. | The reference's routes -/
import Derived.Test.YtbdmkfjgnjfjbaaGreatBlockListsK03
set_option linter.unusedSimpArgs false
set_option linter.unusedVariables false
set_option maxHeartbeats 4000000
set_option maxRecDepth 100000
open List (getElem_mem length_append length_singleton length_take map_cons map_nil mem_cons_self nil_append sum_cons take_length take_nil take_succ_cons take_zero)
open Nat (le_refl)
namespace Go.Proofs.YtbdmkfjgnjfjbaaGreat
open Go.RowKit
def Q0d (r:Rt):List Value:=[.string ⟨r.1.toArray⟩,.string ⟨r.2.toArray⟩]
theorem elRt:El Tryz.prog 150 168 (.agg #[.string ByteArray.empty,.string ByteArray.empty]) 2 32 Q0d:=⟨by kernel_rfl,by kernel_rfl,rfl,by omega,fun _=>rfl,fun x u hu=>by
 simp only [Q0d,List.mem_cons,List.not_mem_nil,or_false] at hu;rcases hu with rfl|rfl<;>rfl⟩
theorem Qly (q:List UInt8)(l m:List Rt):pre q (l++m)=pre q l++pre q m:=by unfold pre;rw [List.map_append]
theorem Qqi (ls:List (List Rt))(l:List Rt):∀ j,cat j (ls++[l])=cat j ls++pre [UInt8.ofNat (j+ls.length)] l:=by
 induction ls with
 | nil=>intro j;simp [cat]
 | cons x ls ih =>
  intro j;simp only [List.cons_append,cat,ih,List.length_cons,List.append_assoc];rw [Nat.add_right_comm j 1,Nat.add_assoc]
theorem Qo8 (v:List UInt8)(ls:List (List Rt))(l:List Rt):bdP v (ls++[l])=bdP v ls++pre [UInt8.ofNat ls.length] l:=by
 unfold bdP;rw [Qqi,Nat.zero_add,List.append_assoc]
theorem Qds:∀ {ks:List Nd}{k:Nd}{ls:List (List Rt)}{l:List Rt},rtsL ks=some ls->rts k=some l->rtsL (ks++[k])=some (ls++[l])
 | [],k,ls,l,h,hk=>by
  simp only [rtsL,Option.some.injEq] at h;subst h;simp [rtsL,hk]
 | x::ks,k,ls,l,h,hk=>by
  unfold rtsL at h;cases h1:rts x with
  | none=>rw [h1] at h;simp at h
  | some m =>
   rw [h1] at h;dsimp only at h;cases h2:rtsL ks with
   | none=>rw [h2] at h;simp at h
   | some ms =>
    rw [h2] at h;simp only [Option.some.injEq] at h;subst h;have:=Qds (ks:=ks) (k:=k) h2 hk;simp [rtsL,h1,this]
theorem Qdr {ks:List Nd}{i:Nat}(y:i<ks.length){ls:List (List Rt)}{l:List Rt}(h:rtsL (ks.take i)=some ls)(z:rts ks[i]=some l):rtsL (ks.take (i+1))=some (ls++[l]):=by
 rw [List.take_succ_eq_append_getElem y];exact Qds h z
theorem Q8t {ks:List Nd}{k:Nd}(E:k∈ks)(D:rts k=none):rtsL ks=none:=by
 cases h:rtsL ks with
 | none=>rfl
 | some ls =>
  obtain ⟨i,z⟩:=List.getElem?_of_mem E;obtain ⟨l,_,y⟩:=(Q62 h).2 i k z;rw [D] at y;simp at y
theorem Qd3 (ls:List (List Rt)):∀ j,(cat j ls).length=(ls.map List.length).sum:=by
 induction ls with
 | nil=>intro j;simp [cat]
 | cons l ls ih=>intro j;simp only [cat,length_append,Q2b,ih,map_cons,sum_cons]
mutual
theorem Qfb:∀ {t:Nd}{l:List Rt},rts t=some l->l.length<=Q15 t
 | .mk kd pv p vv v kv ks,l,h=>by
  unfold rts at h;unfold Q15;split at h
  ·simp at h
  split at h
  ·simp only [Option.some.injEq] at h;subst h;simp
  split at h
  ·simp only [Option.some.injEq] at h;subst h;simp;omega
  split at h
  ·cases hls:rtsL ks with
   | none=>rw [hls] at h;simp at h
   | some ls =>
    rw [hls] at h;simp only [Option.map_some,Option.some.injEq] at h;subst h;have:=Q6h hls;rw [Q2b,List.length_flatten];omega
  split at h
  ·cases hls:rtsL ks with
   | none=>rw [hls] at h;simp at h
   | some ls =>
    rw [hls] at h;simp only [Option.map_some,Option.some.injEq] at h;subst h;have:=Q6h hls;rw [length_append,Qd3];have:(if v=[] then ([]:List Rt) else [([],v)]).length<=1:=by split<;>simp
    omega
  simp at h
theorem Q6h:∀ {ks:List Nd}{ls:List (List Rt)},rtsL ks=some ls->(ls.map List.length).sum<=Q0v ks
 | [],ls,h=>by
  simp only [rtsL,Option.some.injEq] at h;subst h;simp
 | k::ks,ls,h=>by
  unfold rtsL at h;cases h1:rts k with
  | none=>rw [h1] at h;simp at h
  | some m =>
   rw [h1] at h;dsimp only at h;cases h2:rtsL ks with
   | none=>rw [h2] at h;simp at h
   | some ms =>
    rw [h2] at h;simp only [Option.some.injEq] at h;subst h;have a:=Qfb h1;have b:=Q6h h2;simp only [map_cons,sum_cons,Q0v];omega
end
theorem Qin (q p:List UInt8):(⟨q.toArray⟩++⟨p.toArray⟩:ByteArray)=⟨(q++p).toArray⟩:=by
 apply Qrc;simp [ByteArray.data_append]
def Qa7 (q:List UInt8)(o:Option (List Rt))(w:World)(e:Ending)(w':World):Prop :=
 Below w.heap.size w w'/\match o with
 | none=>e=.returned (.tuple #[.slice none 0 0,.bool false])
 | some l=>∃ (a:Option Addr) (n c:Nat),e=.returned (.tuple #[.slice a n c,.bool true])/\Q05 Q0d 2 w' (.slice a n c) (pre q l)
def RtsC (N:Nat)(k:Nd):Prop:=∀ (q:List UInt8) (u:World),IsNd u k->q.length+Q15 k<=N->Calls Tryz.prog 118 #[.agg (Q04 k).toArray,.string ⟨q.toArray⟩] u (Qa7 q (rts k) u)
section
variable (N:Nat) (hN:N<=100000000000) (pa va ka:Option Addr) (pn pc vn vc kn kc:Nat) (p v:List UInt8) (ks:List Nd) (hpn:p.length=pn) (hvn:v.length=vn) (hkn:ks.length=kn) (q:List UInt8) (w:World)
 (hp:Q02 w (.slice pa pn pc) p) (hv:Q02 w (.slice va vn vc) v) (hk:Q05 Q04 4 w (.slice ka kn kc) ks) (hks:∀ k∈ks,IsNd w k)
include hN hpn hvn hp hv in
theorem Qff (hq:q.length+pn+vn<=N):Calls Tryz.prog 118 #[.agg #[.int .i64 1,.slice pa pn pc,.slice va vn vc,.slice ka kn kc],.string ⟨q.toArray⟩] w (Qa7 q (rts (.mk 1 (.slice pa pn pc) p (.slice va vn vc) v (.slice ka kn kc) ks)) w):=by
 have U:rts (.mk 1 (.slice pa pn pc) p (.slice va vn vc) v (.slice ka kn kc) ks)=if half p=false then none else some [(p,v)]:=by unfold rts;simp
 obtain ⟨O,E⟩:=Qe (rts (.mk 1 (.slice pa pn pc) p (.slice va vn vc) v (.slice ka kn kc) ks));rw [<-E];rw [U] at E;have M:=Qhd E;clear E;obtain ⟨w1,z⟩:=Qe (w.alloc (.cells #[.int .i64 1,.slice pa pn pc,.slice va vn vc,.slice ka kn kc] 70));have Z:Blk 70 w1 w.heap.size [.int .i64 1,.slice pa pn pc,.slice va vn vc,.slice ka kn kc]:=by rw [z];exact D01 w _ _
 have a6:Below w.heap.size w w1:=by rw [z];exact Qba _ _
 have k1:=(Z.cell 1).trans (show _=some (Value.slice pa pn pc) from rfl);rw [z] at k1;have a3:=Qhd z;have T:=Qhd hpn;have Hq:=Qhd hq;clear z U;go_enter Tryz.func118,Tryz.ntmps118
 go_wp2_with fail
 rw [<-a3.out]
 go_loopw [16] (fun L wr=>∃ k:Nat,k<=pn/\L=.int .i64 (k:Int)/\half (p.take k)=true/\Below w.heap.size w wr/\Blk 70 wr w.heap.size [.int .i64 1,.slice pa pn pc,.slice va vn vc,.slice ka kn kc]) (fun L _=>pn - (intOf L).toNat)
 case atStart=>exact ⟨0,by omega,rfl,rfl,a6,Z⟩
 case round =>
  obtain ⟨k,ac,rfl,y,h,H⟩:=hrel;have k0:=(H.cell 0).trans (show _=some (Value.int .i64 1) from rfl);by_cases hlt:k<pn
  ·have ab:(k:Int)<(pn:Int):=by omega
   have K:k<p.length:=by rw [T.out];exact hlt
   obtain ⟨b,off,rfl,hc⟩:=Q02.at (hp.below h) k K;obtain ⟨x,D⟩:=Qe (p[k]);rw [<-D] at hc;have hst:=Q9l p k K;rw [y,<-D,Bool.true_and] at hst;have Hx:=Qhd D;by_cases h15:x.toNat<=15
   ·have a8:(x.toNat:Int)<=15:=by omega
    rw [decide_eq_true h15] at hst;clear D y
    go_wp2
    go_roundw
    case rel=>exact ⟨k+1,by omega,by go_num,hst,h,H⟩
    case measure=>simp [intOf];omega
   have a8:(15:Int)<(x.toNat:Int):=by omega
   have V:half p=false:=Qcs K (by rw [<-Hx.out];exact h15);have I:O=none:=by rw [M.out,if_pos V]
   subst I;clear D y hst V
   go_wp2
   go_ret2;exact ⟨h,rfl⟩
  obtain rfl:k=pn:=by omega
  have W:¬ half p=false:=by rw [<-T.out,take_length] at y;rw [y];simp
  have I:O=some [(p,v)]:=by rw [M.out,if_neg W]
  subst I;clear W;have k1:=(H.cell 1).trans (show _=some (Value.slice pa k pc) from rfl);have k2:=(H.cell 2).trans (show _=some (Value.slice va vn vc) from rfl);have c1:=Q0q (P:=Tryz.prog) (src:=25) (dst:=9) elU8.ht (by kernel_rfl) (by kernel_rfl) (hp.below h);have c2:=Q0q (P:=Tryz.prog) (src:=25) (dst:=9) elU8.ht (by kernel_rfl) (by kernel_rfl) (hv.below h);obtain ⟨S1,J⟩:∃ S:ByteArray,S=⟨q.toArray⟩++⟨p.toArray⟩:=⟨_,rfl⟩;have G:=D02 (f:=Q0d) (size:=2) (fun _=>rfl) wr 168 [(q++p,v)] 1 rfl (by unfold maxLen;omega);rw [show ([(q++p,v)]:List Rt).flatMap Q0d=[.string S1,.string ⟨v.toArray⟩] from by rw [J,Qin];rfl] at G;rw [J] at G;have a2:=Qhd G;clear y hlt J G
  go_wp2
  go_ret2;exact ⟨h.alloc h.size _,_,_,_,rfl,a2.out⟩
end
def RtT (l:List Rt):Ty:=fun v w=>∃ (a:Option Addr) (n c:Nat),v=.slice a n c/\Q05 Q0d 2 w (.slice a n c) l
theorem RtT.mono (l:List Rt):Mono (RtT l):=fun _ _ _ ⟨a,n,c,h,h2⟩ hb=>⟨a,n,c,h,h2.below hb⟩
def Qqn (l:List Rt):Ty:=fun v w=>∃ (a:Option Addr) (n c:Nat),v=.tuple #[.slice a n c,.bool true]/\Q05 Q0d 2 w (.slice a n c) l
theorem Qqn.mono (l:List Rt):Mono (Qqn l):=fun _ _ _ ⟨a,n,c,h,h2⟩ hb=>⟨a,n,c,h,h2.below hb⟩
section
variable (N:Nat) (hN:N<=100000000000) (pa va ka:Option Addr) (pn pc vn vc kn kc:Nat) (p v:List UInt8) (ks:List Nd) (hpn:p.length=pn) (hvn:v.length=vn) (hkn:ks.length=kn) (q:List UInt8) (w:World)
 (hp:Q02 w (.slice pa pn pc) p) (hv:Q02 w (.slice va vn vc) v) (hk:Q05 Q04 4 w (.slice ka kn kc) ks) (hks:∀ k∈ks,IsNd w k)
include hN hpn hkn hp hk hks in
theorem Qfe (ih:∀ k∈ks,RtsC N k)(Z:q.length+1+pn+Q0v ks<=N):Calls Tryz.prog 118 #[.agg #[.int .i64 2,.slice pa pn pc,.slice va vn vc,.slice ka kn kc],.string ⟨q.toArray⟩] w (Qa7 q (rts (.mk 2 (.slice pa pn pc) p (.slice va vn vc) v (.slice ka kn kc) ks)) w):=by
 have hR:rts (.mk 2 (.slice pa pn pc) p (.slice va vn vc) v (.slice ka kn kc) ks)=if half p=false then none else if kn=1 then (rtsL ks).map fun l=>pre p l.flatten else none:=by unfold rts;rw [hkn];simp
 obtain ⟨O,W⟩:=Qe (rts (.mk 2 (.slice pa pn pc) p (.slice va vn vc) v (.slice ka kn kc) ks));rw [<-W];rw [hR] at W;have HO:=Qhd W;clear W;obtain ⟨w1,M⟩:=Qe (w.alloc (.cells #[.int .i64 2,.slice pa pn pc,.slice va vn vc,.slice ka kn kc] 70));have hz:Blk 70 w1 w.heap.size [.int .i64 2,.slice pa pn pc,.slice va vn vc,.slice ka kn kc]:=by rw [M];exact D01 w _ _
 have aw:Below w.heap.size w w1:=by rw [M];exact Qba _ _
 have k1:=(hz.cell 1).trans (show _=some (Value.slice pa pn pc) from rfl);rw [M] at k1;have aq:=Qhd M;have a3:=Qhd hpn;have ao:=Qhd hkn;have Hq:=Qhd Z;clear M hR;go_enter Tryz.func118,Tryz.ntmps118
 go_wp2_with fail
 rw [<-aq.out]
 go_loopw [16] (fun ix wr=>∃ k:Nat,k<=pn/\ix=.int .i64 (k:Int)/\half (p.take k)=true/\Below w.heap.size w wr/\Blk 70 wr w.heap.size [.int .i64 2,.slice pa pn pc,.slice va vn vc,.slice ka kn kc]) (fun ix _=>pn - (intOf ix).toNat)
 case atStart=>exact ⟨0,by omega,rfl,rfl,aw,hz⟩
 case round =>
  obtain ⟨k,aF,rfl,I,D,a0⟩:=hrel;have k0:=(a0.cell 0).trans (show _=some (Value.int .i64 2) from rfl);by_cases hlt:k<pn
  ·have aE:(k:Int)<(pn:Int):=by omega
   have a7:k<p.length:=by rw [a3.out];exact hlt
   obtain ⟨b,off,rfl,hc⟩:=Q02.at (hp.below D) k a7;obtain ⟨x,T⟩:=Qe (p[k]);rw [<-T] at hc;have hst:=Q9l p k a7;rw [I,<-T,Bool.true_and] at hst;have Hx:=Qhd T;by_cases h15:x.toNat<=15
   ·have ay:(x.toNat:Int)<=15:=by omega
    rw [decide_eq_true h15] at hst;clear T I
    go_wp2
    go_roundw
    case rel=>exact ⟨k+1,by omega,by go_num,hst,D,a0⟩
    case measure=>simp [intOf];omega
   have ay:(15:Int)<(x.toNat:Int):=by omega
   have ai:half p=false:=Qcs a7 (by rw [<-Hx.out];exact h15);have G:O=none:=by rw [HO.out,if_pos ai]
   subst G;clear T I hst ai
   go_wp2
   go_ret2;exact ⟨D,rfl⟩
  obtain rfl:k=pn:=by omega
  have aj:¬ half p=false:=by rw [<-a3.out,take_length] at I;rw [I];simp
  have ag:O=if kn=1 then (rtsL ks).map fun l=>pre p l.flatten else none:=by rw [HO.out,if_neg aj]
  have a2:=Qhd ag;have m1:=(a0.cell 1).trans (show _=some (Value.slice pa k pc) from rfl);have m3:=(a0.cell 3).trans (show _=some (Value.slice ka kn kc) from rfl);clear aj ag HO I hlt hkn;by_cases h1:kn=1
  ·subst h1;obtain ⟨y,rfl⟩:=List.length_eq_one_iff.1 ao.out;obtain ⟨bk,ok,rfl,L⟩:=Q05.range Q0b (hk.below D) 0 (by simp);simp only [List.getElem_cons_zero,Nat.zero_mul,Nat.add_zero] at L;have a4:=(hks y mem_cons_self).kept D;have a6:Q0v [y]=Q15 y:=by simp [Q0v]
   have E:=fun (u:Ext wr)=>ih y mem_cons_self (q++p) u.val (u.nd a4) (by rw [a6] at Z;rw [length_append,a3.out];omega);have c1:=fun u:Ext wr=>Q0q (P:=Tryz.prog) (src:=25) (dst:=9) elU8.ht (by kernel_rfl) (by kernel_rfl) (u.row (hp.below D));obtain ⟨S1,J⟩:∃ S:ByteArray,S=⟨(q++p).toArray⟩:=⟨_,rfl⟩;simp only [<-J] at E;rw [<-Qin] at J;have aG:¬ 9223372036854775807<q.length+k:=by have:=Hq.out;omega
   have aD:(⟨q.toArray⟩++⟨p.toArray⟩:ByteArray)=S1:=J.symm;have V:=Q0b y;obtain ⟨K,z⟩:=Qe (Q04 y);simp only [<-z] at L V E;have j1:=fun u:Ext wr=>u.cell m1;have j3:=fun u:Ext wr=>u.cell m3;have ac:=Qhd V;have Hr:=Qhd L;cases hy:rts y with
   | none =>
    have G:O=none:=by rw [a2.out,if_pos rfl,Q8t mem_cons_self hy];rfl
    subst G;rw [hy] at E;have c4:∀ u:Ext wr,Calls Tryz.prog 118 #[.agg K.toArray,.string S1] u.val fun e w'=>e=.returned (.tuple #[.slice none 0 0,.bool false])/\Below u.val.heap.size u.val w':=fun u=>(E u).mono fun _ _ h=>⟨h.2,h.1⟩;have C4:=Qhd c4;clear J z a4 a6 Z L V E c4 hy hk hks ih
    go_wp2_with fail
    clear m1 m3;refine Q03 wr 12 (by kernel_rfl) (by kernel_rfl) (Below.refl _ _) ?_;simp only [take_succ_cons,take_zero,take_nil]
    iterate 3 (refine Q06 (by rfl) (fun K z=>?_);go_simp;refine z _ ?_;clear z K)
    (refine Q06 (by rfl) (fun K z=>?_);rw [if_pos (by rfl)];refine ⟨_,fun u=>Q16 _ (.tmp 63) (by rfl) _ _ (by rfl) Q07 ac.out (rangeAt.ext Hr.out u),z _ ?_⟩;clear z K;simp only [Act.put,Qzs])
    iterate 5 (refine Q06 (by rfl) (fun K z=>?_);go_simp;refine z _ ?_;clear z K)
    (refine Q06 (by rfl) (fun K z=>?_);go_simp;first|(refine z _ ?_;clear z K)|(apply Exists.intro;refine ⟨fun _=>?_,z _ ?_⟩;exact C4.out _;clear z K))
    iterate 2 (refine Q06 (by rfl) (fun K z=>?_);go_simp;refine z _ ?_;clear z K)
    refine Q0i ?_;intro u2 a5;simp only [List.reverse_nil,Q00];change wpList _ _ _ [_,_] _ _
    go_wp2_with fail
    go_ret2;exact ⟨D00 D a5,rfl⟩
   | some l =>
    have G:O=some (pre p l):=by rw [a2.out,if_pos rfl];simp [rtsL,hy]
    subst G;rw [hy] at E;have C2:=Qhd E;clear J z a4 a6 Z L V E hy hk hks ih
    go_wp2_with fail
    clear m1 m3;refine Q03 wr 12 (by kernel_rfl) (by kernel_rfl) (Below.refl _ _) ?_;simp only [take_succ_cons,take_zero,take_nil]
    iterate 3 (refine Q06 (by rfl) (fun K z=>?_);go_simp;refine z _ ?_;clear z K)
    (refine Q06 (by rfl) (fun K z=>?_);rw [if_pos (by rfl)];refine ⟨_,fun u=>Q16 _ (.tmp 63) (by rfl) _ _ (by rfl) Q07 ac.out (rangeAt.ext Hr.out u),z _ ?_⟩;clear z K;simp only [Act.put,Qzs])
    iterate 5 (refine Q06 (by rfl) (fun K z=>?_);go_simp;refine z _ ?_;clear z K)
    refine Q0e 70 (Qqn (pre (q++p) l)) rfl (of_decide_eq_true rfl) (Qqn.mono _) (fun U a8=>?_) ?_
    ·simp only [Q18,List.filter_nil,Q00];refine ⟨rfl,?_⟩;go_simp;refine (C2.out ⟨U,a8⟩).mono ?_;rintro e w7 ⟨b7,a,n,c,rfl,H⟩;exact ⟨_,rfl,⟨a,n,c,rfl,H⟩,b7⟩
    refine Q0e 71 (RtT (pre (q++p) l)) rfl (of_decide_eq_true rfl) (RtT.mono _) (fun U a8=>?_) ?_
    ·change Q00 U [(70,_)] _ _;rintro aA ⟨a,n,c,rfl,H⟩;simp only [Q00];refine ⟨rfl,?_⟩;go_simp;exact ⟨Below.refl _ _,a,n,c,rfl,H⟩
    refine Q3a (.bool true) (fun U a8=>?_) ?_
    ·change Q00 U [(70,_)] _ _;rintro aA ⟨a,n,c,rfl,H⟩;simp only [Q00];refine ⟨rfl,?_⟩;go_simp;exact Below.refl _ _
    refine Q0i ?_;intro u2 a5 aL _ aM av;change wpList _ _ _ [_,_] _ _;obtain ⟨a,n,c,rfl,H⟩:=av
    go_wp2_with fail
    go_ret2;exact ⟨D00 D a5,a,n,c,rfl,by rw [Q7a];exact H⟩
  have aC:((kn:Int)==1)=false:=by rw [beq_eq_false_iff_ne];omega
  have G:O=none:=by rw [a2.out,if_neg h1]
  subst G
  go_wp2_with fail
  go_ret2;exact ⟨D,rfl⟩
include hpn hp in
theorem Qjd (kd:Int)(E:kd≠1)(D:kd≠2)(h:kd=3->kn≠16):Calls Tryz.prog 118 #[.agg #[.int .i64 kd,.slice pa pn pc,.slice va vn vc,.slice ka kn kc],.string ⟨q.toArray⟩] w (Qa7 q (if kd=0 then some [] else none) w):=by
 obtain ⟨O,G⟩:∃ O:Option (List Rt),O=if kd=0 then some [] else none:=⟨_,rfl⟩
 rw [<-G];have K:=Qhd G;have N:=Qhd h;have e1:(kd==1)=false:=by rw [beq_eq_false_iff_ne];exact E
 have e2:(kd==2)=false:=by rw [beq_eq_false_iff_ne];exact D
 obtain ⟨M,z⟩:=Qe (w.alloc (.cells #[.int .i64 kd,.slice pa pn pc,.slice va vn vc,.slice ka kn kc] 70));have L:Blk 70 M w.heap.size [.int .i64 kd,.slice pa pn pc,.slice va vn vc,.slice ka kn kc]:=by rw [z];exact D01 w _ _
 have V:Below w.heap.size w M:=by rw [z];exact Qba _ _
 have Z:=(L.cell 1).trans (show _=some (Value.slice pa pn pc) from rfl);rw [z] at Z;have a8:pn<=9223372036854775807:=by have E:=hp.fits.2.1;have D:=hp.fits.2.2;unfold maxLen at D;omega
 have T:=Qhd z;have S:=Qhd hpn;clear z G E D h;go_enter Tryz.func118,Tryz.ntmps118
 go_wp2_with fail
 rw [<-T.out]
 go_loopw [16] (fun J wr=>∃ k:Nat,k<=pn/\J=.int .i64 (k:Int)/\Below w.heap.size w wr/\Blk 70 wr w.heap.size [.int .i64 kd,.slice pa pn pc,.slice va vn vc,.slice ka kn kc]) (fun J _=>pn - (intOf J).toNat)
 case atStart=>exact ⟨0,by omega,rfl,V,L⟩
 case round =>
  obtain ⟨k,a7,rfl,y,I⟩:=hrel;have k0:=(I.cell 0).trans (show _=some (Value.int .i64 kd) from rfl);by_cases hlt:k<pn
  ·have a6:(k:Int)<(pn:Int):=by omega
   have W:k<p.length:=by rw [S.out];exact hlt
   obtain ⟨b,off,rfl,hc⟩:=Q02.at (hp.below y) k W
   go_wp2
   go_roundw
   case rel=>exact ⟨k+1,by omega,by go_num,y,I⟩
   case measure=>simp [intOf];omega
  obtain rfl:k=pn:=by omega
  have k3:=(I.cell 3).trans (show _=some (Value.slice ka kn kc) from rfl);by_cases h0:kd=0
  ·have H:O=some []:=by rw [K.out,if_pos h0]
   subst H;subst h0
   go_wp2
   go_ret2;exact ⟨y,none,0,0,rfl,Q05.nil Q0d 2 _⟩
  have H:O=none:=by rw [K.out,if_neg h0]
  subst H;have e0:(kd==0)=false:=by rw [beq_eq_false_iff_ne];exact h0
  by_cases h:kd=3
  ·have U:=N.out h;have a4:((kn:Int)==16)=false:=by rw [beq_eq_false_iff_ne];omega
   subst h;clear U
   go_wp2
   go_ret2;exact ⟨y,rfl⟩
  have e3:(kd==3)=false:=by rw [beq_eq_false_iff_ne];exact h
  clear h0 h
  go_wp2
  go_ret2;exact ⟨y,rfl⟩
end
theorem Q9z (ks:List Nd)(i:Nat):Q0v (ks.take i)<=Q0v ks:=by
 induction ks generalizing i with
 | nil=>simp
 | cons k ks ih =>
  cases i with
  | zero=>simp [Q0v]
  | succ i=>have:=ih i;simp only [take_succ_cons,Q0v];omega
section
variable (N:Nat) (hN:N<=100000000000) (pa va ka:Option Addr) (pn pc vn vc kc:Nat) (p v:List UInt8) (ks:List Nd) (hpn:p.length=pn) (hvn:v.length=vn) (hkn:ks.length=16) (q:List UInt8) (w:World)
 (hp:Q02 w (.slice pa pn pc) p) (hv:Q02 w (.slice va vn vc) v) (hk:Q05 Q04 4 w (.slice ka 16 kc) ks) (hks:∀ k∈ks,IsNd w k)
include hN hpn hvn hkn hp hv hk hks in
theorem Qfg (ih:∀ k∈ks,RtsC N k)(hq:q.length+1+pn+vn+Q0v ks<=N):Calls Tryz.prog 118 #[.agg #[.int .i64 3,.slice pa pn pc,.slice va vn vc,.slice ka 16 kc],.string ⟨q.toArray⟩] w (Qa7 q ((rtsL ks).map fun l=>bdP v l) w):=by
 obtain ⟨O,hO⟩:=Qe ((rtsL ks).map fun l=>bdP v l);rw [<-hO];have HO:=Qhd hO;clear hO;obtain ⟨w1,aC⟩:=Qe (w.alloc (.cells #[.int .i64 3,.slice pa pn pc,.slice va vn vc,.slice ka 16 kc] 70));have hz:Blk 70 w1 w.heap.size [.int .i64 3,.slice pa pn pc,.slice va vn vc,.slice ka 16 kc]:=by rw [aC];exact D01 w _ _
 have bv:Below w.heap.size w w1:=by rw [aC];exact Qba _ _
 have k1:=(hz.cell 1).trans (show _=some (Value.slice pa pn pc) from rfl);rw [aC] at k1;have bo:=Qhd aC;have bm:=Qhd hpn;have bn:=Qhd hvn;have aH:=Qhd hkn;have Hq:=Qhd hq;have bR:pn<=100000000000:=by omega
 clear aC hpn hvn hkn hq;go_enter Tryz.func118,Tryz.ntmps118
 go_wp2_with fail
 rw [<-bo.out]
 go_loopw [16] (fun ix wr=>∃ k:Nat,k<=pn/\ix=.int .i64 (k:Int)/\Below w.heap.size w wr/\Blk 70 wr w.heap.size [.int .i64 3,.slice pa pn pc,.slice va vn vc,.slice ka 16 kc]) (fun ix _=>pn - (intOf ix).toNat)
 case atStart=>exact ⟨0,by omega,rfl,bv,hz⟩
 case round =>
  obtain ⟨k,bP,rfl,an,aD⟩:=hrel;have k0:=(aD.cell 0).trans (show _=some (Value.int .i64 3) from rfl);by_cases hlt:k<pn
  ·have ba:(k:Int)<(pn:Int):=by omega
   have bz:k<p.length:=by rw [bm.out];exact hlt
   obtain ⟨b,off,rfl,hc⟩:=Q02.at (hp.below an) k bz
   go_wp2
   go_roundw
   case rel=>exact ⟨k+1,by omega,by go_num,an,aD⟩
   case measure=>simp [intOf];omega
  obtain rfl:k=pn:=by omega
  have m2:=(aD.cell 2).trans (show _=some (Value.slice va vn vc) from rfl);have m3:=(aD.cell 3).trans (show _=some (Value.slice ka 16 kc) from rfl);have c2:=Q0q (P:=Tryz.prog) (src:=25) (dst:=9) elU8.ht (by kernel_rfl) (by kernel_rfl) (hv.below an);clear hlt;have bD:(v=[]/\vn=0)∨(v≠[]/\0<vn):=by
   have:=bn.out;cases v with
   | nil=>left;exact ⟨rfl,by simpa using this.symm⟩
   | cons x v=>right;refine ⟨by simp,?_⟩;simp at this;omega
  rcases bD with ⟨aB,b2⟩|⟨aB,b2⟩
  ·have bE:((0:Int)<(vn:Int))=False:=eq_false (by omega);have bS:(0<vn)=False:=eq_false (by omega);have aA:Q08 Q0d 2 168 wr w.heap.size (.slice none 0 0) (pre q (bdP v [])):=by
    have:pre q (bdP v [])=[]:=by unfold bdP;rw [if_pos aB];rfl
    rw [this];exact Q08.nil _ _ _ _ _
   clear aB b2
   go_wp2_with fail
   go_loopw [8,98] (fun av ix wr=>∃ (i:Nat) (ls:List (List Rt)),i<=16/\rtsL (ks.take i)=some ls/\Q08 Q0d 2 168 wr w.heap.size av (pre q (bdP v ls))/\ix=.int .i64 (i:Int)/\Below w.heap.size w wr) (fun _ ix _=>16 - (intOf ix).toNat)
   case atStart=>exact ⟨0,[],by omega,rfl,aA,rfl,an⟩
   case round =>
    obtain ⟨i,ls,bx,D,E,rfl,L⟩:=hrel;by_cases hlt:i<16
    ·have ba:(i:Int)<16:=by omega
     have M:i<ks.length:=by rw [aH.out];exact hlt
     have az:ls.length=i:=by rw [(Q62 D).1,length_take];omega
     obtain ⟨bk,ok,rfl,hr⟩:=Q05.range Q0b (hk.below L) i M;have V:=(hks _ (getElem_mem M)).kept L;have a3:=Q1u (getElem_mem M);have ay:=Q6h D;have a4:=Q8t (getElem_mem M);have hst:=fun l=>Qdr M (l:=l) D;have a0:Q0v (ks.take i)<=Q0v ks:=Q9z ks i;have I:=fun (u:World) (hu:Below wr.heap.size wr u)=>ih _ (getElem_mem M) (q++[UInt8.ofNat i]) u (V.kept hu) (by have:=Hq.out;rw [length_append];simp only [length_singleton];omega);have ai:(pre q (bdP v ls)).length<=1+Q0v ks:=by
      rw [Q2b];unfold bdP;rw [length_append,Qd3];have:(if v=[] then ([]:List Rt) else [([],v)]).length<=1:=by split<;>simp
      omega
     have a9:=fun l (h:rts ks[i]=some l)=>Qfb h;obtain ⟨y,hy⟩:=Qe (ks[i]);rw [<-hy] at hr V a3 a4;simp only [<-hy] at I hst a9;have a2:=Q0b y;have a7:=V.one;obtain ⟨K,hK⟩:=Qe (Q04 y);simp only [<-hK] at hr a2 a7 I;obtain ⟨S2,W⟩:∃ S:ByteArray,S=⟨(q++[UInt8.ofNat i]).toArray⟩:=⟨_,rfl⟩;simp only [<-W] at I;rw [<-Qin] at W;have al:u8v (UInt8.ofNat i)=.int .u8 (i:Int):=by unfold u8v;rw [Q1o (by omega)]
     have b4:∀ u:World,(convert 25 9 (.slice (some ⟨u.heap.size,0,none⟩) 1 1)).run Tryz.prog (u.alloc (.cells #[.int .u8 (i:Int)] 5))=.ok (str [UInt8.ofNat i]) (u.alloc (.cells #[.int .u8 (i:Int)] 5)):=by
      intro u;have hb:Q02 (u.alloc (.cells #[.int .u8 (i:Int)] 5)) (.slice (some ⟨u.heap.size,0,none⟩) 1 1) [UInt8.ofNat i]:=by
       have:=D02 (f:=b8) (size:=1) (fun _=>rfl) u 5 [UInt8.ofNat i] 1 rfl (by unfold maxLen;omega);rw [show ([UInt8.ofNat i]:List UInt8).flatMap b8=[.int .u8 (i:Int)] from by rw [Q22];simp only [map_cons,map_nil,al]] at this;exact this
      exact Q0q (P:=Tryz.prog) (src:=25) (dst:=9) elU8.ht (by kernel_rfl) (by kernel_rfl) hb
     obtain ⟨T1,Z⟩:∃ T:ByteArray,T=⟨[UInt8.ofNat i].toArray⟩:=⟨_,rfl⟩;have ak:str [UInt8.ofNat i]=.string T1:=by rw [Z];rfl
     rw [ak] at b4;have bu:(⟨q.toArray⟩++T1:ByteArray)=S2:=by rw [Z];exact W.symm
     have bt:T1.size=1:=by rw [Z];rfl
     have bB:(⟨q.toArray⟩:ByteArray).size=q.length:=Q6f q;have bF:IntKind.u8.wrap (i:Int)=(i:Int):=by rw [IntKind.wrap_u8'];omega
     have bC:¬ 9223372036854775807<q.length+1:=by have:=Hq.out;omega
     obtain ⟨aS,aQ,rfl,_⟩:=E.form;have aj:=Q08.lt E;have G:=Qhd I;have H:=Qhd a2;have ao:=Qhd a7;have aP:=Qhd hst;have aN:=Qhd a4;have aO:=Qhd a9;have aM:=Qhd ai;have bj:=Qhd a3;have bl:=Qhd az;obtain ⟨NL,J⟩:=Qe ((pre q (bdP v ls)).length);rw [<-J] at ai;simp only [<-J];rw [<-J] at E aj;have bi:=Qhd J;cases hry:rts y with
     | none =>
      have ah:O=none:=by rw [HO.out,aN.out hry];rfl
      subst ah;rw [hry] at G;have C4:=Qhd (fun (u:World) (hu:Below wr.heap.size wr u)=>(G.out u hu:Calls Tryz.prog 118 #[.agg K.toArray,.string S2] u fun e w'=>Below u.heap.size u w'/\e=.returned (.tuple #[.slice none 0 0,.bool false])));clear V a3 hy hK a2 a7 a4 hst a9 ay a0 I hlt W al Z ak J hry D G
      go_wp2_with (first
                  |(refine Qlw 70 101 bk (ok+i*4) Q07 H.out hr ?_;have bA:Below wr.heap.size wr (wr.alloc (.cells #[.int .i64 0,.slice none 0 0,.slice none 0 0,.slice none 0 0] 70)):=Qba _ _)
                  |((with_reducible refine Qgs 102 ?_);refine Qsa 70 10 102 wr.heap.size K Q07 (D01 wr 70 [.int .i64 0,.slice none 0 0,.slice none 0 0,.slice none 0 0]) H.out (by rfl) ao.out bA (le_refl _) ?_;intro w5 h7 z _;have ap:=D00 L z)
                  |(refine Qla 70 10 wr.heap.size Q07 h7 H.out ?_)
                  |(go_at_call 118;(with_reducible refine (C4.out _ (z.trans (Qba _ _ |>.mono z.size))).mono ?_);rintro e w6 ⟨b6,rfl⟩;have U:=D00 (D00 ap (Qba _ _)) b6))
      go_ret2;exact ⟨U,rfl⟩
     | some l =>
      have b0:=aP.out l hry;have aZ:=aO.out l hry;rw [hry] at G;have C4:=Qhd (fun (u:World) (hu:Below wr.heap.size wr u)=>(G.out u hu:Calls Tryz.prog 118 #[.agg K.toArray,.string S2] u fun e w'=>Below u.heap.size u w'/\∃ (a:Option Addr) (n c:Nat),e=.returned (.tuple #[.slice a n c,.bool true])/\Q05 Q0d 2 w' (.slice a n c) (pre (q++[UInt8.ofNat i]) l)));have ax:pre q (bdP v ls)++pre (q++[UInt8.ofNat i]) l=pre q (bdP v (ls++[l])):=by rw [Qo8,Qly,Q7a,az]
      have aL:=Qhd ax;have au:((pre q (bdP v ls)).length+(pre (q++[UInt8.ofNat i]) l).length)*32<=140737488355328:=by rw [Q2b (q++_)];have:=Hq.out;have:=aM.out;omega
      have aw:(pre q (bdP v ls)).length+(pre (q++[UInt8.ofNat i]) l).length<=maxLen:=by unfold maxLen;omega
      have aJ:=Qhd au;have aK:=Qhd aw;clear V a3 hy hK a2 a7 a4 hst a9 ay a0 I hlt W al Z ak J hry D G ax aZ au aw ai
      go_wp2_with (first
                  |(refine Qlw 70 101 bk (ok+i*4) Q07 H.out hr ?_;have bA:Below wr.heap.size wr (wr.alloc (.cells #[.int .i64 0,.slice none 0 0,.slice none 0 0,.slice none 0 0] 70)):=Qba _ _)
                  |((with_reducible refine Qgs 102 ?_);refine Qsa 70 10 102 wr.heap.size K Q07 (D01 wr 70 [.int .i64 0,.slice none 0 0,.slice none 0 0,.slice none 0 0]) H.out (by rfl) ao.out bA (le_refl _) ?_;intro w5 h7 z _;have ap:=D00 L z)
                  |(refine Qla 70 10 wr.heap.size Q07 h7 H.out ?_)
                  |(go_at_call 118;(with_reducible refine (C4.out _ (z.trans (Qba _ _ |>.mono z.size))).mono ?_);rintro e w6 ⟨b6,a6,n6,c6,rfl,h6⟩;have aq:=D00 (D00 z (Qba _ _)) b6;have U:=D00 L aq;have o6:=E.kept aq)
                  |(refine Q0x (o:=⟨some 118,_,_,_,_,_⟩) (by rfl) (.tmp 116) (.tmp 117) 150 (by rfl) elRt (by rfl) o6 (by rfl) h6 U.size aJ.out aK.out ?_;intro v7 w7 o7 g7 _;have b7:=U.grown g7 U.size aj;rw [aL.out] at o7))
      go_roundw
      case rel=>exact ⟨i+1,ls++[l],by omega,b0,o7,by go_num,b7⟩
      case measure=>simp [intOf];omega
    obtain rfl:i=16:=by omega
    have a0:ks.take 16=ks:=by rw [<-aH.out,take_length]
    rw [a0] at D;have ah:O=some (bdP v ls):=by rw [HO.out,D];rfl
    subst ah;obtain ⟨aS,aQ,rfl,_⟩:=E.form;have b1:=E.row;clear a0 D E
    go_wp2_with fail
    go_ret2;exact ⟨L,_,_,_,rfl,b1⟩
  have bE:(0:Int)<(vn:Int):=by omega
  have aY:Below w.heap.size w (wr.alloc (.cells #[.string ⟨q.toArray⟩,.string ⟨v.toArray⟩] 168)):=an.alloc an.size _;have bd:Q05 Q0d 2 (wr.alloc (.cells #[.string ⟨q.toArray⟩,.string ⟨v.toArray⟩] 168)) (.slice (some ⟨wr.heap.size,0,none⟩) 1 1) [(q,v)]:=D02 (f:=Q0d) (size:=2) (fun _=>rfl) wr 168 [(q,v)] 1 rfl (by unfold maxLen;omega);have bb:Q08 Q0d 2 168 (wr.alloc (.cells #[.string ⟨q.toArray⟩,.string ⟨v.toArray⟩] 168)) w.heap.size (.slice none 0 0) []:=Q08.nil _ _ _ _ _;have aj:=Q08.lt bb;have e0:pre q (bdP v [])=[]++[(q,v)]:=by unfold bdP;rw [if_neg aB];simp [pre,cat]
  rw [<-nil_append [(q,v)]] at bd;have bG:=aD.alloc (.cells #[.string ⟨q.toArray⟩,.string ⟨v.toArray⟩] 168);clear aB b2
  go_wp2_with (refine Q0x (o:=⟨some 94,_,_,_,_,_⟩) (by rfl) (.tmp 87) (.tmp 93) 150 (by rfl) elRt (by rfl) bb (by rfl) bd aY.size (by simp) (by unfold maxLen;simp) ?_;intro v5 w5 o5 g5 _;have z:=aY.grown g5 aY.size aj;have aA:=o5;simp only [nil_append] at aA;rw [<-nil_append [(q,v)],<-e0] at aA;obtain ⟨a5,c5,rfl,_⟩:=o5.form' 1 (by simp);have n3:=((bG.grown g5 (fun hh=>by cases hh)).cell 3).trans (show _=some (Value.slice ka 16 kc) from rfl))
  go_loopw [8,98] (fun av ix wr=>∃ (i:Nat) (ls:List (List Rt)),i<=16/\rtsL (ks.take i)=some ls/\Q08 Q0d 2 168 wr w.heap.size av (pre q (bdP v ls))/\ix=.int .i64 (i:Int)/\Below w.heap.size w wr) (fun _ ix _=>16 - (intOf ix).toNat)
  case atStart=>exact ⟨0,[],by omega,rfl,aA,rfl,z⟩
  case round =>
   obtain ⟨i,ls,bx,D,E,rfl,L⟩:=hrel;by_cases hlt:i<16
   ·have ba:(i:Int)<16:=by omega
    have M:i<ks.length:=by rw [aH.out];exact hlt
    have az:ls.length=i:=by rw [(Q62 D).1,length_take];omega
    obtain ⟨bk,ok,rfl,hr⟩:=Q05.range Q0b (hk.below L) i M;have V:=(hks _ (getElem_mem M)).kept L;have a3:=Q1u (getElem_mem M);have ay:=Q6h D;have a4:=Q8t (getElem_mem M);have hst:=fun l=>Qdr M (l:=l) D;have a0:Q0v (ks.take i)<=Q0v ks:=Q9z ks i;have I:=fun (u:World) (hu:Below wr.heap.size wr u)=>ih _ (getElem_mem M) (q++[UInt8.ofNat i]) u (V.kept hu) (by have:=Hq.out;rw [length_append];simp only [length_singleton];omega);have ai:(pre q (bdP v ls)).length<=1+Q0v ks:=by
     rw [Q2b];unfold bdP;rw [length_append,Qd3];have:(if v=[] then ([]:List Rt) else [([],v)]).length<=1:=by split<;>simp
     omega
    have a9:=fun l (h:rts ks[i]=some l)=>Qfb h;obtain ⟨y,hy⟩:=Qe (ks[i]);rw [<-hy] at hr V a3 a4;simp only [<-hy] at I hst a9;have a2:=Q0b y;have a7:=V.one;obtain ⟨K,hK⟩:=Qe (Q04 y);simp only [<-hK] at hr a2 a7 I;obtain ⟨S2,W⟩:∃ S:ByteArray,S=⟨(q++[UInt8.ofNat i]).toArray⟩:=⟨_,rfl⟩;simp only [<-W] at I;rw [<-Qin] at W;have al:u8v (UInt8.ofNat i)=.int .u8 (i:Int):=by unfold u8v;rw [Q1o (by omega)]
    have b4:∀ u:World,(convert 25 9 (.slice (some ⟨u.heap.size,0,none⟩) 1 1)).run Tryz.prog (u.alloc (.cells #[.int .u8 (i:Int)] 5))=.ok (str [UInt8.ofNat i]) (u.alloc (.cells #[.int .u8 (i:Int)] 5)):=by
     intro u;have hb:Q02 (u.alloc (.cells #[.int .u8 (i:Int)] 5)) (.slice (some ⟨u.heap.size,0,none⟩) 1 1) [UInt8.ofNat i]:=by
      have:=D02 (f:=b8) (size:=1) (fun _=>rfl) u 5 [UInt8.ofNat i] 1 rfl (by unfold maxLen;omega);rw [show ([UInt8.ofNat i]:List UInt8).flatMap b8=[.int .u8 (i:Int)] from by rw [Q22];simp only [map_cons,map_nil,al]] at this;exact this
     exact Q0q (P:=Tryz.prog) (src:=25) (dst:=9) elU8.ht (by kernel_rfl) (by kernel_rfl) hb
    obtain ⟨T1,Z⟩:∃ T:ByteArray,T=⟨[UInt8.ofNat i].toArray⟩:=⟨_,rfl⟩;have ak:str [UInt8.ofNat i]=.string T1:=by rw [Z];rfl
    rw [ak] at b4;have bu:(⟨q.toArray⟩++T1:ByteArray)=S2:=by rw [Z];exact W.symm
    have bt:T1.size=1:=by rw [Z];rfl
    have bB:(⟨q.toArray⟩:ByteArray).size=q.length:=Q6f q;have bF:IntKind.u8.wrap (i:Int)=(i:Int):=by rw [IntKind.wrap_u8'];omega
    have bC:¬ 9223372036854775807<q.length+1:=by have:=Hq.out;omega
    obtain ⟨aS,aQ,rfl,_⟩:=E.form;have aj:=Q08.lt E;have G:=Qhd I;have H:=Qhd a2;have ao:=Qhd a7;have aP:=Qhd hst;have aN:=Qhd a4;have aO:=Qhd a9;have aM:=Qhd ai;have bj:=Qhd a3;have bl:=Qhd az;obtain ⟨NL,J⟩:=Qe ((pre q (bdP v ls)).length);rw [<-J] at ai;simp only [<-J];rw [<-J] at E aj;have bi:=Qhd J;cases hry:rts y with
    | none =>
     have ah:O=none:=by rw [HO.out,aN.out hry];rfl
     subst ah;rw [hry] at G;have C4:=Qhd (fun (u:World) (hu:Below wr.heap.size wr u)=>(G.out u hu:Calls Tryz.prog 118 #[.agg K.toArray,.string S2] u fun e w'=>Below u.heap.size u w'/\e=.returned (.tuple #[.slice none 0 0,.bool false])));clear V a3 hy hK a2 a7 a4 hst a9 ay a0 I hlt W al Z ak J hry D G
     go_wp2_with (first
                 |(refine Qlw 70 101 bk (ok+i*4) Q07 H.out hr ?_;have bA:Below wr.heap.size wr (wr.alloc (.cells #[.int .i64 0,.slice none 0 0,.slice none 0 0,.slice none 0 0] 70)):=Qba _ _)
                 |((with_reducible refine Qgs 102 ?_);refine Qsa 70 10 102 wr.heap.size K Q07 (D01 wr 70 [.int .i64 0,.slice none 0 0,.slice none 0 0,.slice none 0 0]) H.out (by rfl) ao.out bA (le_refl _) ?_;intro w5 h7 z _;have ap:=D00 L z)
                 |(refine Qla 70 10 wr.heap.size Q07 h7 H.out ?_)
                 |(go_at_call 118;(with_reducible refine (C4.out _ (z.trans (Qba _ _ |>.mono z.size))).mono ?_);rintro e w6 ⟨b6,rfl⟩;have U:=D00 (D00 ap (Qba _ _)) b6))
     go_ret2;exact ⟨U,rfl⟩
    | some l =>
     have b0:=aP.out l hry;have aZ:=aO.out l hry;rw [hry] at G;have C4:=Qhd (fun (u:World) (hu:Below wr.heap.size wr u)=>(G.out u hu:Calls Tryz.prog 118 #[.agg K.toArray,.string S2] u fun e w'=>Below u.heap.size u w'/\∃ (a:Option Addr) (n c:Nat),e=.returned (.tuple #[.slice a n c,.bool true])/\Q05 Q0d 2 w' (.slice a n c) (pre (q++[UInt8.ofNat i]) l)));have ax:pre q (bdP v ls)++pre (q++[UInt8.ofNat i]) l=pre q (bdP v (ls++[l])):=by rw [Qo8,Qly,Q7a,az]
     have aL:=Qhd ax;have au:((pre q (bdP v ls)).length+(pre (q++[UInt8.ofNat i]) l).length)*32<=140737488355328:=by rw [Q2b (q++_)];have:=Hq.out;have:=aM.out;omega
     have aw:(pre q (bdP v ls)).length+(pre (q++[UInt8.ofNat i]) l).length<=maxLen:=by unfold maxLen;omega
     have aJ:=Qhd au;have aK:=Qhd aw;clear V a3 hy hK a2 a7 a4 hst a9 ay a0 I hlt W al Z ak J hry D G ax aZ au aw ai
     go_wp2_with (first
                 |(refine Qlw 70 101 bk (ok+i*4) Q07 H.out hr ?_;have bA:Below wr.heap.size wr (wr.alloc (.cells #[.int .i64 0,.slice none 0 0,.slice none 0 0,.slice none 0 0] 70)):=Qba _ _)
                 |((with_reducible refine Qgs 102 ?_);refine Qsa 70 10 102 wr.heap.size K Q07 (D01 wr 70 [.int .i64 0,.slice none 0 0,.slice none 0 0,.slice none 0 0]) H.out (by rfl) ao.out bA (le_refl _) ?_;intro w5 h7 z _;have ap:=D00 L z)
                 |(refine Qla 70 10 wr.heap.size Q07 h7 H.out ?_)
                 |(go_at_call 118;(with_reducible refine (C4.out _ (z.trans (Qba _ _ |>.mono z.size))).mono ?_);rintro e w6 ⟨b6,a6,n6,c6,rfl,h6⟩;have aq:=D00 (D00 z (Qba _ _)) b6;have U:=D00 L aq;have o6:=E.kept aq)
                 |(refine Q0x (o:=⟨some 118,_,_,_,_,_⟩) (by rfl) (.tmp 116) (.tmp 117) 150 (by rfl) elRt (by rfl) o6 (by rfl) h6 U.size aJ.out aK.out ?_;intro v7 w7 o7 g7 _;have b7:=U.grown g7 U.size aj;rw [aL.out] at o7))
     go_roundw
     case rel=>exact ⟨i+1,ls++[l],by omega,b0,o7,by go_num,b7⟩
     case measure=>simp [intOf];omega
   obtain rfl:i=16:=by omega
   have a0:ks.take 16=ks:=by rw [<-aH.out,take_length]
   rw [a0] at D;have ah:O=some (bdP v ls):=by rw [HO.out,D];rfl
   subst ah;obtain ⟨aS,aQ,rfl,_⟩:=E.form;have b1:=E.row;clear a0 D E
   go_wp2_with fail
   go_ret2;exact ⟨L,_,_,_,rfl,b1⟩
end
theorem Qaq (N:Nat)(L:N<=100000000000):∀ (n:Nat) (t:Nd),SizeOf.sizeOf t<=n->RtsC N t
 | 0,.mk kd pv p vv v kv ks,h=>by simp at h
 | n+1,.mk kd pv p vv v kv ks,h=>by
  intro q w U V;have T:∀ k∈ks,RtsC N k:=by
   intro k I;refine Qaq N L n k ?_;have:=List.sizeOf_lt_of_mem I;simp only [Nd.mk.sizeOf_spec] at h;omega
  obtain ⟨J,O,I,S⟩:=U.inv;obtain ⟨D,E,rfl,_,_⟩:=J.form;obtain ⟨G,H,rfl,_,_⟩:=O.form;obtain ⟨y,z,rfl,_,_⟩:=I.form;simp only [Q15] at V;by_cases h1:kd=1
  ·subst h1;exact Qff N L D G y p.length E v.length H ks.length z p v ks rfl rfl q w J O (by omega)
  by_cases h2:kd=2
  ·subst h2;exact Qfe N L D G y p.length E v.length H ks.length z p v ks rfl rfl q w J I S T (by omega)
  by_cases h3:kd=3/\ks.length=16
  ·obtain ⟨rfl,K⟩:=h3;have M:rts (.mk 3 (.slice D p.length E) p (.slice G v.length H) v (.slice y ks.length z) ks)=(rtsL ks).map fun l=>bdP v l:=by
    unfold rts;simp [K,bdP]
   rw [M];have:=Qfg N L D G y p.length E v.length H z p v ks rfl rfl K q w J O (by rw [<-K];exact I) S T (by omega);rw [<-K] at this;exact this
  have M:rts (.mk kd (.slice D p.length E) p (.slice G v.length H) v (.slice y ks.length z) ks)=if kd=0 then some [] else none:=by
   unfold rts;rw [if_neg (fun e=>e.1.elim h1 h2)];by_cases h0:kd=0
   ·rw [if_pos h0,if_pos h0]
   rw [if_neg h0,if_neg h1,if_neg (fun e=>h2 e.1),if_neg h3,if_neg h0]
  rw [M];exact Qjd D G y p.length E v.length H ks.length z p rfl q w J kd h1 h2 (fun e h=>h3 ⟨e,h⟩)
def OneR (r:Rt):Ty:=fun u w=>∃ g:Nat,u=.slice (some ⟨g,0,none⟩) 1 1/\Q05 Q0d 2 w u [r]
theorem OneR.mono (r:Rt):Mono (OneR r):=fun _ _ _ ⟨g,h,h2⟩ hb=>⟨g,h,h2.below hb⟩
theorem Q0y:Agg Tryz.prog 168 2:=⟨_,Tryz.underlying168,rfl,by kernel_rfl⟩
theorem Qdp (c:Nat)(l:List Rt)(k:Nat)(h:k<l.length):Q0m c (l.take (k+1))=Q0m c (l.take k)++[(l[k].1.drop c,l[k].2)]:=by
 unfold Q0m;rw [List.take_succ_eq_append_getElem h,List.map_append];rfl
theorem Q8p (a:Option Addr)(n cap:Nat)(l:List Rt)(hn:l.length=n)(c:Nat)(hc:∀ r∈l,c<=r.1.length)(hN:n<=1000000000)(aB:c<=1000000000)(w:World)(h:Q05 Q0d 2 w (.slice a n cap) l) :
  Calls Tryz.prog 144 #[.slice a n cap,.int .i64 (c:Int)] w fun e w'=>∃ (a':Option Addr) (c':Nat),e=.returned (.slice a' n c')/\Below w.heap.size w w'/\Q05 Q0d 2 w' (.slice a' n c') (Q0m c l):=by
 have J:=Qhd hn;have Hc:=Qhd hc;clear hn hc;go_enter Tryz.func144,Tryz.ntmps144
 go_wp2
 go_loopw [5,10] (fun av S wr=>∃ k:Nat,k<=n/\Q08 Q0d 2 168 wr w.heap.size av (Q0m c (l.take k))/\S=.int .i64 (k:Int)/\Below w.heap.size w wr) (fun _ S _=>n - (intOf S).toNat)
 case atStart=>exact ⟨0,by omega,Q08.nil _ _ _ _ _,rfl,Below.refl _ _⟩
 case round =>
  obtain ⟨k,aD,E,rfl,M⟩:=hrel;have H:(Q0m c (l.take k)).length=k:=by unfold Q0m;rw [List.length_map,length_take];have:=J.out;omega
  obtain ⟨ay,ax,rfl,_⟩:=E.form' k H;by_cases hlt:k<n
  ·have aC:(k:Int)<(n:Int):=by omega
   have N:k<l.length:=by rw [J.out];exact hlt
   obtain ⟨b,off,rfl,O⟩:=Q05.range (f:=Q0d) (size:=2) (fun _=>rfl) (h.below M) k N;have hst:=Qdp c l k N;have I:=Hc.out _ (getElem_mem N);obtain ⟨y,hy⟩:=Qe (l[k]);rw [<-hy] at O hst I;obtain ⟨z,D⟩:=y;dsimp only at hst I;have an:wr.rangeAt b (off+k*2) [.string ⟨z.toArray⟩,.string ⟨D.toArray⟩]:=O;have s1:=Qbn (P:=Tryz.prog) (t:=9) (by kernel_rfl) z c (c:Int) rfl I;have am:=Q08.lt E;have n0:∀ (g:Nat) (u:World),Blk 168 u g [.string ⟨z.toArray⟩,.string ⟨D.toArray⟩]->u.cell? ⟨g,0,none⟩=some (.string ⟨z.toArray⟩)/\u.cell? ⟨g,1,none⟩=some (.string ⟨D.toArray⟩):=fun g u Z=>⟨(Z.cell 0).trans rfl,(Z.cell 1).trans rfl⟩;have a0:((Q0m c (l.take k)).length+[(z.drop c,D)].length)*32<=140737488355328:=by rw [H];simp only [length_singleton];omega
   have G:(Q0m c (l.take k)).length+[(z.drop c,D)].length<=maxLen:=by rw [H];unfold maxLen;simp only [length_singleton];omega
   have ad:=Qhd hst;have N0:=Qhd n0;have aa:=Qhd a0;have ab:=Qhd G;clear hst n0 hy O H I hlt a0 G;have bA:Below wr.heap.size wr (wr.alloc (.cells #[.string ByteArray.empty,.string ByteArray.empty] 168)):=Qba _ _
   go_wp2_with (first
    |(refine Qlw 168 12 b (off+k*2) Q0y (by rfl) an ?_)
    |((with_reducible refine Qgs 13 ?_);refine Qsa 168 7 13 wr.heap.size [.string ⟨z.toArray⟩,.string ⟨D.toArray⟩] Q0y (D01 wr 168 [.string ByteArray.empty,.string ByteArray.empty]) (by rfl) (by rfl) (by intro u hu;simp at hu;rcases hu with rfl|rfl<;>rfl) bA (le_refl _) ?_;intro T h7 V _;have ai:=D00 M V;have o5:=E.kept V;obtain ⟨i0,i1⟩:=N0.out _ _ h7;have j0:=fun u:Ext T=>u.cell i0;have j1:=fun u:Ext T=>u.cell i1))
   refine Q03 T 9 (by kernel_rfl) (by kernel_rfl) (Below.refl _ _) ?_;simp only [take_succ_cons,take_zero,take_nil]
   iterate 8 (refine Q06 (by rfl) (fun K W=>?_);go_simp;refine W _ ?_;clear W K)
   refine Q0e 22 (OneR (z.drop c,D)) rfl (of_decide_eq_true rfl) (OneR.mono _) (fun U aE=>?_) ?_
   ·change Q00 U [] _ _;simp only [Q00];refine ⟨rfl,?_⟩;go_simp;exact ⟨Qba _ _,U.heap.size,rfl,D02 (f:=Q0d) (size:=2) (fun _=>rfl) U 168 [(z.drop c,D)] 1 rfl (by unfold maxLen;omega)⟩
   refine Q0i ?_;intro u2 G aG ak;change wpList _ _ _ [_,_] _ _;obtain ⟨az,rfl,ao⟩:=ak;have o2:=o5.kept G;have L:=D00 ai G;clear j0 j1 i0 i1
   go_wp2_with (refine Q0x (o:=⟨some 23,_,_,_,_,_⟩) (by rfl) (.tmp 14) (.tmp 22) 150 (by rfl) elRt (by rfl) o2 (by rfl) ao L.size aa.out ab.out ?_;intro v7 w7 o7 g7 _;have b7:=L.grown g7 L.size am;rw [<-ad.out] at o7)
   go_roundw
   case rel=>exact ⟨k+1,by omega,o7,by go_num,b7⟩
   case measure=>simp [intOf];omega
  obtain rfl:k=n:=by omega
  have a3:l.take k=l:=by rw [<-J.out,take_length]
  rw [a3] at E;have ap:=E.row;clear E H a3
  go_wp2
  go_ret;exact ⟨_,_,rfl,M,ap⟩
end Go.Proofs.YtbdmkfjgnjfjbaaGreat
