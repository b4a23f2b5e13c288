/- proof.Make. -/
import Derived.Test.YtbdmkfjgnjfjbaaGreatBlockListsK29
set_option linter.unusedSimpArgs false
set_option linter.unusedVariables false
set_option maxHeartbeats 4000000
set_option maxRecDepth 100000
open List (getElem_cons_succ getElem_cons_zero getElem_toArray length_cons length_nil mem_of_getElem? mem_singleton reverse_nil set_cons_succ set_cons_zero take_nil take_succ_cons take_zero)
open Nat (le_refl)
namespace Go.Proofs.YtbdmkfjgnjfjbaaGreat
open Go.RowKit
theorem Qpv (G:Nd)(ka:Option Addr)(kn kc:Nat)(aw:List UInt8)(cT:aw.length=kn)(w:World)(hI:IsNd w G)(c9:BgN G)(hk:Q02 w (.slice ka kn kc) aw) :
  Calls Tryz.prog 60 #[.agg (Q04 G).toArray,.slice ka kn kc] w (MkP (mkE G aw) (mkL G aw) w):=by
 obtain ⟨w1,aO⟩:=Qe (w.alloc (.cells (Q04 G).toArray 70));have z1:Blk 70 w1 w.heap.size (Q04 G):=by rw [aO];exact D01 w _ _
 have c8:Below w.heap.size w w1:=by rw [aO];exact Qba _ _
 have aM:w1.heap.size=w.heap.size+1:=by rw [aO,World.size_alloc]
 have c1:Calls Tryz.prog 75 #[.agg (Q04 G).toArray] w1 (WhP (rgt 0 G) (whN G) w1):=Qas G w1 (hI.kept c8) c9;have hb:=c9.b;have cR:=c9.f;clear c9;obtain ⟨R,hR⟩:=Qe (rgt 0 G);obtain ⟨E,hE⟩:=Qe (mkE G aw);obtain ⟨L,hL⟩:=Qe (mkL G aw);obtain ⟨K,h⟩:=Qe (Q04 G);have c3:K.length=4:=by rw [h];exact Q0b G
 rw [<-hE,<-hL];unfold mkE at hE;unfold mkL at hL;rw [cT] at hE hL;simp only [<-hR,<-h] at c1 z1 aO hE hL |-;have C1:=Qhd c1;have bf:=Qhd aO;have cq:=Qhd c3;have r1:=z1.all0;have HE:=Qhd hE;have HL:=Qhd hL;cases R with
 | false =>
  obtain rfl:E=1:=by rw [hE];rfl
  have aV:L=[]:=by rw [hL];rfl
  clear hL HL;subst aV;clear c1 hR h c3 aO hI hb cR hk aM hE HE;go_enter Tryz.func60,Tryz.ntmps60
  go_wp2_with (first
   |((with_reducible refine Qgl 15 ?_);refine Qlw 70 2 w.heap.size 0 Q07 cq.out (by rw [<-bf.out];exact r1) ?_)
   |(go_at_call 75;rw [<-bf.out];(with_reducible refine C1.out.mono ?_);rintro e w2 ⟨v2,eJ,rfl,r2,_,_,b2,_⟩;have bg:=D00 c8 b2;obtain ⟨x2,y2,rfl,_⟩:=r2.form))
  go_ret2;exact ⟨_,[],rfl,Q05.nil Q0p 1 _,fun q O=>absurd O (by simp),rfl,bg⟩
 | true =>
  by_cases h32:kn<=32
  ·obtain rfl:E=0:=by rw [hE];simp [h32]
   have aV:L=dn (Q15 G) G (Q0c aw):=by rw [hL];simp [h32]
   have et:((32:Int)<(kn:Int))=False:=eq_false (by omega);obtain ⟨H,hH⟩:=Qe (Q0c aw);have ch:∀ u,Below w.heap.size w u->Calls Tryz.prog 90 #[.slice ka kn kc] u fun e w'=>∃ v,e=.returned v/\Q08 b8 1 5 w' u.heap.size v H/\Below u.heap.size u w':=fun u hu=>by
    have h2:=hk.below hu;rw [<-cT] at h2 |-;rw [hH];exact Q5i ka kc aw u h2 (by omega)
   have bB:=Q52 aw;rw [<-hH] at bB aV;obtain ⟨l0,dU⟩:=Qqq G;have e9:=Qhd aV;have ed:=Qhd bB;have Ch:=Qhd ch;have HI:=Qhd hI;have dy:=Qhd dU;have HR:Hid (rgt 0 G=true):=Qhd hR.symm;have dB:=Qhd aM;have HK:=Qhd h;obtain ⟨N,hN⟩:=Qe ((whN G).length);have HN:=Qhd hN;have cP:N<=10000000000:=by rw [hN];exact Nat.le_trans (Qrk G) hb
   have e':=Qhd cP;clear c1 hR c3 aO hI hk aM hE HE hL HL aV hH bB ch dU cT h32 h hN cP;go_enter Tryz.func60,Tryz.ntmps60
   go_wp2_with (first
    |((with_reducible refine Qgl 15 ?_);refine Qlw 70 2 w.heap.size 0 Q07 cq.out (by rw [<-bf.out];exact r1) ?_)
    |(go_at_call 75;rw [<-bf.out];(with_reducible refine C1.out.mono ?_);rintro e w2 ⟨v2,all,rfl,r2,t2,m2,b2,f2⟩;have bg:=D00 c8 b2;obtain ⟨q0,eU,c4,_⟩:=Q6a (m2.trans ((if_pos rfl).trans dy.out));obtain ⟨n2,cX⟩:=Qe (all.length);have dM:0<all.length:=(by rw [c4];simp);have eX:(0:Int)<(n2:Int):=(by omega);obtain ⟨va,vc,rfl,_⟩:=r2.form' n2 cX.symm;obtain ⟨b,off,rfl,rr⟩:=Q05.range (f:=Q0p) (size:=1) (fun _=>rfl) r2 0 dM;have dI:all[0]=(q0,hdN G):=(by subst c4;rfl);rw [dI] at rr;have k2:w2.cell? ⟨b,off,none⟩=some q0:=rr 0 q0 rfl;have dh:(q0,hdN G)∈all:=(by rw [c4];exact List.mem_cons_self);obtain ⟨t3,l3,f3⟩:=t2 _ dh;dsimp only at t3 l3 f3;obtain ⟨qn,dW⟩:=Qe ((hdN G).length);obtain ⟨qa,qc,rfl,_⟩:=t3.form' qn dW.symm;have M2:=Qhd (m2.trans (if_pos rfl));have dz:=Qhd cX;have T2:=Qhd t2;have el:=Qhd dh;clear m2 t2 dW cX c4 dI rr dh dM;have z2:=z1.kept b2)
    |((with_reducible refine Qgl 30 ?_);refine Q0o (o:=⟨some 30,_,_,_,_,_⟩) (by rfl) 44 1 [(0,.tmp 29)] (by rfl) Q1i [(.slice qa qn qc,hdN G)] [.slice qa qn qc] (by rfl) (by rfl) (by rfl) (by omega) (by omega) ?_;intro w3 y3 _ b3;have cI:=D00 bg b3;have o3:=Blk.own (f:=Q0p) (size:=1) (l:=[(Value.slice qa qn qc,hdN G)]) (B:=w2.heap.size) y3 1 (fun _=>rfl) rfl (le_refl _) (by unfold maxLen;omega))
    |(go_at_call 90;(with_reducible refine (Ch.out _ cI).mono ?_);rintro e w4 ⟨d8,rfl,o4,b4⟩;have dF:=D00 cI b4))
   have bv:Below w2.heap.size w2 w4:=D00 b3 b4;have F:MkW w w2.heap.size (.slice (some ⟨b,off,none⟩) n2 vc) all d8 H G (.slice (some ⟨w2.heap.size,0,none⟩) 1 1) [(.slice qa qn qc,hdN G)] w4 :=
    ⟨dF,by rw [<-HK.out];exact z2.kept bv,r2.kept bv,fun q O=>(T2.out q O).1.kept bv,Q08.lower o4 b3.size,o3.kept b4,fun k hk=>⟨by have:=(f2 k hk).1;have:=dB.out;omega,(f2 k hk).2⟩,fun q O k hk=>⟨by have:=((T2.out q O).2.2 k hk).1;have:=dB.out;omega,((T2.out q O).2.2 k hk).2⟩,⟨z2.lt,bv.size⟩⟩
   have S:MkS w G H d8 L all [(.slice qa qn qc,hdN G)] G 0 H d8 (Q15 G) 0 :=
    ⟨le_refl _,HR.out,HI.out,hb,cR,fun h0=>⟨[],by unfold whN;rw [if_neg h0];simp⟩,by rw [dy.out];simp,SubB.refl _ _,ed.out,fun q O=>by rw [mem_singleton] at O;rw [O];exact el.out,by
     rw [e9.out];obtain ⟨kd,a1,a2,a3,a4,a5,a6⟩:=G;have:=Q49 (.mk kd a1 a2 a3 a4 a5 a6);obtain ⟨m,hm⟩:∃ m,Q15 (.mk kd a1 a2 a3 a4 a5 a6)=m+1:=⟨Q15 (.mk kd a1 a2 a3 a4 a5 a6) - 1,by omega⟩;rw [hm,dn];rfl,by simp only [List.length_singleton];omega⟩
   obtain ⟨B,hB⟩:=Qe (w2.heap.size);obtain ⟨fc,cY⟩:=Qe (Value.slice (some ⟨w2.heap.size,0,none⟩) 1 1);rw [<-cY,<-hB] at F;obtain ⟨d9,da,rfl,_⟩:=F.oh.form;have ee:=Qhd cY;clear hB o3 o4 b3 b4 bv dF cI y3 z2 k2 r1 z1 bg b2 r2 C1 Ch t3 f3 f2 cY
   go_loopw [8,9,10] (fun ov iv pv wr=>∃ (t:Nd) (i:Nat) (p:List UInt8) (ak:List (Value × List UInt8)) (n d:Nat),iv=.int .i64 (i:Int)/\MkW w B (.slice (some ⟨b,off,none⟩) n2 vc) all (.slice d9 H.length da) H t ov ak wr/\MkS w G H (.slice d9 H.length da) L all ak t i p pv n d) (fun _ iv _ _=>N - (intOf iv).toNat)
   case atStart=>exact ⟨G,0,H,_,_,_,rfl,by rw [<-ee.out];exact F,S⟩
   case round =>
    clear F S;obtain ⟨t,i,p,ak,n,d,rfl,F,S⟩:=hrel;obtain ⟨wo,rfl⟩:∃ y,y=wr:=⟨wr,rfl⟩;have dP:i<N:=by rw [HN.out];exact S.hi
    have cP:=e'.out;obtain ⟨kd,tv,path,vv,vb,kv,ks⟩:=t;obtain ⟨hp,hv,hk,dS⟩:=S.hI.inv;obtain ⟨tn,d5⟩:=Qe (path.length);obtain ⟨ta,tc,rfl,_⟩:=hp.form' tn d5.symm;obtain ⟨cg,ci,rfl,_⟩:=hv.form;obtain ⟨xn,dd⟩:=Qe (ks.length);obtain ⟨xa,xc,rfl,_⟩:=hk.form' xn dd.symm;have aY:Q02 wo u10 p:=S.hs wo F.oh.row;obtain ⟨pn,d2⟩:=Qe (p.length);obtain ⟨pa,pc,rfl,_⟩:=aY.form' pn d2.symm;have f6:ks.length<=1048576:=S.hf.inv.2.2.1;have f4:path.length<=1048576:=S.hf.inv.1;have be:=Qhd d5;have bW:=Qhd dd;have aS:=Qhd d2;have Hk:=Qhd hk;have bV:=Qhd dS;have Hp:=Qhd hp;have Z:=Qhd S;have cw:=Qhd dP;have M:Blk 70 wo w.heap.size [.int .i64 kd,.slice ta tn tc,.slice cg vb.length ci,.slice xa xn xc]:=F.z;clear hp hv hk dS d5 dd d2 S dP;go_upto_region 9 with fail
    obtain ⟨wk,c'⟩:=Qe (wo.alloc (.cells #[.int .i64 0,.slice none 0 0,.slice none 0 0,.slice none 0 0] 70));rw [<-c'];have bk:Below wo.heap.size wo wk:=by rw [c'];exact Qba _ _
    have D:Blk 70 wk wo.heap.size [.int .i64 0,.slice none 0 0,.slice none 0 0,.slice none 0 0]:=by rw [c'];exact D01 wo _ _
    obtain ⟨gk,cS⟩:=Qe (wo.heap.size);rw [<-cS] at D |-;have dO:B<=gk:=by rw [cS];exact F.hB.2
    have F:=F.kept bk;have aY:=aY.kept bk;have M:=M.kept bk;clear c' cS bk;obtain ⟨cm,aJ⟩:=Qe (com path p);have C1:Hid (∀ u:Ext wk,Calls Tryz.prog 91 #[.slice ta tn tc,.slice pa pn pc] u.val fun e w'=>e=.returned (.int .i64 ((cm:Nat):Int))/\Below u.val.heap.size u.val w'):=Qhd fun u=>by
     have h1:Q02 u.val (.slice ta tn tc) path:=(Hp.out.below F.hb).below u.bel;have h2:Q02 u.val (.slice pa pn pc) p:=aY.below u.bel;rw [be.out] at h1 |-;rw [aS.out] at h2 |-;rw [aJ];exact (Q5l ta pa tc pc path p u.val h1 h2).mono (fun e w' q=>by obtain ⟨rfl,m,rfl⟩:=q;exact ⟨rfl,bdr (Below.refl _ _) _⟩)
    have k0:=fun u:Ext wk=>u.cell ((M.cell 0).trans (show _=some (Value.int .i64 kd) from rfl));have k1:=fun u:Ext wk=>u.cell ((M.cell 1).trans (show _=some (Value.slice ta tn tc) from rfl));by_cases h2:kd=2
    ·subst h2;by_cases hc:com path p=path.length
     ·have aZ:rst 2 path p=some (0,p.drop path.length):=by unfold rst;rw [if_pos rfl,if_pos hc]
      obtain ⟨k,d1,aL,d3,dK,_⟩:=Q8u Z.out.hr aZ Z.out.hx;obtain ⟨dR,bA⟩:=dK rfl;have aK:k.kd≠0:=by rw [dR];decide
      have cU:=Q30 path p;rw [hc] at cU;obtain ⟨I,J,rfl,az⟩:=Q05.range Q0b Hk.out 0 (by rw [bA];exact Nat.zero_lt_one);have dQ:ks[0]'(by rw [bA];exact Nat.zero_lt_one)=k:=by subst bA;rfl
      rw [dQ,Nat.zero_mul,Nat.add_zero] at az;obtain rfl:xn=1:=by rw [bW.out,bA];rfl
      have bE:Q02 wk (.slice pa p.length pc) p:=by rw [<-aS.out];exact aY
      obtain ⟨a5,c5,bT,aB⟩:=Qbm bE path.length cU.2 (tn:Int) (by rw [be.out]);rw [<-aS.out,<-be.out] at bT aB;obtain ⟨m5,bC⟩:=Qe (pn - tn);rw [<-bC] at bT aB;obtain ⟨⟨xv,xt⟩,d',hX,S',cW⟩:=Z.out.go aZ aL aK (by rw [<-be.out];exact aB) M2.out;have aH:=(bV.out k (mem_of_getElem? aL));have bl:=Qhd aH.one;have er:((cm:Int)==(tn:Int))=true:=by rw [beq_iff_eq];rw [aJ,be.out];omega
      obtain ⟨ij,aX⟩:=Qe (i+1+szL (ks.take 0));rw [<-aX] at hX S';have bz:ij=i+1:=by rw [aX,take_zero,szL]
      have ay:ij<all.length:=(List.getElem?_eq_some_iff.1 hX).1;have HX:=Qhd hX;have cv:=Qhd (mem_of_getElem? hX);have cp:Hid (i<ij):=Qhd (by omega);have co:=Qhd bz;have ex:I<w.heap.size:=by
       have h0:=az 0 (.int .i64 k.kd) (by cases k;rfl);exact World.block_lt_of_cell? w _ h0
      obtain ⟨kk,eB,V,eC,W,eA,U⟩:=k;obtain rfl:kk=3:=dR;obtain ⟨j1,j2,j3,_⟩:=aH.inv;obtain ⟨aa,ab,rfl,_⟩:=j1.form;obtain ⟨ac,kvc,rfl,_⟩:=j2.form;obtain ⟨a9,a',rfl,_⟩:=j3.form;change w.rangeAt I J [.int .i64 3,.slice aa V.length ab,.slice ac W.length kvc,.slice a9 U.length a'] at az;have k3:=fun u:Ext wk=>u.cell ((M.cell 3).trans (show _=some (Value.slice (some ⟨I,J,none⟩) 1 xc) from rfl));clear aJ hc aZ d3 dK aK bA dQ cU bC aL cW aH j1 j2 j3 aX bz hX aB bE;refine Q03 wk 13 (by kernel_rfl) (by kernel_rfl) (Below.refl _ _) ?_;simp only [take_succ_cons,take_zero,take_nil]
      iterate 7 (refine Q06 (by rfl) (fun K h=>?_);go_simp;refine h _ ?_;clear h K)
      (refine Q06 (by rfl) (fun K h=>?_);go_simp;first|(refine h _ ?_;clear h K)|(apply Exists.intro;refine ⟨fun _=>?_,h _ ?_⟩;exact C1.out _;clear h K))
      iterate 5 (refine Q06 (by rfl) (fun K h=>?_);go_simp;refine h _ ?_;clear h K)
      refine Q0i ?_;intro u2 a7;simp only [reverse_nil,Q00];change wpList _ _ _ [_] _ _;have F:=F.kept a7;have M:=M.kept a7;have D:=D.kept a7;clear k0 k1 k3
      go_wp2_with fail
      have bn:KidS ⟨w.heap.size,3,none⟩ ⟨w.heap.size,1,none⟩ (.slice (some ⟨I,J,none⟩) 1 xc) (.slice ta tn tc) I J [.int .i64 3,.slice aa V.length ab,.slice ac W.length kvc,.slice a9 U.length a'] u2:=⟨M.cell 3,M.cell 1,fun j v hv=>(F.hb.cell (World.block_lt_of_cell? w _ (az j v hv))).trans (az j v hv)⟩;have k3:∀ u:In (KidS ⟨w.heap.size,3,none⟩ ⟨w.heap.size,1,none⟩ (.slice (some ⟨I,J,none⟩) 1 xc) (.slice ta tn tc) I J [.int .i64 3,.slice aa V.length ab,.slice ac W.length kvc,.slice a9 U.length a']),u.val.cell? ⟨w.heap.size,3,none⟩=some (.slice (some ⟨I,J,none⟩) 1 xc):=fun u=>u.held.1;have k1:∀ u:In (KidS ⟨w.heap.size,3,none⟩ ⟨w.heap.size,1,none⟩ (.slice (some ⟨I,J,none⟩) 1 xc) (.slice ta tn tc) I J [.int .i64 3,.slice aa V.length ab,.slice ac W.length kvc,.slice a9 U.length a']),u.val.cell? ⟨w.heap.size,1,none⟩=some (.slice ta tn tc):=fun u=>u.held.2.1;refine Q0w (KidS ⟨w.heap.size,3,none⟩ ⟨w.heap.size,1,none⟩ (.slice (some ⟨I,J,none⟩) 1 xc) (.slice ta tn tc) I J [.int .i64 3,.slice aa V.length ab,.slice ac W.length kvc,.slice a9 U.length a']) (by kernel_rfl) ?_;intro u3 d6;simp only [length_cons,length_nil,Nat.reduceAdd,List.replicate_succ,List.replicate_zero];have aI:Below u2.heap.size u2 u3:=by rw [d6];exact (Below.refl _ _).drew
      have bo:KidS ⟨w.heap.size,3,none⟩ ⟨w.heap.size,1,none⟩ (.slice (some ⟨I,J,none⟩) 1 xc) (.slice ta tn tc) I J [.int .i64 3,.slice aa V.length ab,.slice ac W.length kvc,.slice a9 U.length a'] u3:=by rw [d6];exact bn
      have F:=F.kept aI;have D:=D.kept aI;clear d6 bn aI;refine Qtk 0 (fun K h=>?_);simp only [Qzs] at h;go_simp;(first|refine h _ ?_|refine ⟨_,fun _=>rfl,h _ ?_⟩);clear h K;refine Qtk 1 (fun K h=>?_);simp only [Qzs] at h;go_simp;(first|refine h _ ?_|refine ⟨_,fun _=>rfl,h _ ?_⟩);clear h K;refine Qtk 2 (fun K h=>?_);simp only [Qzs] at h;go_simp;(first|refine h _ ?_|refine ⟨_,fun _=>rfl,h _ ?_⟩);clear h K
      (refine Qtk 3 (fun K h=>?_);simp only [Qzs] at h;refine Q77 (by rfl) 70 (.tmp 49) (by rfl) I (J) (by rfl) Q07 (by rfl) (fun u hu=>hu.2.2) (h _ ?_);clear h K;simp only [Act.put,getElem_toArray,getElem_cons_zero,getElem_cons_succ,List.setIfInBounds_toArray,set_cons_zero,set_cons_succ])
      refine Qtk 4 (fun K h=>?_);simp only [Qzs] at h;go_simp;(first|refine h _ ?_|refine ⟨_,fun _=>rfl,h _ ?_⟩);clear h K;refine Qtk 5 (fun K h=>?_);simp only [Qzs] at h;go_simp;(first|refine h _ ?_|refine ⟨_,fun _=>rfl,h _ ?_⟩);clear h K;refine Qtk 6 (fun K h=>?_);simp only [Qzs] at h;go_simp;(first|refine h _ ?_|refine ⟨_,fun _=>rfl,h _ ?_⟩);clear h K;refine Qtk 7 (fun K h=>?_);simp only [Qzs] at h;go_simp;(first|refine h _ ?_|refine ⟨_,fun _=>rfl,h _ ?_⟩);clear h K;refine Qtk 8 (fun K h=>?_);simp only [Qzs] at h;go_simp;(first|refine h _ ?_|refine ⟨_,fun _=>rfl,h _ ?_⟩);clear h K;refine Q0f 9 (by rfl) (by kernel_rfl) (fun K h=>?_);simp only [Qzs] at h;refine Q1j (by rfl) 70 (.tmp 11) (.tmp 50) (by rfl) gk [.int .i64 3,.slice aa V.length ab,.slice ac W.length kvc,.slice a9 U.length a'] (by rfl) (by rfl) Q07 D (by rfl) (by rfl) bl.out ?_;intro u4 z4 _ g4;have F4:=F.kid g4 D dO;have bp:=bo.grown g4 (by have:=F.hB.1;show w.heap.size≠gk;omega) (by have:=F.hB.1;show w.heap.size≠gk;omega) (by have:=F.hB.1;omega);refine h _ _ bp ?_;clear h K;simp only [Act.put,getElem_toArray,getElem_cons_zero,getElem_cons_succ,List.setIfInBounds_toArray,set_cons_zero,set_cons_succ];refine Qtk 10 (fun K h=>?_);simp only [Qzs] at h;go_simp;(first|refine h _ ?_|refine ⟨_,fun _=>rfl,h _ ?_⟩);clear h K;refine Q11 (by kernel_rfl) ?_;have F:=F4;have D:=z4;clear F4 z4 bo bp k3 k1 g4;have e0:u4.cell? ⟨gk,0,none⟩=some (.int .i64 3):=D.cell 0;have bx:(ij:Int)=(i:Int)+1:=by have:=co.out;omega
      have ew:IntKind.i64.wrap ((i:Int)+1)=(ij:Int):=by rw [<-bx];exact IntWalk.i64_in _ (by have h1:=S'.hi;have h2:=HN.out;omega)
      have es:(ij:Int)<(n2:Int):=by have:=dz.out;omega
      obtain ⟨b',eG,bw,aW⟩:=Q05.cells (f:=Q0p) (size:=1) (fun _=>rfl) F.ra ij ay;simp only [Option.some.injEq,Addr.mk.injEq,and_true] at bw;obtain ⟨rfl,rfl⟩:=bw;have bF:all[ij]=(xv,xt):=by have:=List.getElem?_eq_getElem ay;rw [HX.out] at this;exact (Option.some.inj this).symm
      rw [bF] at aW;have kx:u4.cell? ⟨b,off+ij,none⟩=some xv:=by have:=aW 0 xv rfl;simpa using this
      have tx:Q02 u4 xv xt:=F.ta _ cv.out;obtain ⟨aD,bG⟩:=Qe (xt.length);obtain ⟨bc,bd,rfl,_⟩:=tx.form' aD bG.symm;have S':=Qhd S';have bD:ak.length<=10000000000:=by have:=Z.out.hl;have:=Z.out.hn;have h3:=Q49 (.mk 2 (.slice ta tn tc) path (.slice cg vb.length ci) vb (.slice (some ⟨I,J,none⟩) 1 xc) ks);omega
      have Hol:=Qhd bD;have ec:=Qhd ay;clear aW bF bx ay bG bD
      go_wp2_with (first
       |((with_reducible refine Qgl 101 ?_);refine Q0o (o:=⟨some 101,_,_,_,_,_⟩) (by rfl) 44 1 [(0,.tmp 100)] (by rfl) Q1i [(.slice bc aD bd,xt)] [.slice bc aD bd] (by rfl) (by rfl) (by rfl) (by omega) (by omega) ?_;intro w5 _ r5 b5;have F:=F.kept b5;have D:=D.kept b5;have tx:=tx.kept b5)
       |((with_reducible refine Qgl 102 ?_);refine Q0t (o:=⟨some 102,_,_,_,_,_⟩) (by rfl) (.tmp 96) (.tmp 101) 44 (by rfl) Q1i (Q1h (ps:=[(Value.slice bc aD bd,xt)]) (fun q O=>by rw [mem_singleton] at O;rw [O];exact tx)) (by rfl) F.oo (by rfl) r5 F.hB.2 (by have:=Hol.out;simp only [length_cons,length_nil];omega) (by have:=Hol.out;simp only [length_cons,length_nil];unfold maxLen;omega) ?_;intro v6 w6 o6 g6 p6;have D:=D.grown g6 (F.oo.notT D (by decide));have F:=F.grew g6 o6)
       |((with_reducible refine Qgl 103 ?_);refine Qla 70 11 gk Q07 D (by rfl) ?_)
       |((with_reducible refine Qgs 103 ?_);refine Qsa 70 2 103 w.heap.size (Q04 (.mk 3 (.slice aa V.length ab) V (.slice ac W.length kvc) W (.slice a9 U.length a') U)) Q07 F.z (by rfl) (by rfl) bl.out (Below.refl _ _) (le_refl _) ?_;intro w7 z7 _ g7;have F:=F.turn (t':=.mk 3 (.slice aa V.length ab) V (.slice ac W.length kvc) W (.slice a9 U.length a') U) g7 z7))
      go_frame
      go_roundw
      case rel=>exact ⟨_,ij,_,_,_,_,rfl,F,S'.out⟩
      case measure=>have h1:=S'.out.hi;have h2:=HN.out;have h3:=cp.out;have h4:=cw.out;simp only [intOf,Int.toNat_natCast];omega
     have er:((cm:Int)==(tn:Int))=false:=by rw [beq_eq_false_iff_ne];rw [aJ,be.out];omega
     have aR:Hid (ak.map (·.2)=L):=Qhd (Z.out.stop (.inl (by unfold rst;rw [if_pos rfl,if_neg hc])));clear aJ hc;refine Q03 wk 13 (by kernel_rfl) (by kernel_rfl) (Below.refl _ _) ?_;simp only [take_succ_cons,take_zero,take_nil]
     iterate 7 (refine Q06 (by rfl) (fun K h=>?_);go_simp;refine h _ ?_;clear h K)
     (refine Q06 (by rfl) (fun K h=>?_);go_simp;first|(refine h _ ?_;clear h K)|(apply Exists.intro;refine ⟨fun _=>?_,h _ ?_⟩;exact C1.out _;clear h K))
     iterate 5 (refine Q06 (by rfl) (fun K h=>?_);go_simp;refine h _ ?_;clear h K)
     refine Q0i ?_;intro u2 a7;simp only [reverse_nil,Q00];change wpList _ _ _ [_] _ _;have F:=F.kept a7;have M:=M.kept a7;have D:=D.kept a7;have d0:u2.cell? ⟨w.heap.size,0,none⟩=some (.int .i64 2):=M.cell 0;have e0:u2.cell? ⟨gk,0,none⟩=some (.int .i64 0):=D.cell 0;clear k0 k1
     go_wp2_with fail
     go_ret2;exact ⟨_,ak,rfl,F.oo.row,fun q O=>F.ta q (Z.out.hm q O),aR.out,F.hb⟩
    have fb:(kd==2)=false:=by rw [beq_eq_false_iff_ne];exact h2
    by_cases h3:kd=3
    ·subst h3;cases p with
     | nil =>
      obtain rfl:pn=0:=by rw [aS.out];rfl
      have aR:Hid (ak.map (·.2)=L):=Qhd (Z.out.stop (.inl (by unfold rst;rw [if_neg (by decide),if_pos rfl])));clear aJ h2;refine Q03 wk 13 (by kernel_rfl) (by kernel_rfl) (Below.refl _ _) ?_;simp only [take_succ_cons,take_zero,take_nil]
      iterate 7 (refine Q06 (by rfl) (fun K h=>?_);go_simp;refine h _ ?_;clear h K)
      (refine Q06 (by rfl) (fun K h=>?_);go_simp;first|(refine h _ ?_;clear h K)|(apply Exists.intro;refine ⟨fun _=>?_,h _ ?_⟩;exact C1.out _;clear h K))
      iterate 5 (refine Q06 (by rfl) (fun K h=>?_);go_simp;refine h _ ?_;clear h K)
      refine Q0i ?_;intro u2 a7;simp only [reverse_nil,Q00];change wpList _ _ _ [_] _ _;have F:=F.kept a7;have M:=M.kept a7;have D:=D.kept a7;have d0:u2.cell? ⟨w.heap.size,0,none⟩=some (.int .i64 3):=M.cell 0;have e0:u2.cell? ⟨gk,0,none⟩=some (.int .i64 0):=D.cell 0;clear k0 k1
      go_wp2_with fail
      go_ret2;exact ⟨_,ak,rfl,F.oo.row,fun q O=>F.ta q (Z.out.hm q O),aR.out,F.hb⟩
     | cons x q =>
      have aZ:rst 3 path (x::q)=some (x.toNat,q):=by unfold rst;rw [if_neg (by decide),if_pos rfl]
      obtain ⟨k,d1,aL,d3,_,dJ⟩:=Q8u Z.out.hr aZ Z.out.hx;have db:x.toNat<16:=Z.out.hx x List.mem_cons_self;obtain rfl:xn=16:=by rw [bW.out];exact dJ rfl
      have dc:x.toNat<ks.length:=by rw [<-bW.out];exact db
      have dT:ks[x.toNat]=k:=by have:=List.getElem?_eq_getElem dc;rw [aL] at this;exact (Option.some.inj this).symm
      obtain ⟨I,J,rfl,az⟩:=Q05.range Q0b Hk.out x.toNat dc;rw [dT] at az;obtain ⟨b7,c7,fd,e2⟩:=Qdj Qem Hk.out x.toNat (by omega) (x.toNat:Int) rfl;have bE:Q02 wk (.slice pa (x::q).length pc) (x::q):=by rw [<-aS.out];exact aY
      obtain ⟨a5,c5,bT,aB⟩:=Qbm bE 1 (by simp) 1 rfl;rw [<-aS.out] at bT aB;have f0:0<pn:=by rw [aS.out];simp
      obtain ⟨pb,po,rfl,T⟩:=Q02.at aY 0 (by simp);have T:wk.cell? ⟨pb,po,none⟩=some (.int .u8 (x.toNat:Int)):=by simpa using T
      have f1:(0:Int)<(pn:Int):=by omega
      obtain ⟨m5,bC⟩:=Qe (pn - 1);rw [<-bC] at bT aB;have aH:=(bV.out k (mem_of_getElem? aL));have bl:=Qhd aH.one;have eT:=Qhd aH;obtain ⟨sz,dX⟩:=Qe (szL (ks.take x.toNat));have dC:=Qhd dX;have dY:szL ks<=10000000000:=by have:=Z.out.hb;simp only [Q15] at this;have:=Qh4 ks;omega
      have ei:=Qhd dY;have dA:=Qhd aZ;have dx:=Qhd aL;have eh:=Qhd aB;have cx:=Qhd az;have eg:=Qhd e2;have ej:=Qhd db;have dN:∀ y∈ks,Q15 y<=10000000000:=fun y hy=>by have:=Z.out.hb;simp only [Q15] at this;have:=Q1u hy;omega
      have eb:=Qhd dN;have ey:((x.toNat:Int)<16):=by omega
      have eY:i<=10000000000:=by have:=cw.out;omega
      obtain ⟨kk,eB,V,eC,W,eA,U⟩:=k;obtain ⟨j1,j2,j3,_⟩:=aH.inv;obtain ⟨aa,ab,rfl,_⟩:=j1.form;obtain ⟨ac,kvc,rfl,_⟩:=j2.form;obtain ⟨a9,a',rfl,_⟩:=j3.form;have k3:=fun u:Ext wk=>u.cell ((M.cell 3).trans (show _=some (Value.slice (some ⟨I,J,none⟩) 16 xc) from rfl));have bN:=fun u:Ext wk=>u.cell T;clear aJ aZ d3 dJ aL dT bC aH j1 j2 j3 aB bE dX dY az e2 dc db h2 dN;refine Q03 wk 13 (by kernel_rfl) (by kernel_rfl) (Below.refl _ _) ?_;simp only [take_succ_cons,take_zero,take_nil]
      iterate 7 (refine Q06 (by rfl) (fun K h=>?_);go_simp;refine h _ ?_;clear h K)
      (refine Q06 (by rfl) (fun K h=>?_);go_simp;first|(refine h _ ?_;clear h K)|(apply Exists.intro;refine ⟨fun _=>?_,h _ ?_⟩;exact C1.out _;clear h K))
      iterate 5 (refine Q06 (by rfl) (fun K h=>?_);go_simp;refine h _ ?_;clear h K)
      refine Q0i ?_;intro u2 a7;simp only [reverse_nil,Q00];change wpList _ _ _ [_] _ _;have F:=F.kept a7;have M:=M.kept a7;have D:=D.kept a7;have T:u2.cell? ⟨pb,po,none⟩=some (.int .u8 (x.toNat:Int)):=(a7.cell (World.block_lt_of_cell? wk _ T)).trans T;have d0:u2.cell? ⟨w.heap.size,0,none⟩=some (.int .i64 3):=M.cell 0;clear k0 k1 k3 bN
      go_wp2_with fail
      have k3:=fun u:Ext u2=>u.cell ((M.cell 3).trans (show _=some (Value.slice (some ⟨I,J,none⟩) 16 xc) from rfl));have bN:=fun u:Ext u2=>u.cell T;refine Q03 u2 8 (by kernel_rfl) (by kernel_rfl) (Below.refl _ _) ?_;simp only [take_succ_cons,take_zero,take_nil]
      iterate 8 (refine Q06 (by rfl) (fun K h=>?_);go_simp;refine h _ ?_;clear h K)
      refine Q0i ?_;intro u3 aI;have F:=F.kept aI;have M:=M.kept aI;have D:=D.kept aI;have T:u3.cell? ⟨pb,po,none⟩=some (.int .u8 (x.toNat:Int)):=(aI.cell (World.block_lt_of_cell? u2 _ T)).trans T;clear k3 bN d0;change Q00 u3 [] _ _;simp only [Q00,List.drop_succ_cons,List.drop_zero,List.drop_nil]
      try simp only [Act.put,Qzs]
      go_wp2_with fail
      have f5:(x.toNat:Int)=((x.toNat:Nat):Int):=rfl
      go_loopw [9,72] (fun iv mv ds=>∃ m:Nat,m<=x.toNat/\iv=.int .i64 ((i+szL (ks.take m):Nat):Int)/\mv=.int .i64 (m:Int)/\(MkW w B (.slice (some ⟨b,off,none⟩) n2 vc) all (.slice d9 H.length da) H (.mk 3 (.slice ta tn tc) path (.slice cg vb.length ci) vb (.slice (some ⟨I,J,none⟩) 16 xc) ks) u8 ak ds)/\Blk 70 ds gk [.int .i64 0,.slice none 0 0,.slice none 0 0,.slice none 0 0]/\ds.cell? ⟨pb,po,none⟩=some (.int .u8 (x.toNat:Int))) (fun _ mv _=>x.toNat - (intOf mv).toNat)
      case atStart=>exact ⟨0,Nat.zero_le _,by rw [take_zero,szL];rfl,rfl,F,D,T⟩
      case round =>
       clear F M D T;obtain ⟨m,hm,rfl,rfl,F,D,T⟩:=hrel;by_cases bB:m<x.toNat
       ·have eZ:(m:Int)<(x.toNat:Int):=by omega
        have dV:m<(ks.take x.toNat).length:=by rw [List.length_take];have:=bW.out;have:=ej.out;omega
        obtain ⟨yb,yo,rfl,df⟩:=Q05.range Q0b (eg.out.below F.hb) m dV;obtain ⟨y,hy⟩:∃ y,(ks.take x.toNat)[m]=y:=⟨_,rfl⟩;rw [hy] at df;have de:ks[m]?=some y:=by rw [<-hy,List.getElem_take,List.getElem?_eq_getElem]
        have ca:y∈ks:=mem_of_getElem? de;have HT:Hid (szL (ks.take (m+1))=szL (ks.take m)+szN y):=Qhd (by rw [List.take_add_one,de];exact Qbk _ y);have ev:szL (ks.take m)+szN y<=10000000000:=by have h1:=Qbj ks (m+1);rw [HT.out] at h1;have:=ei.out;omega
        have cs:∀ u,Below w.heap.size w u->Calls Tryz.prog 92 #[.agg (Q04 y).toArray] u fun e w'=>e=.returned (.int .i64 (szN y:Int))/\Below u.heap.size u w':=fun u hu=>Qh5 (SizeOf.sizeOf y) y (le_refl _) (eb.out y ca) u ((bV.out y ca).kept hu);have cA:=(bV.out y ca).one;obtain ⟨KY,c2⟩:=Qe (Q04 y);have cz:Hid (KY.length=4):=Qhd (by rw [c2];exact Q0b y);rw [<-c2] at df cA;simp only [<-c2] at cs;have ek:=Qhd cA;have Cs:=Qhd cs;obtain ⟨s0,d4⟩:=Qe (szL (ks.take m));obtain ⟨s1,aM⟩:=Qe (szN y);rw [<-d4,<-aM] at HT ev;rw [<-aM] at Cs;rw [<-d4];clear hy de ca c2 cs cA d4 aM dV bB hm
        go_wp2_with (first
         |((with_reducible refine Qgl 75 ?_);refine Qlw 70 74 yb (yo+m*4) Q07 cz.out df ?_)
         |((with_reducible refine Qgs 75 ?_);refine Qsa 70 13 75 wr.heap.size KY Q07 (old:=[.int .i64 0,.slice none 0 0,.slice none 0 0,.slice none 0 0]) (D01 wr _ _) cz.out (by rfl) ek.out (Qba wr _) (le_refl _) ?_;intro w5 y5 b5 _;have F:=F.kept b5;have D:=D.kept b5;have T:w5.cell? ⟨pb,po,none⟩=some (.int .u8 (x.toNat:Int)):=(b5.cell (World.block_lt_of_cell? wr _ T)).trans T)
         |((with_reducible refine Qgl 77 ?_);refine Qla 70 13 wr.heap.size Q07 y5 cz.out ?_)
         |(go_at_call 92;(with_reducible refine (Cs.out _ F.hb).mono ?_);rintro e w6 ⟨rfl,b6⟩;have F:=F.kept b6;have D:=D.kept b6;have T:w6.cell? ⟨pb,po,none⟩=some (.int .u8 (x.toNat:Int)):=(b6.cell (World.block_lt_of_cell? w5 _ T)).trans T))
        go_roundw
        case rel=>exact ⟨m+1,by omega,by rw [HT.out];go_num,by go_num,F,D,T⟩
        case measure=>simp [intOf];omega
       obtain rfl:m=x.toNat:=by omega
       rw [<-dC.out]
       go_wp2_with fail
       have f7:(x.toNat:Int)<16:=ey;have bn:KidS ⟨w.heap.size,3,none⟩ ⟨pb,po,none⟩ (.slice (some ⟨I,J,none⟩) 16 xc) (.int .u8 (x.toNat:Int)) I (J+x.toNat*4) [.int .i64 kk,.slice aa V.length ab,.slice ac W.length kvc,.slice a9 U.length a'] wr:=⟨F.z.cell 3,T,fun j v hv=>(F.hb.cell (World.block_lt_of_cell? w _ (cx.out j v hv))).trans (cx.out j v hv)⟩;have k3:∀ u:In (KidS ⟨w.heap.size,3,none⟩ ⟨pb,po,none⟩ (.slice (some ⟨I,J,none⟩) 16 xc) (.int .u8 (x.toNat:Int)) I (J+x.toNat*4) [.int .i64 kk,.slice aa V.length ab,.slice ac W.length kvc,.slice a9 U.length a']),u.val.cell? ⟨w.heap.size,3,none⟩=some (.slice (some ⟨I,J,none⟩) 16 xc):=fun u=>u.held.1;have bN:∀ u:In (KidS ⟨w.heap.size,3,none⟩ ⟨pb,po,none⟩ (.slice (some ⟨I,J,none⟩) 16 xc) (.int .u8 (x.toNat:Int)) I (J+x.toNat*4) [.int .i64 kk,.slice aa V.length ab,.slice ac W.length kvc,.slice a9 U.length a']),u.val.cell? ⟨pb,po,none⟩=some (.int .u8 (x.toNat:Int)):=fun u=>u.held.2.1;have eu:pb≠gk:=by
        intro e;subst e;have:=(D.cell po).symm.trans T;rcases po with _|_|_|_|po<;>simp at this
       have ex:I<w.heap.size:=World.block_lt_of_cell? w _ (cx.out 0 (.int .i64 kk) rfl);refine Q0w (KidS ⟨w.heap.size,3,none⟩ ⟨pb,po,none⟩ (.slice (some ⟨I,J,none⟩) 16 xc) (.int .u8 (x.toNat:Int)) I (J+x.toNat*4) [.int .i64 kk,.slice aa V.length ab,.slice ac W.length kvc,.slice a9 U.length a']) (by kernel_rfl) ?_;intro e3 d7;simp only [length_cons,length_nil,Nat.reduceAdd,List.replicate_succ,List.replicate_zero];have cQ:Below wr.heap.size wr e3:=by rw [d7];exact (Below.refl _ _).drew
       have bo:KidS ⟨w.heap.size,3,none⟩ ⟨pb,po,none⟩ (.slice (some ⟨I,J,none⟩) 16 xc) (.int .u8 (x.toNat:Int)) I (J+x.toNat*4) [.int .i64 kk,.slice aa V.length ab,.slice ac W.length kvc,.slice a9 U.length a'] e3:=by rw [d7];exact bn
       have F:=F.kept cQ;have D:=D.kept cQ;clear d7 bn cQ T;refine Qtk 0 (fun K h=>?_);simp only [Qzs] at h;go_simp;(first|refine h _ ?_|refine ⟨_,fun _=>rfl,h _ ?_⟩);clear h K;refine Qtk 1 (fun K h=>?_);simp only [Qzs] at h;go_simp;(first|refine h _ ?_|refine ⟨_,fun _=>rfl,h _ ?_⟩);clear h K;refine Qtk 2 (fun K h=>?_);simp only [Qzs] at h;go_simp;(first|refine h _ ?_|refine ⟨_,fun _=>rfl,h _ ?_⟩);clear h K;refine Qtk 3 (fun K h=>?_);simp only [Qzs] at h;go_simp;(first|refine h _ ?_|refine ⟨_,fun _=>rfl,h _ ?_⟩);clear h K;refine Qtk 4 (fun K h=>?_);simp only [Qzs] at h;go_simp;(first|refine h _ ?_|refine ⟨_,fun _=>rfl,h _ ?_⟩);clear h K;refine Qtk 5 (fun K h=>?_);simp only [Qzs] at h;go_simp;(first|refine h _ ?_|refine ⟨_,fun _=>rfl,h _ ?_⟩);clear h K
       (refine Qtk 6 (fun K h=>?_);simp only [Qzs] at h;refine Q77 (by rfl) 70 (.tmp 86) (by rfl) I (J+x.toNat*4) (by rfl) Q07 (by rfl) (fun u hu=>hu.2.2) (h _ ?_);clear h K;simp only [Act.put,getElem_toArray,getElem_cons_zero,getElem_cons_succ,List.setIfInBounds_toArray,set_cons_zero,set_cons_succ])
       refine Qtk 7 (fun K h=>?_);simp only [Qzs] at h;go_simp;(first|refine h _ ?_|refine ⟨_,fun _=>rfl,h _ ?_⟩);clear h K;refine Qtk 8 (fun K h=>?_);simp only [Qzs] at h;go_simp;(first|refine h _ ?_|refine ⟨_,fun _=>rfl,h _ ?_⟩);clear h K;refine Q0f 9 (by rfl) (by kernel_rfl) (fun K h=>?_);simp only [Qzs] at h;refine Q1j (by rfl) 70 (.tmp 11) (.tmp 87) (by rfl) gk [.int .i64 kk,.slice aa V.length ab,.slice ac W.length kvc,.slice a9 U.length a'] (by rfl) (by rfl) Q07 D (by rfl) (by rfl) bl.out ?_;intro cf z4 _ g4;have F4:=F.kid g4 D dO;have bp:=bo.grown g4 (by have:=F.hB.1;show w.heap.size≠gk;omega) (by show pb≠gk;exact eu) (by have:=F.hB.1;omega);refine h _ _ bp ?_;clear h K;simp only [Act.put,getElem_toArray,getElem_cons_zero,getElem_cons_succ,List.setIfInBounds_toArray,set_cons_zero,set_cons_succ];refine Qtk 10 (fun K h=>?_);simp only [Qzs] at h;go_simp;(first|refine h _ ?_|refine ⟨_,fun _=>rfl,h _ ?_⟩);clear h K;refine Q11 (by kernel_rfl) ?_;have F:=F4;have D:=z4;clear F4 z4 bo bp k3 bN g4;by_cases aK:kk=0
       ·have aR:Hid (ak.map (·.2)=L):=Qhd (Z.out.stop (.inr ⟨x.toNat,q,_,dA.out,dx.out,aK⟩));subst aK;have e0:cf.cell? ⟨gk,0,none⟩=some (.int .i64 0):=D.cell 0
        go_wp2_with fail
        go_ret2;exact ⟨_,ak,rfl,F.oo.row,fun q O=>F.ta q (Z.out.hm q O),aR.out,F.hb⟩
       have nk:(kk==0)=false:=by rw [beq_eq_false_iff_ne];exact aK
       obtain ⟨⟨xv,xt⟩,d',hX,S',cW⟩:=Z.out.go dA.out dx.out aK eh.out M2.out;obtain ⟨ij,aX⟩:=Qe (i+1+szL (ks.take x.toNat));rw [<-aX] at hX S';have bz:ij=i+1+sz:=by rw [aX,dC.out]
       have ay:ij<all.length:=(List.getElem?_eq_some_iff.1 hX).1;have HX:=Qhd hX;have cv:=Qhd (mem_of_getElem? hX);have cp:Hid (i<ij):=Qhd (by omega);have co:=Qhd bz;clear aK cW aX bz hX;have e0:cf.cell? ⟨gk,0,none⟩=some (.int .i64 kk):=D.cell 0;have bx:(ij:Int)=(i:Int)+(sz:Int)+1:=by have:=co.out;omega
       have ew:IntKind.i64.wrap ((i:Int)+(sz:Int)+1)=(ij:Int):=by rw [<-bx];exact IntWalk.i64_in _ (by have h1:=S'.hi;have h2:=HN.out;omega)
       have es:(ij:Int)<(n2:Int):=by have:=dz.out;omega
       obtain ⟨b',eG,bw,aW⟩:=Q05.cells (f:=Q0p) (size:=1) (fun _=>rfl) F.ra ij ay;simp only [Option.some.injEq,Addr.mk.injEq,and_true] at bw;obtain ⟨rfl,rfl⟩:=bw;have bF:all[ij]=(xv,xt):=by have:=List.getElem?_eq_getElem ay;rw [HX.out] at this;exact (Option.some.inj this).symm
       rw [bF] at aW;have kx:cf.cell? ⟨b,off+ij,none⟩=some xv:=by have:=aW 0 xv rfl;simpa using this
       have tx:Q02 cf xv xt:=F.ta _ cv.out;obtain ⟨aD,bG⟩:=Qe (xt.length);obtain ⟨bc,bd,rfl,_⟩:=tx.form' aD bG.symm;have S':=Qhd S';have bD:ak.length<=10000000000:=by have:=Z.out.hl;have:=Z.out.hn;have h3:=Q49 (.mk 3 (.slice ta tn tc) path (.slice cg vb.length ci) vb (.slice (some ⟨I,J,none⟩) 16 xc) ks);omega
       have Hol:=Qhd bD;have ec:=Qhd ay;clear aW bF bx ay bG bD
       go_wp2_with (first
        |((with_reducible refine Qgl 101 ?_);refine Q0o (o:=⟨some 101,_,_,_,_,_⟩) (by rfl) 44 1 [(0,.tmp 100)] (by rfl) Q1i [(.slice bc aD bd,xt)] [.slice bc aD bd] (by rfl) (by rfl) (by rfl) (by omega) (by omega) ?_;intro w5 _ r5 b5;have F:=F.kept b5;have D:=D.kept b5;have tx:=tx.kept b5)
        |((with_reducible refine Qgl 102 ?_);refine Q0t (o:=⟨some 102,_,_,_,_,_⟩) (by rfl) (.tmp 96) (.tmp 101) 44 (by rfl) Q1i (Q1h (ps:=[(Value.slice bc aD bd,xt)]) (fun q O=>by rw [mem_singleton] at O;rw [O];exact tx)) (by rfl) F.oo (by rfl) r5 F.hB.2 (by have:=Hol.out;simp only [length_cons,length_nil];omega) (by have:=Hol.out;simp only [length_cons,length_nil];unfold maxLen;omega) ?_;intro v6 w6 o6 g6 p6;have D:=D.grown g6 (F.oo.notT D (by decide));have F:=F.grew g6 o6)
        |((with_reducible refine Qgl 103 ?_);refine Qla 70 11 gk Q07 D (by rfl) ?_)
        |((with_reducible refine Qgs 103 ?_);refine Qsa 70 2 103 w.heap.size (Q04 (.mk kk (.slice aa V.length ab) V (.slice ac W.length kvc) W (.slice a9 U.length a') U)) Q07 F.z (by rfl) (by rfl) bl.out (Below.refl _ _) (le_refl _) ?_;intro w7 z7 _ g7;have F:=F.turn (t':=.mk kk (.slice aa V.length ab) V (.slice ac W.length kvc) W (.slice a9 U.length a') U) g7 z7))
       go_frame
       go_roundw
       case rel=>exact ⟨_,ij,_,_,_,_,rfl,F,S'.out⟩
       case measure=>have h1:=S'.out.hi;have h2:=HN.out;have h3:=cp.out;have h4:=cw.out;simp only [intOf,Int.toNat_natCast];omega
    have n3:(kd==3)=false:=by rw [beq_eq_false_iff_ne];exact h3
    have aR:Hid (ak.map (·.2)=L):=Qhd (Z.out.stop (.inl (by unfold rst;rw [if_neg h2,if_neg h3])));clear aJ h2 h3;refine Q03 wk 13 (by kernel_rfl) (by kernel_rfl) (Below.refl _ _) ?_;simp only [take_succ_cons,take_zero,take_nil]
    iterate 7 (refine Q06 (by rfl) (fun K h=>?_);go_simp;refine h _ ?_;clear h K)
    (refine Q06 (by rfl) (fun K h=>?_);go_simp;first|(refine h _ ?_;clear h K)|(apply Exists.intro;refine ⟨fun _=>?_,h _ ?_⟩;exact C1.out _;clear h K))
    iterate 5 (refine Q06 (by rfl) (fun K h=>?_);go_simp;refine h _ ?_;clear h K)
    refine Q0i ?_;intro u2 a7;simp only [reverse_nil,Q00];change wpList _ _ _ [_] _ _;have F:=F.kept a7;have M:=M.kept a7;have D:=D.kept a7;have d0:u2.cell? ⟨w.heap.size,0,none⟩=some (.int .i64 kd):=M.cell 0;have e0:u2.cell? ⟨gk,0,none⟩=some (.int .i64 0):=D.cell 0;clear k0 k1
    go_wp2_with fail
    go_ret2;exact ⟨_,ak,rfl,F.oo.row,fun q O=>F.ta q (Z.out.hm q O),aR.out,F.hb⟩
  obtain rfl:E=3:=by rw [hE];simp [h32]
  have aV:L=[]:=by rw [hL];simp [h32]
  clear hL HL;have et:(32:Int)<(kn:Int):=by omega
  subst aV;clear c1 hR h c3 aO hI hb cR hk aM hE HE;go_enter Tryz.func60,Tryz.ntmps60
  go_wp2_with (first
   |((with_reducible refine Qgl 15 ?_);refine Qlw 70 2 w.heap.size 0 Q07 cq.out (by rw [<-bf.out];exact r1) ?_)
   |(go_at_call 75;rw [<-bf.out];(with_reducible refine C1.out.mono ?_);rintro e w2 ⟨v2,eJ,rfl,r2,_,_,b2,_⟩;have bg:=D00 c8 b2;obtain ⟨x2,y2,rfl,_⟩:=r2.form))
  go_ret2;exact ⟨_,[],rfl,Q05.nil Q0p 1 _,fun q O=>absurd O (by simp),rfl,bg⟩
end Go.Proofs.YtbdmkfjgnjfjbaaGreat
