/- proof.Make. -/
import Derived.Test.YtbdmkfjgnjfjbaaGreatLazyServesK38
set_option linter.unusedSimpArgs false
set_option linter.unusedVariables false
set_option maxHeartbeats 4000000
set_option maxRecDepth 100000
namespace Go.Proofs.YtbdmkfjgnjfjbaaGreat
open Go.RowKit
theorem Qjw (t0:Nd)(ka:Option Addr)(kn kc:Nat)(key:List UInt8)(hkn:key.length=kn)(w:World)(hI:IsNd w t0)(hbg:BgN t0)(hk:Bytes w (.slice ka kn kc) key) :
  Calls Tryz.prog 60 #[.agg (Q03 t0).toArray,.slice ka kn kc] w (MkP (mkE t0 key) (mkL t0 key) w):=by
 obtain ⟨w1,hw1⟩:∃ w1,w1=w.alloc (.cells (Q03 t0).toArray 70):=⟨_,rfl⟩
 have z1:Blk 70 w1 w.heap.size (Q03 t0):=by rw [hw1];exact Blk.new w _ _
 have hbel:Below w.heap.size w w1:=by rw [hw1];exact Qba _ _
 have hs1:w1.heap.size=w.heap.size+1:=by rw [hw1,World.size_alloc]
 have c1:Calls Tryz.prog 75 #[.agg (Q03 t0).toArray] w1 (WhP (rgt 0 t0) (whN t0) w1):=Q7a t0 w1 (hI.kept hbel) hbg
 have hb:=hbg.b
 have hfn:=hbg.f
 clear hbg
 obtain ⟨R,hR⟩:∃ R,R=rgt 0 t0:=⟨_,rfl⟩
 obtain ⟨E,hE⟩:∃ E,E=mkE t0 key:=⟨_,rfl⟩
 obtain ⟨L,hL⟩:∃ L,L=mkL t0 key:=⟨_,rfl⟩
 obtain ⟨K,hK⟩:∃ K,K=Q03 t0:=⟨_,rfl⟩
 have hKl:K.length=4:=by rw [hK];exact Q06 t0
 rw [←hE,←hL]
 unfold mkE at hE
 unfold mkL at hL
 rw [hkn] at hE hL
 simp only [←hR,←hK] at c1 z1 hw1 hE hL ⊢
 have C1:=Qhd c1
 have Hw1:=Qhd hw1
 have HKl:=Qhd hKl
 have r1:=z1.all0
 have HE:=Qhd hE
 have HL:=Qhd hL
 cases R with
 | false =>
  obtain rfl:E=1:=by rw [hE];rfl
  have hL':L=[]:=by rw [hL];rfl
  clear hL HL
  subst hL'
  clear c1 hR hK hKl hw1 hI hb hfn hk hs1 hE HE
  go_enter Tryz.func60,Tryz.ntmps60
  go_wp2_with (first
   |((with_reducible refine Qgl 15 ?_);refine Qlw 70 2 w.heap.size 0 Q05 HKl.out (by rw [←Hw1.out];exact r1) ?_)
   |(go_at_call 75;rw [←Hw1.out];(with_reducible refine C1.out.mono ?_);rintro e w2 ⟨v2,ps2,rfl,r2,_,_,b2,_⟩;have bb2:=Below.then hbel b2;obtain ⟨x2,y2,rfl,_⟩:=r2.form))
  go_ret2
  exact ⟨_,[],rfl,RowOf.nil tcell 1 _,fun q hq=>absurd hq (by simp),rfl,bb2⟩
 | true =>
  by_cases h32:kn≤32
  ·obtain rfl:E=0:=by rw [hE];simp [h32]
   have hL':L=dn (bulkN t0) t0 (Q0d key):=by rw [hL];simp [h32]
   have hki:((32:Int)<(kn:Int))=False:=eq_false (by omega)
   obtain ⟨H,hH⟩:∃ H,H=Q0d key:=⟨_,rfl⟩
   have ch:∀ u,Below w.heap.size w u→Calls Tryz.prog 90 #[.slice ka kn kc] u fun e w'=>∃ v,e=.returned v∧OwnOf b8 1 5 w' u.heap.size v H∧Below u.heap.size u w':=fun u hu=>by
    have h2:=hk.below hu
    rw [←hkn] at h2 ⊢
    rw [hH];exact Q7j ka kc key u h2 (by omega)
   have hlt:=Q4g key
   rw [←hH] at hlt hL'
   obtain ⟨l0,hl0⟩:=whN_hd t0
   have HL':=Qhd hL'
   have Hlt:=Qhd hlt
   have Ch:=Qhd ch
   have HI:=Qhd hI
   have Hl0:=Qhd hl0
   have HR:Hid (rgt 0 t0=true):=Qhd hR.symm
   have Hs1:=Qhd hs1
   have HK:=Qhd hK
   obtain ⟨N,hN⟩:∃ N,N=(whN t0).length:=⟨_,rfl⟩
   have HN:=Qhd hN
   have hNb:N≤10000000000:=by rw [hN];exact Nat.le_trans (Qks t0) hb
   have HNb:=Qhd hNb
   clear c1 hR hKl hw1 hI hk hs1 hE HE hL HL hL' hH hlt ch hl0 hkn h32 hK hN hNb
   go_enter Tryz.func60,Tryz.ntmps60
   go_wp2_with (first
    |((with_reducible refine Qgl 15 ?_);refine Qlw 70 2 w.heap.size 0 Q05 HKl.out (by rw [←Hw1.out];exact r1) ?_)
    |(go_at_call 75;rw [←Hw1.out];(with_reducible refine C1.out.mono ?_);rintro e w2 ⟨v2,all,rfl,r2,t2,m2,b2,f2⟩;have bb2:=Below.then hbel b2;obtain ⟨q0,all',hall,_⟩:=Q41 (m2.trans ((if_pos rfl).trans Hl0.out));obtain ⟨n2,hn2⟩:∃ n,n=all.length:=⟨_,rfl⟩;have hal0:0<all.length:=(by rw [hall];simp);have h0n:(0:Int)<(n2:Int):=(by omega);obtain ⟨va,vc,rfl,_⟩:=r2.form' n2 hn2.symm;obtain ⟨b,off,rfl,rr⟩:=RowOf.range (f:=tcell) (size:=1) (fun _=>rfl) r2 0 hal0;have h0e:all[0]=(q0,hdN t0):=(by subst hall;rfl);rw [h0e] at rr;have k2:w2.cell? ⟨b,off,none⟩=some q0:=rr 0 q0 rfl;have mem0:(q0,hdN t0)∈all:=(by rw [hall];exact List.mem_cons_self);obtain ⟨t3,l3,f3⟩:=t2 _ mem0;dsimp only at t3 l3 f3;obtain ⟨qn,hqn⟩:∃ n,n=(hdN t0).length:=⟨_,rfl⟩;obtain ⟨qa,qc,rfl,_⟩:=t3.form' qn hqn.symm;have M2:=Qhd (m2.trans (if_pos rfl));have Hn2:=Qhd hn2;have T2:=Qhd t2;have Mem0:=Qhd mem0;clear m2 t2 hqn hn2 hall h0e rr mem0 hal0;have z2:=z1.kept b2)
    |((with_reducible refine Qgl 30 ?_);refine Q0s (o:=⟨some 30,_,_,_,_,_⟩) (by rfl) 44 1 [(0,.tmp 29)] (by rfl) elText [(.slice qa qn qc,hdN t0)] [.slice qa qn qc] (by rfl) (by rfl) (by rfl) (by omega) (by omega) ?_;intro w3 y3 _ b3;have bb3:=Below.then bb2 b3;have o3:=Blk.own (f:=tcell) (size:=1) (l:=[(Value.slice qa qn qc,hdN t0)]) (B:=w2.heap.size) y3 1 (fun _=>rfl) rfl (Nat.le_refl _) (by unfold maxLen;omega))
    |(go_at_call 90;(with_reducible refine (Ch.out _ bb3).mono ?_);rintro e w4 ⟨hv0,rfl,o4,b4⟩;have bb4:=Below.then bb3 b4))
   have hb24:Below w2.heap.size w2 w4:=Below.then b3 b4
   have F:MkW w w2.heap.size (.slice (some ⟨b,off,none⟩) n2 vc) all hv0 H t0 (.slice (some ⟨w2.heap.size,0,none⟩) 1 1) [(.slice qa qn qc,hdN t0)] w4 :=
    ⟨bb4,by rw [←HK.out];exact z2.kept hb24,r2.kept hb24,fun q hq=>(T2.out q hq).1.kept hb24,OwnOf.lower o4 b3.size,o3.kept b4,fun k hk=>⟨by have:=(f2 k hk).1;have:=Hs1.out;omega,(f2 k hk).2⟩,fun q hq k hk=>⟨by have:=((T2.out q hq).2.2 k hk).1;have:=Hs1.out;omega,((T2.out q hq).2.2 k hk).2⟩,⟨z2.lt,hb24.size⟩⟩
   have S:MkS w t0 H hv0 L all [(.slice qa qn qc,hdN t0)] t0 0 H hv0 (bulkN t0) 0 :=
    ⟨Nat.le_refl _,HR.out,HI.out,hb,hfn,fun h0=>⟨[],by unfold whN;rw [if_neg h0];simp⟩,by rw [Hl0.out];simp,SubB.refl _ _,Hlt.out,fun q hq=>by rw [List.mem_singleton] at hq;rw [hq];exact Mem0.out,by
     rw [HL'.out]
     obtain ⟨kd,a1,a2,a3,a4,a5,a6⟩:=t0
     have:=Q2t (.mk kd a1 a2 a3 a4 a5 a6)
     obtain ⟨m,hm⟩:∃ m,bulkN (.mk kd a1 a2 a3 a4 a5 a6)=m+1:=⟨bulkN (.mk kd a1 a2 a3 a4 a5 a6) - 1,by omega⟩
     rw [hm,dn];rfl,by simp only [List.length_singleton];omega⟩
   obtain ⟨B,hB⟩:∃ B,B=w2.heap.size:=⟨_,rfl⟩
   obtain ⟨ov0,hov0⟩:∃ v,v=Value.slice (some ⟨w2.heap.size,0,none⟩) 1 1:=⟨_,rfl⟩
   rw [←hov0,←hB] at F
   obtain ⟨hva,hvc,rfl,_⟩:=F.oh.form
   have HovE:=Qhd hov0
   clear hB o3 o4 b3 b4 hb24 bb4 bb3 y3 z2 k2 r1 z1 bb2 b2 r2 C1 Ch t3 f3 f2 hov0
   go_loopw [8,9,10] (fun ov iv pv wr=>∃ (t:Nd) (i:Nat) (p:List UInt8) (outs:List (Value × List UInt8)) (n d:Nat),iv=.int .i64 (i:Int)∧MkW w B (.slice (some ⟨b,off,none⟩) n2 vc) all (.slice hva H.length hvc) H t ov outs wr∧MkS w t0 H (.slice hva H.length hvc) L all outs t i p pv n d) (fun _ iv _ _=>N - (intOf iv).toNat)
   case atStart=>exact ⟨t0,0,H,_,_,_,rfl,by rw [←HovE.out];exact F,S⟩
   case round =>
    clear F S
    obtain ⟨t,i,p,outs,n,d,rfl,F,S⟩:=hrel
    obtain ⟨wo,rfl⟩:∃ y,y=wr:=⟨wr,rfl⟩
    have hiN:i<N:=by rw [HN.out];exact S.hi
    have hNb:=HNb.out
    obtain ⟨kd,tv,path,vv,vb,kv,ks⟩:=t
    obtain ⟨hp,hv,hk,hks⟩:=S.hI.inv
    obtain ⟨tn,htn⟩:∃ n,n=path.length:=⟨_,rfl⟩
    obtain ⟨ta,tc,rfl,_⟩:=hp.form' tn htn.symm
    obtain ⟨va2,vc2,rfl,_⟩:=hv.form
    obtain ⟨xn,hxn⟩:∃ n,n=ks.length:=⟨_,rfl⟩
    obtain ⟨xa,xc,rfl,_⟩:=hk.form' xn hxn.symm
    have hpv:Bytes wo u10 p:=S.hs wo F.oh.row
    obtain ⟨pn,hpn⟩:∃ n,n=p.length:=⟨_,rfl⟩
    obtain ⟨pa,pc,rfl,_⟩:=hpv.form' pn hpn.symm
    have hxb:ks.length≤1048576:=S.hf.inv.2.2.1
    have htb:path.length≤1048576:=S.hf.inv.1
    have Htn:=Qhd htn
    have Hxn:=Qhd hxn
    have Hpn:=Qhd hpn
    have Hk:=Qhd hk
    have Hks:=Qhd hks
    have Hp:=Qhd hp
    have SS:=Qhd S
    have HhiN:=Qhd hiN
    have hz:Blk 70 wo w.heap.size [.int .i64 kd,.slice ta tn tc,.slice va2 vb.length vc2,.slice xa xn xc]:=F.z
    clear hp hv hk hks htn hxn hpn S hiN
    go_upto_region 9 with fail
    obtain ⟨wk,hwk⟩:∃ x,x=wo.alloc (.cells #[.int .i64 0,.slice none 0 0,.slice none 0 0,.slice none 0 0] 70):=⟨_,rfl⟩
    rw [←hwk]
    have bk:Below wo.heap.size wo wk:=by rw [hwk];exact Qba _ _
    have zk:Blk 70 wk wo.heap.size [.int .i64 0,.slice none 0 0,.slice none 0 0,.slice none 0 0]:=by rw [hwk];exact Blk.new wo _ _
    obtain ⟨gk,hgk⟩:∃ g,g=wo.heap.size:=⟨_,rfl⟩
    rw [←hgk] at zk ⊢
    have hgkB:B≤gk:=by rw [hgk];exact F.hB.2
    have F:=F.kept bk
    have hpv:=hpv.kept bk
    have hz:=hz.kept bk
    clear hwk hgk bk
    obtain ⟨cm,hcm⟩:∃ c,c=com path p:=⟨_,rfl⟩
    have C1:Hid (∀ u:Ext wk,Calls Tryz.prog 91 #[.slice ta tn tc,.slice pa pn pc] u.val fun e w'=>e=.returned (.int .i64 ((cm:Nat):Int))∧Below u.val.heap.size u.val w'):=Qhd fun u=>by
     have h1:Bytes u.val (.slice ta tn tc) path:=(Hp.out.below F.hb).below u.bel
     have h2:Bytes u.val (.slice pa pn pc) p:=hpv.below u.bel
     rw [Htn.out] at h1 ⊢
     rw [Hpn.out] at h2 ⊢
     rw [hcm]
     exact (Q4z ta pa tc pc path p u.val h1 h2).mono (fun e w' q=>by obtain ⟨rfl,m,rfl⟩:=q;exact ⟨rfl,bdr (Below.refl _ _) _⟩)
    have k0:=fun u:Ext wk=>u.cell ((hz.cell 0).trans (show _=some (Value.int .i64 kd) from rfl))
    have k1:=fun u:Ext wk=>u.cell ((hz.cell 1).trans (show _=some (Value.slice ta tn tc) from rfl))
    by_cases h2:kd=2
    ·subst h2
     by_cases hc:com path p=path.length
     ·have hrs:rst 2 path p=some (0,p.drop path.length):=by unfold rst;rw [if_pos rfl,if_pos hc]
      obtain ⟨k,d1,hkk,hrk,h23,_⟩:=Q4r SS.out.hr hrs SS.out.hx
      obtain ⟨hk3,hks1⟩:=h23 rfl
      have hk0:k.kd≠0:=by rw [hk3];decide
      have hle:=com_le path p
      rw [hc] at hle
      obtain ⟨xb,xo,rfl,hkr⟩:=RowOf.range Q06 Hk.out 0 (by rw [hks1];exact Nat.zero_lt_one)
      have hk00:ks[0]'(by rw [hks1];exact Nat.zero_lt_one)=k:=by subst hks1;rfl
      rw [hk00,Nat.zero_mul,Nat.add_zero] at hkr
      obtain rfl:xn=1:=by rw [Hxn.out,hks1];rfl
      have hpv2:Bytes wk (.slice pa p.length pc) p:=by rw [←Hpn.out];exact hpv
      obtain ⟨a5,c5,run5,sub5⟩:=Qch hpv2 path.length hle.2 (tn:Int) (by rw [Htn.out])
      rw [←Hpn.out,←Htn.out] at run5 sub5
      obtain ⟨m5,hm5⟩:∃ m,m=pn - tn:=⟨_,rfl⟩
      rw [←hm5] at run5 sub5
      obtain ⟨⟨xv,xt⟩,d',hX,S',hn1⟩:=SS.out.go hrs hkk hk0 (by rw [←Htn.out];exact sub5) M2.out
      have hIk:=(Hks.out k (List.mem_of_getElem? hkk))
      have HKo:=Qhd hIk.one
      have hcb:((cm:Int)==(tn:Int))=true:=by rw [beq_iff_eq];rw [hcm,Htn.out];omega
      obtain ⟨ij,hij⟩:∃ m,m=i+1+szL (ks.take 0):=⟨_,rfl⟩
      rw [←hij] at hX S'
      have hij1:ij=i+1:=by rw [hij,List.take_zero,szL]
      have hijl:ij<all.length:=(List.getElem?_eq_some_iff.1 hX).1
      have HX:=Qhd hX
      have HXm:=Qhd (List.mem_of_getElem? hX)
      have HIJS:Hid (i<ij):=Qhd (by omega)
      have HIJ:=Qhd hij1
      have hxbl:xb<w.heap.size:=by
       have h0:=hkr 0 (.int .i64 k.kd) (by cases k;rfl)
       exact World.block_lt_of_cell? w _ h0
      obtain ⟨kk,ktv,kp,kvv,kvb,kkv,kks⟩:=k
      obtain rfl:kk=3:=hk3
      obtain ⟨j1,j2,j3,_⟩:=hIk.inv
      obtain ⟨kta,ktc,rfl,_⟩:=j1.form
      obtain ⟨kva,kvc,rfl,_⟩:=j2.form
      obtain ⟨kka,kkc,rfl,_⟩:=j3.form
      change w.rangeAt xb xo [.int .i64 3,.slice kta kp.length ktc,.slice kva kvb.length kvc,.slice kka kks.length kkc] at hkr
      have k3:=fun u:Ext wk=>u.cell ((hz.cell 3).trans (show _=some (Value.slice (some ⟨xb,xo,none⟩) 1 xc) from rfl))
      clear hcm hc hrs hrk h23 hk0 hks1 hk00 hle hm5 hkk hn1 hIk j1 j2 j3 hij hij1 hX sub5 hpv2
      refine Q02 wk 13 (by kernel_rfl) (by kernel_rfl) (Below.refl _ _) ?_;simp only [List.take_succ_cons,List.take_zero,List.take_nil]
      iterate 7 (refine Q01 (by rfl) (fun K hK=>?_);go_simp;refine hK _ ?_;clear hK K)
      (refine Q01 (by rfl) (fun K hK=>?_);go_simp;first|(refine hK _ ?_;clear hK K)|(apply Exists.intro;refine ⟨fun _=>?_,hK _ ?_⟩;exact C1.out _;clear hK K))
      iterate 5 (refine Q01 (by rfl) (fun K hK=>?_);go_simp;refine hK _ ?_;clear hK K)
      refine Q09 ?_
      intro u2 hb2
      simp only [List.reverse_nil,Q00]
      change wpList _ _ _ [_] _ _
      have F:=F.kept hb2
      have hz:=hz.kept hb2
      have zk:=zk.kept hb2
      clear k0 k1 k3
      go_wp2_with fail
      have HS2:KidS ⟨w.heap.size,3,none⟩ ⟨w.heap.size,1,none⟩ (.slice (some ⟨xb,xo,none⟩) 1 xc) (.slice ta tn tc) xb xo [.int .i64 3,.slice kta kp.length ktc,.slice kva kvb.length kvc,.slice kka kks.length kkc] u2:=⟨hz.cell 3,hz.cell 1,fun j v hv=>(F.hb.cell (World.block_lt_of_cell? w _ (hkr j v hv))).trans (hkr j v hv)⟩
      have k3:∀ u:In (KidS ⟨w.heap.size,3,none⟩ ⟨w.heap.size,1,none⟩ (.slice (some ⟨xb,xo,none⟩) 1 xc) (.slice ta tn tc) xb xo [.int .i64 3,.slice kta kp.length ktc,.slice kva kvb.length kvc,.slice kka kks.length kkc]),u.val.cell? ⟨w.heap.size,3,none⟩=some (.slice (some ⟨xb,xo,none⟩) 1 xc):=fun u=>u.held.1
      have k1:∀ u:In (KidS ⟨w.heap.size,3,none⟩ ⟨w.heap.size,1,none⟩ (.slice (some ⟨xb,xo,none⟩) 1 xc) (.slice ta tn tc) xb xo [.int .i64 3,.slice kta kp.length ktc,.slice kva kvb.length kvc,.slice kka kks.length kkc]),u.val.cell? ⟨w.heap.size,1,none⟩=some (.slice ta tn tc):=fun u=>u.held.2.1
      refine Q0t (KidS ⟨w.heap.size,3,none⟩ ⟨w.heap.size,1,none⟩ (.slice (some ⟨xb,xo,none⟩) 1 xc) (.slice ta tn tc) xb xo [.int .i64 3,.slice kta kp.length ktc,.slice kva kvb.length kvc,.slice kka kks.length kkc]) (by kernel_rfl) ?_;intro u3 hu3;simp only [List.length_cons,List.length_nil,Nat.reduceAdd,List.replicate_succ,List.replicate_zero]
      have hb3:Below u2.heap.size u2 u3:=by rw [hu3];exact (Below.refl _ _).drew
      have HS3:KidS ⟨w.heap.size,3,none⟩ ⟨w.heap.size,1,none⟩ (.slice (some ⟨xb,xo,none⟩) 1 xc) (.slice ta tn tc) xb xo [.int .i64 3,.slice kta kp.length ktc,.slice kva kvb.length kvc,.slice kka kks.length kkc] u3:=by rw [hu3];exact HS2
      have F:=F.kept hb3
      have zk:=zk.kept hb3
      clear hu3 HS2 hb3
      (refine wpH_takeQ 0 (fun K hK=>?_);simp only [Qzs] at hK;go_simp;first|(refine hK _ ?_;clear hK K)|(apply Exists.intro;refine ⟨fun _=>rfl,hK _ ?_⟩;clear hK K));(refine wpH_takeQ 1 (fun K hK=>?_);simp only [Qzs] at hK;go_simp;first|(refine hK _ ?_;clear hK K)|(apply Exists.intro;refine ⟨fun _=>rfl,hK _ ?_⟩;clear hK K));(refine wpH_takeQ 2 (fun K hK=>?_);simp only [Qzs] at hK;go_simp;first|(refine hK _ ?_;clear hK K)|(apply Exists.intro;refine ⟨fun _=>rfl,hK _ ?_⟩;clear hK K))
      (refine wpH_takeQ 3 (fun K hK=>?_);simp only [Qzs] at hK;refine Q4p (by rfl) 70 (.tmp 49) (by rfl) xb (xo) (by rfl) Q05 (by rfl) (fun u hu=>hu.2.2) (hK _ ?_);clear hK K;simp only [Act.put,List.getElem_toArray,List.getElem_cons_zero,List.getElem_cons_succ,List.setIfInBounds_toArray,List.set_cons_zero,List.set_cons_succ])
      (refine wpH_takeQ 4 (fun K hK=>?_);simp only [Qzs] at hK;go_simp;first|(refine hK _ ?_;clear hK K)|(apply Exists.intro;refine ⟨fun _=>rfl,hK _ ?_⟩;clear hK K));(refine wpH_takeQ 5 (fun K hK=>?_);simp only [Qzs] at hK;go_simp;first|(refine hK _ ?_;clear hK K)|(apply Exists.intro;refine ⟨fun _=>rfl,hK _ ?_⟩;clear hK K));(refine wpH_takeQ 6 (fun K hK=>?_);simp only [Qzs] at hK;go_simp;first|(refine hK _ ?_;clear hK K)|(apply Exists.intro;refine ⟨fun _=>rfl,hK _ ?_⟩;clear hK K));(refine wpH_takeQ 7 (fun K hK=>?_);simp only [Qzs] at hK;go_simp;first|(refine hK _ ?_;clear hK K)|(apply Exists.intro;refine ⟨fun _=>rfl,hK _ ?_⟩;clear hK K));(refine wpH_takeQ 8 (fun K hK=>?_);simp only [Qzs] at hK;go_simp;first|(refine hK _ ?_;clear hK K)|(apply Exists.intro;refine ⟨fun _=>rfl,hK _ ?_⟩;clear hK K))
      refine Q0e 9 (by rfl) (by kernel_rfl) (fun K hK=>?_)
      simp only [Qzs] at hK
      refine Q1d (by rfl) 70 (.tmp 11) (.tmp 50) (by rfl) gk [.int .i64 3,.slice kta kp.length ktc,.slice kva kvb.length kvc,.slice kka kks.length kkc] (by rfl) (by rfl) Q05 zk (by rfl) (by rfl) HKo.out ?_
      intro u4 z4 _ g4
      have F4:=F.kid g4 zk hgkB
      have HS4:=HS3.grown g4 (by have:=F.hB.1;show w.heap.size≠gk;omega) (by have:=F.hB.1;show w.heap.size≠gk;omega) (by have:=F.hB.1;omega)
      refine hK _ _ HS4 ?_
      clear hK K
      simp only [Act.put,List.getElem_toArray,List.getElem_cons_zero,List.getElem_cons_succ,List.setIfInBounds_toArray,List.set_cons_zero,List.set_cons_succ]
      (refine wpH_takeQ 10 (fun K hK=>?_);simp only [Qzs] at hK;go_simp;first|(refine hK _ ?_;clear hK K)|(apply Exists.intro;refine ⟨fun _=>rfl,hK _ ?_⟩;clear hK K))
      refine Q16 (by kernel_rfl) ?_
      have F:=F4
      have zk:=z4
      clear F4 z4 HS3 HS4 k3 k1 g4
      have e0:u4.cell? ⟨gk,0,none⟩=some (.int .i64 3):=zk.cell 0
      have hij0:(ij:Int)=(i:Int)+1:=by have:=HIJ.out;omega
      have hwij:IntKind.i64.wrap ((i:Int)+1)=(ij:Int):=by rw [←hij0];exact IntWalk.i64_in _ (by have h1:=S'.hi;have h2:=HN.out;omega)
      have hijn:(ij:Int)<(n2:Int):=by have:=Hn2.out;omega
      obtain ⟨b',off',hbe,hca⟩:=RowOf.cells (f:=tcell) (size:=1) (fun _=>rfl) F.ra ij hijl
      simp only [Option.some.injEq,Addr.mk.injEq,and_true] at hbe
      obtain ⟨rfl,rfl⟩:=hbe
      have hxe:all[ij]=(xv,xt):=by have:=List.getElem?_eq_getElem hijl;rw [HX.out] at this;exact (Option.some.inj this).symm
      rw [hxe] at hca
      have kx:u4.cell? ⟨b,off+ij,none⟩=some xv:=by have:=hca 0 xv rfl;simpa using this
      have tx:Bytes u4 xv xt:=F.ta _ HXm.out
      obtain ⟨xqn,hxqn⟩:∃ n,n=xt.length:=⟨_,rfl⟩
      obtain ⟨xqa,xqc,rfl,_⟩:=tx.form' xqn hxqn.symm
      have S':=Qhd S'
      have hol:outs.length≤10000000000:=by have:=SS.out.hl;have:=SS.out.hn;have h3:=Q2t (.mk 2 (.slice ta tn tc) path (.slice va2 vb.length vc2) vb (.slice (some ⟨xb,xo,none⟩) 1 xc) ks);omega
      have Hol:=Qhd hol
      have Hijl:=Qhd hijl
      clear hca hxe hij0 hijl hxqn hol
      go_wp2_with (first
       |((with_reducible refine Qgl 101 ?_);refine Q0s (o:=⟨some 101,_,_,_,_,_⟩) (by rfl) 44 1 [(0,.tmp 100)] (by rfl) elText [(.slice xqa xqn xqc,xt)] [.slice xqa xqn xqc] (by rfl) (by rfl) (by rfl) (by omega) (by omega) ?_;intro w5 _ r5 b5;have F:=F.kept b5;have zk:=zk.kept b5;have tx:=tx.kept b5)
       |((with_reducible refine Qgl 102 ?_);refine Q0g (o:=⟨some 102,_,_,_,_,_⟩) (by rfl) (.tmp 96) (.tmp 101) 44 (by rfl) elText (Q0y (ps:=[(Value.slice xqa xqn xqc,xt)]) (fun q hq=>by rw [List.mem_singleton] at hq;rw [hq];exact tx)) (by rfl) F.oo (by rfl) r5 F.hB.2 (by have:=Hol.out;simp only [List.length_cons,List.length_nil];omega) (by have:=Hol.out;simp only [List.length_cons,List.length_nil];unfold maxLen;omega) ?_;intro v6 w6 o6 g6 p6;have zk:=zk.grown g6 (F.oo.notT zk (by decide));have F:=F.grew g6 o6)
       |((with_reducible refine Qgl 103 ?_);refine Qla 70 11 gk Q05 zk (by rfl) ?_)
       |((with_reducible refine Qgs 103 ?_);refine Qsa 70 2 103 w.heap.size (Q03 (.mk 3 (.slice kta kp.length ktc) kp (.slice kva kvb.length kvc) kvb (.slice kka kks.length kkc) kks)) Q05 F.z (by rfl) (by rfl) HKo.out (Below.refl _ _) (Nat.le_refl _) ?_;intro w7 z7 _ g7;have F:=F.turn (t':=.mk 3 (.slice kta kp.length ktc) kp (.slice kva kvb.length kvc) kvb (.slice kka kks.length kkc) kks) g7 z7))
      go_frame
      go_roundw
      case rel=>exact ⟨_,ij,_,_,_,_,rfl,F,S'.out⟩
      case measure=>have h1:=S'.out.hi;have h2:=HN.out;have h3:=HIJS.out;have h4:=HhiN.out;simp only [intOf,Int.toNat_natCast];omega
     ·have hcb:((cm:Int)==(tn:Int))=false:=by rw [beq_eq_false_iff_ne];rw [hcm,Htn.out];omega
      have HST:Hid (outs.map (·.2)=L):=Qhd (SS.out.stop (.inl (by unfold rst;rw [if_pos rfl,if_neg hc])))
      clear hcm hc
      refine Q02 wk 13 (by kernel_rfl) (by kernel_rfl) (Below.refl _ _) ?_;simp only [List.take_succ_cons,List.take_zero,List.take_nil]
      iterate 7 (refine Q01 (by rfl) (fun K hK=>?_);go_simp;refine hK _ ?_;clear hK K)
      (refine Q01 (by rfl) (fun K hK=>?_);go_simp;first|(refine hK _ ?_;clear hK K)|(apply Exists.intro;refine ⟨fun _=>?_,hK _ ?_⟩;exact C1.out _;clear hK K))
      iterate 5 (refine Q01 (by rfl) (fun K hK=>?_);go_simp;refine hK _ ?_;clear hK K)
      refine Q09 ?_
      intro u2 hb2
      simp only [List.reverse_nil,Q00]
      change wpList _ _ _ [_] _ _
      have F:=F.kept hb2
      have hz:=hz.kept hb2
      have zk:=zk.kept hb2
      have d0:u2.cell? ⟨w.heap.size,0,none⟩=some (.int .i64 2):=hz.cell 0
      have e0:u2.cell? ⟨gk,0,none⟩=some (.int .i64 0):=zk.cell 0
      clear k0 k1
      go_wp2_with fail
      go_ret2
      exact ⟨_,outs,rfl,F.oo.row,fun q hq=>F.ta q (SS.out.hm q hq),HST.out,F.hb⟩
    ·have nk2:(kd==2)=false:=by rw [beq_eq_false_iff_ne];exact h2
     by_cases h3:kd=3
     ·subst h3
      cases p with
      | nil =>
       obtain rfl:pn=0:=by rw [Hpn.out];rfl
       have HST:Hid (outs.map (·.2)=L):=Qhd (SS.out.stop (.inl (by unfold rst;rw [if_neg (by decide),if_pos rfl])))
       clear hcm h2
       refine Q02 wk 13 (by kernel_rfl) (by kernel_rfl) (Below.refl _ _) ?_;simp only [List.take_succ_cons,List.take_zero,List.take_nil]
       iterate 7 (refine Q01 (by rfl) (fun K hK=>?_);go_simp;refine hK _ ?_;clear hK K)
       (refine Q01 (by rfl) (fun K hK=>?_);go_simp;first|(refine hK _ ?_;clear hK K)|(apply Exists.intro;refine ⟨fun _=>?_,hK _ ?_⟩;exact C1.out _;clear hK K))
       iterate 5 (refine Q01 (by rfl) (fun K hK=>?_);go_simp;refine hK _ ?_;clear hK K)
       refine Q09 ?_
       intro u2 hb2
       simp only [List.reverse_nil,Q00]
       change wpList _ _ _ [_] _ _
       have F:=F.kept hb2
       have hz:=hz.kept hb2
       have zk:=zk.kept hb2
       have d0:u2.cell? ⟨w.heap.size,0,none⟩=some (.int .i64 3):=hz.cell 0
       have e0:u2.cell? ⟨gk,0,none⟩=some (.int .i64 0):=zk.cell 0
       clear k0 k1
       go_wp2_with fail
       go_ret2
       exact ⟨_,outs,rfl,F.oo.row,fun q hq=>F.ta q (SS.out.hm q hq),HST.out,F.hb⟩
      | cons x q =>
       have hrs:rst 3 path (x::q)=some (x.toNat,q):=by unfold rst;rw [if_neg (by decide),if_pos rfl]
       obtain ⟨k,d1,hkk,hrk,_,h16⟩:=Q4r SS.out.hr hrs SS.out.hx
       have hx16:x.toNat<16:=SS.out.hx x List.mem_cons_self
       obtain rfl:xn=16:=by rw [Hxn.out];exact h16 rfl
       have hxk:x.toNat<ks.length:=by rw [←Hxn.out];exact hx16
       have hkx:ks[x.toNat]=k:=by have:=List.getElem?_eq_getElem hxk;rw [hkk] at this;exact (Option.some.inj this).symm
       obtain ⟨xb,xo,rfl,hkr⟩:=RowOf.range Q06 Hk.out x.toNat hxk
       rw [hkx] at hkr
       obtain ⟨b7,c7,run7,row7⟩:=to_any elNode Hk.out x.toNat (by omega) (x.toNat:Int) rfl
       have hpv2:Bytes wk (.slice pa (x::q).length pc) (x::q):=by rw [←Hpn.out];exact hpv
       obtain ⟨a5,c5,run5,sub5⟩:=Qch hpv2 1 (by simp) 1 rfl
       rw [←Hpn.out] at run5 sub5
       have hpn0:0<pn:=by rw [Hpn.out];simp
       obtain ⟨pb,po,rfl,hcp⟩:=Bytes.at hpv 0 (by simp)
       have hcp:wk.cell? ⟨pb,po,none⟩=some (.int .u8 (x.toNat:Int)):=by simpa using hcp
       have hpni:(0:Int)<(pn:Int):=by omega
       obtain ⟨m5,hm5⟩:∃ m,m=pn - 1:=⟨_,rfl⟩
       rw [←hm5] at run5 sub5
       have hIk:=(Hks.out k (List.mem_of_getElem? hkk))
       have HKo:=Qhd hIk.one
       have HIk:=Qhd hIk
       obtain ⟨sz,hsz⟩:∃ m,m=szL (ks.take x.toNat):=⟨_,rfl⟩
       have Hsz:=Qhd hsz
       have hszl:szL ks≤10000000000:=by have:=SS.out.hb;simp only [bulkN] at this;have:=szL_le ks;omega
       have Hszl:=Qhd hszl
       have Hrs:=Qhd hrs
       have Hkk:=Qhd hkk
       have Hsub:=Qhd sub5
       have Hhkr:=Qhd hkr
       have Hrow7:=Qhd row7
       have Hx16:=Qhd hx16
       have hbks:∀ y∈ks,bulkN y≤10000000000:=fun y hy=>by have:=SS.out.hb;simp only [bulkN] at this;have:=Q1a hy;omega
       have Hbks:=Qhd hbks
       have hxi:((x.toNat:Int)<16):=by omega
       have hib:i≤10000000000:=by have:=HhiN.out;omega
       obtain ⟨kk,ktv,kp,kvv,kvb,kkv,kks⟩:=k
       obtain ⟨j1,j2,j3,_⟩:=hIk.inv
       obtain ⟨kta,ktc,rfl,_⟩:=j1.form
       obtain ⟨kva,kvc,rfl,_⟩:=j2.form
       obtain ⟨kka,kkc,rfl,_⟩:=j3.form
       have k3:=fun u:Ext wk=>u.cell ((hz.cell 3).trans (show _=some (Value.slice (some ⟨xb,xo,none⟩) 16 xc) from rfl))
       have kp0:=fun u:Ext wk=>u.cell hcp
       clear hcm hrs hrk h16 hkk hkx hm5 hIk j1 j2 j3 sub5 hpv2 hsz hszl hkr row7 hxk hx16 h2 hbks
       refine Q02 wk 13 (by kernel_rfl) (by kernel_rfl) (Below.refl _ _) ?_;simp only [List.take_succ_cons,List.take_zero,List.take_nil]
       iterate 7 (refine Q01 (by rfl) (fun K hK=>?_);go_simp;refine hK _ ?_;clear hK K)
       (refine Q01 (by rfl) (fun K hK=>?_);go_simp;first|(refine hK _ ?_;clear hK K)|(apply Exists.intro;refine ⟨fun _=>?_,hK _ ?_⟩;exact C1.out _;clear hK K))
       iterate 5 (refine Q01 (by rfl) (fun K hK=>?_);go_simp;refine hK _ ?_;clear hK K)
       refine Q09 ?_
       intro u2 hb2
       simp only [List.reverse_nil,Q00]
       change wpList _ _ _ [_] _ _
       have F:=F.kept hb2
       have hz:=hz.kept hb2
       have zk:=zk.kept hb2
       have hcp:u2.cell? ⟨pb,po,none⟩=some (.int .u8 (x.toNat:Int)):=(hb2.cell (World.block_lt_of_cell? wk _ hcp)).trans hcp
       have d0:u2.cell? ⟨w.heap.size,0,none⟩=some (.int .i64 3):=hz.cell 0
       clear k0 k1 k3 kp0
       go_wp2_with fail
       have k3:=fun u:Ext u2=>u.cell ((hz.cell 3).trans (show _=some (Value.slice (some ⟨xb,xo,none⟩) 16 xc) from rfl))
       have kp0:=fun u:Ext u2=>u.cell hcp
       refine Q02 u2 8 (by kernel_rfl) (by kernel_rfl) (Below.refl _ _) ?_;simp only [List.take_succ_cons,List.take_zero,List.take_nil]
       iterate 8 (refine Q01 (by rfl) (fun K hK=>?_);go_simp;refine hK _ ?_;clear hK K)
       refine Q09 ?_
       intro u3 hb3
       have F:=F.kept hb3
       have hz:=hz.kept hb3
       have zk:=zk.kept hb3
       have hcp:u3.cell? ⟨pb,po,none⟩=some (.int .u8 (x.toNat:Int)):=(hb3.cell (World.block_lt_of_cell? u2 _ hcp)).trans hcp
       clear k3 kp0 d0
       change Q00 u3 [] _ _
       simp only [Q00,List.drop_succ_cons,List.drop_zero,List.drop_nil]
       try simp only [Act.put,Qzs]
       go_wp2_with fail
       have hxX:(x.toNat:Int)=((x.toNat:Nat):Int):=rfl
       go_loopw [9,72] (fun iv mv wr2=>∃ m:Nat,m≤x.toNat∧iv=.int .i64 ((i+szL (ks.take m):Nat):Int)∧mv=.int .i64 (m:Int)∧(MkW w B (.slice (some ⟨b,off,none⟩) n2 vc) all (.slice hva H.length hvc) H (.mk 3 (.slice ta tn tc) path (.slice va2 vb.length vc2) vb (.slice (some ⟨xb,xo,none⟩) 16 xc) ks) u8 outs wr2)∧Blk 70 wr2 gk [.int .i64 0,.slice none 0 0,.slice none 0 0,.slice none 0 0]∧wr2.cell? ⟨pb,po,none⟩=some (.int .u8 (x.toNat:Int))) (fun _ mv _=>x.toNat - (intOf mv).toNat)
       case atStart=>exact ⟨0,Nat.zero_le _,by rw [List.take_zero,szL];rfl,rfl,F,zk,hcp⟩
       case round =>
        clear F hz zk hcp
        obtain ⟨m,hm,rfl,rfl,F,zk,hcp⟩:=hrel
        by_cases hlt:m<x.toNat
        ·have hmi:(m:Int)<(x.toNat:Int):=by omega
         have hlt7:m<(ks.take x.toNat).length:=by rw [List.length_take];have:=Hxn.out;have:=Hx16.out;omega
         obtain ⟨yb,yo,rfl,hyr⟩:=RowOf.range Q06 (Hrow7.out.below F.hb) m hlt7
         obtain ⟨y,hy⟩:∃ y,(ks.take x.toNat)[m]=y:=⟨_,rfl⟩
         rw [hy] at hyr
         have hym:ks[m]?=some y:=by rw [←hy,List.getElem_take,List.getElem?_eq_getElem]
         have hymem:y∈ks:=List.mem_of_getElem? hym
         have HT:Hid (szL (ks.take (m+1))=szL (ks.take m)+szN y):=Qhd (by rw [List.take_add_one,hym];exact Q84 _ y)
         have hsl:szL (ks.take m)+szN y≤10000000000:=by have h1:=Q83 ks (m+1);rw [HT.out] at h1;have:=Hszl.out;omega
         have cs:∀ u,Below w.heap.size w u→Calls Tryz.prog 92 #[.agg (Q03 y).toArray] u fun e w'=>e=.returned (.int .i64 (szN y:Int))∧Below u.heap.size u w':=fun u hu=>Qci (SizeOf.sizeOf y) y (Nat.le_refl _) (Hbks.out y hymem) u ((Hks.out y hymem).kept hu)
         have KYo0:=(Hks.out y hymem).one
         obtain ⟨KY,hKY⟩:∃ K,K=Q03 y:=⟨_,rfl⟩
         have KYl:Hid (KY.length=4):=Qhd (by rw [hKY];exact Q06 y)
         rw [←hKY] at hyr KYo0
         simp only [←hKY] at cs
         have KYo:=Qhd KYo0
         have Cs:=Qhd cs
         obtain ⟨s0,hs0⟩:∃ s,s=szL (ks.take m):=⟨_,rfl⟩
         obtain ⟨s1,hs1⟩:∃ s,s=szN y:=⟨_,rfl⟩
         rw [←hs0,←hs1] at HT hsl
         rw [←hs1] at Cs
         rw [←hs0]
         clear hy hym hymem hKY cs KYo0 hs0 hs1 hlt7 hlt hm
         go_wp2_with (first
          |((with_reducible refine Qgl 75 ?_);refine Qlw 70 74 yb (yo+m*4) Q05 KYl.out hyr ?_)
          |((with_reducible refine Qgs 75 ?_);refine Qsa 70 13 75 wr.heap.size KY Q05 (old:=[.int .i64 0,.slice none 0 0,.slice none 0 0,.slice none 0 0]) (Blk.new wr _ _) KYl.out (by rfl) KYo.out (Qba wr _) (Nat.le_refl _) ?_;intro w5 y5 b5 _;have F:=F.kept b5;have zk:=zk.kept b5;have hcp:w5.cell? ⟨pb,po,none⟩=some (.int .u8 (x.toNat:Int)):=(b5.cell (World.block_lt_of_cell? wr _ hcp)).trans hcp)
          |((with_reducible refine Qgl 77 ?_);refine Qla 70 13 wr.heap.size Q05 y5 KYl.out ?_)
          |(go_at_call 92;(with_reducible refine (Cs.out _ F.hb).mono ?_);rintro e w6 ⟨rfl,b6⟩;have F:=F.kept b6;have zk:=zk.kept b6;have hcp:w6.cell? ⟨pb,po,none⟩=some (.int .u8 (x.toNat:Int)):=(b6.cell (World.block_lt_of_cell? w5 _ hcp)).trans hcp))
         go_roundw
         case rel=>exact ⟨m+1,by omega,by rw [HT.out];go_num,by go_num,F,zk,hcp⟩
         case measure=>simp [intOf];omega
        ·obtain rfl:m=x.toNat:=by omega
         rw [←Hsz.out]
         go_wp2_with fail
         have hxi2:(x.toNat:Int)<16:=hxi
         have HS2:KidS ⟨w.heap.size,3,none⟩ ⟨pb,po,none⟩ (.slice (some ⟨xb,xo,none⟩) 16 xc) (.int .u8 (x.toNat:Int)) xb (xo+x.toNat*4) [.int .i64 kk,.slice kta kp.length ktc,.slice kva kvb.length kvc,.slice kka kks.length kkc] wr:=⟨F.z.cell 3,hcp,fun j v hv=>(F.hb.cell (World.block_lt_of_cell? w _ (Hhkr.out j v hv))).trans (Hhkr.out j v hv)⟩
         have k3:∀ u:In (KidS ⟨w.heap.size,3,none⟩ ⟨pb,po,none⟩ (.slice (some ⟨xb,xo,none⟩) 16 xc) (.int .u8 (x.toNat:Int)) xb (xo+x.toNat*4) [.int .i64 kk,.slice kta kp.length ktc,.slice kva kvb.length kvc,.slice kka kks.length kkc]),u.val.cell? ⟨w.heap.size,3,none⟩=some (.slice (some ⟨xb,xo,none⟩) 16 xc):=fun u=>u.held.1
         have kp0:∀ u:In (KidS ⟨w.heap.size,3,none⟩ ⟨pb,po,none⟩ (.slice (some ⟨xb,xo,none⟩) 16 xc) (.int .u8 (x.toNat:Int)) xb (xo+x.toNat*4) [.int .i64 kk,.slice kta kp.length ktc,.slice kva kvb.length kvc,.slice kka kks.length kkc]),u.val.cell? ⟨pb,po,none⟩=some (.int .u8 (x.toNat:Int)):=fun u=>u.held.2.1
         have hpbk:pb≠gk:=by
          intro e
          subst e
          have:=(zk.cell po).symm.trans hcp
          rcases po with _|_|_|_|po<;>simp at this
         have hxbl:xb<w.heap.size:=World.block_lt_of_cell? w _ (Hhkr.out 0 (.int .i64 kk) rfl)
         refine Q0t (KidS ⟨w.heap.size,3,none⟩ ⟨pb,po,none⟩ (.slice (some ⟨xb,xo,none⟩) 16 xc) (.int .u8 (x.toNat:Int)) xb (xo+x.toNat*4) [.int .i64 kk,.slice kta kp.length ktc,.slice kva kvb.length kvc,.slice kka kks.length kkc]) (by kernel_rfl) ?_;intro u5' hu5;simp only [List.length_cons,List.length_nil,Nat.reduceAdd,List.replicate_succ,List.replicate_zero]
         have hb5:Below wr.heap.size wr u5':=by rw [hu5];exact (Below.refl _ _).drew
         have HS3:KidS ⟨w.heap.size,3,none⟩ ⟨pb,po,none⟩ (.slice (some ⟨xb,xo,none⟩) 16 xc) (.int .u8 (x.toNat:Int)) xb (xo+x.toNat*4) [.int .i64 kk,.slice kta kp.length ktc,.slice kva kvb.length kvc,.slice kka kks.length kkc] u5':=by rw [hu5];exact HS2
         have F:=F.kept hb5
         have zk:=zk.kept hb5
         clear hu5 HS2 hb5 hcp
         (refine wpH_takeQ 0 (fun K hK=>?_);simp only [Qzs] at hK;go_simp;first|(refine hK _ ?_;clear hK K)|(apply Exists.intro;refine ⟨fun _=>rfl,hK _ ?_⟩;clear hK K));(refine wpH_takeQ 1 (fun K hK=>?_);simp only [Qzs] at hK;go_simp;first|(refine hK _ ?_;clear hK K)|(apply Exists.intro;refine ⟨fun _=>rfl,hK _ ?_⟩;clear hK K));(refine wpH_takeQ 2 (fun K hK=>?_);simp only [Qzs] at hK;go_simp;first|(refine hK _ ?_;clear hK K)|(apply Exists.intro;refine ⟨fun _=>rfl,hK _ ?_⟩;clear hK K));(refine wpH_takeQ 3 (fun K hK=>?_);simp only [Qzs] at hK;go_simp;first|(refine hK _ ?_;clear hK K)|(apply Exists.intro;refine ⟨fun _=>rfl,hK _ ?_⟩;clear hK K));(refine wpH_takeQ 4 (fun K hK=>?_);simp only [Qzs] at hK;go_simp;first|(refine hK _ ?_;clear hK K)|(apply Exists.intro;refine ⟨fun _=>rfl,hK _ ?_⟩;clear hK K));(refine wpH_takeQ 5 (fun K hK=>?_);simp only [Qzs] at hK;go_simp;first|(refine hK _ ?_;clear hK K)|(apply Exists.intro;refine ⟨fun _=>rfl,hK _ ?_⟩;clear hK K))
         (refine wpH_takeQ 6 (fun K hK=>?_);simp only [Qzs] at hK;refine Q4p (by rfl) 70 (.tmp 86) (by rfl) xb (xo+x.toNat*4) (by rfl) Q05 (by rfl) (fun u hu=>hu.2.2) (hK _ ?_);clear hK K;simp only [Act.put,List.getElem_toArray,List.getElem_cons_zero,List.getElem_cons_succ,List.setIfInBounds_toArray,List.set_cons_zero,List.set_cons_succ])
         (refine wpH_takeQ 7 (fun K hK=>?_);simp only [Qzs] at hK;go_simp;first|(refine hK _ ?_;clear hK K)|(apply Exists.intro;refine ⟨fun _=>rfl,hK _ ?_⟩;clear hK K));(refine wpH_takeQ 8 (fun K hK=>?_);simp only [Qzs] at hK;go_simp;first|(refine hK _ ?_;clear hK K)|(apply Exists.intro;refine ⟨fun _=>rfl,hK _ ?_⟩;clear hK K))
         refine Q0e 9 (by rfl) (by kernel_rfl) (fun K hK=>?_)
         simp only [Qzs] at hK
         refine Q1d (by rfl) 70 (.tmp 11) (.tmp 87) (by rfl) gk [.int .i64 kk,.slice kta kp.length ktc,.slice kva kvb.length kvc,.slice kka kks.length kkc] (by rfl) (by rfl) Q05 zk (by rfl) (by rfl) HKo.out ?_
         intro u4' z4 _ g4
         have F4:=F.kid g4 zk hgkB
         have HS4:=HS3.grown g4 (by have:=F.hB.1;show w.heap.size≠gk;omega) (by show pb≠gk;exact hpbk) (by have:=F.hB.1;omega)
         refine hK _ _ HS4 ?_
         clear hK K
         simp only [Act.put,List.getElem_toArray,List.getElem_cons_zero,List.getElem_cons_succ,List.setIfInBounds_toArray,List.set_cons_zero,List.set_cons_succ]
         (refine wpH_takeQ 10 (fun K hK=>?_);simp only [Qzs] at hK;go_simp;first|(refine hK _ ?_;clear hK K)|(apply Exists.intro;refine ⟨fun _=>rfl,hK _ ?_⟩;clear hK K))
         refine Q16 (by kernel_rfl) ?_
         have F:=F4
         have zk:=z4
         clear F4 z4 HS3 HS4 k3 kp0 g4
         by_cases hk0:kk=0
         ·have HST:Hid (outs.map (·.2)=L):=Qhd (SS.out.stop (.inr ⟨x.toNat,q,_,Hrs.out,Hkk.out,hk0⟩))
          subst hk0
          have e0:u4'.cell? ⟨gk,0,none⟩=some (.int .i64 0):=zk.cell 0
          go_wp2_with fail
          go_ret2
          exact ⟨_,outs,rfl,F.oo.row,fun q hq=>F.ta q (SS.out.hm q hq),HST.out,F.hb⟩
         ·have nk:(kk==0)=false:=by rw [beq_eq_false_iff_ne];exact hk0
          obtain ⟨⟨xv,xt⟩,d',hX,S',hn1⟩:=SS.out.go Hrs.out Hkk.out hk0 Hsub.out M2.out
          obtain ⟨ij,hij⟩:∃ m,m=i+1+szL (ks.take x.toNat):=⟨_,rfl⟩
          rw [←hij] at hX S'
          have hij1:ij=i+1+sz:=by rw [hij,Hsz.out]
          have hijl:ij<all.length:=(List.getElem?_eq_some_iff.1 hX).1
          have HX:=Qhd hX
          have HXm:=Qhd (List.mem_of_getElem? hX)
          have HIJS:Hid (i<ij):=Qhd (by omega)
          have HIJ:=Qhd hij1
          clear hk0 hn1 hij hij1 hX
          have e0:u4'.cell? ⟨gk,0,none⟩=some (.int .i64 kk):=zk.cell 0
          have hij0:(ij:Int)=(i:Int)+(sz:Int)+1:=by have:=HIJ.out;omega
          have hwij:IntKind.i64.wrap ((i:Int)+(sz:Int)+1)=(ij:Int):=by rw [←hij0];exact IntWalk.i64_in _ (by have h1:=S'.hi;have h2:=HN.out;omega)
          have hijn:(ij:Int)<(n2:Int):=by have:=Hn2.out;omega
          obtain ⟨b',off',hbe,hca⟩:=RowOf.cells (f:=tcell) (size:=1) (fun _=>rfl) F.ra ij hijl
          simp only [Option.some.injEq,Addr.mk.injEq,and_true] at hbe
          obtain ⟨rfl,rfl⟩:=hbe
          have hxe:all[ij]=(xv,xt):=by have:=List.getElem?_eq_getElem hijl;rw [HX.out] at this;exact (Option.some.inj this).symm
          rw [hxe] at hca
          have kx:u4'.cell? ⟨b,off+ij,none⟩=some xv:=by have:=hca 0 xv rfl;simpa using this
          have tx:Bytes u4' xv xt:=F.ta _ HXm.out
          obtain ⟨xqn,hxqn⟩:∃ n,n=xt.length:=⟨_,rfl⟩
          obtain ⟨xqa,xqc,rfl,_⟩:=tx.form' xqn hxqn.symm
          have S':=Qhd S'
          have hol:outs.length≤10000000000:=by have:=SS.out.hl;have:=SS.out.hn;have h3:=Q2t (.mk 3 (.slice ta tn tc) path (.slice va2 vb.length vc2) vb (.slice (some ⟨xb,xo,none⟩) 16 xc) ks);omega
          have Hol:=Qhd hol
          have Hijl:=Qhd hijl
          clear hca hxe hij0 hijl hxqn hol
          go_wp2_with (first
           |((with_reducible refine Qgl 101 ?_);refine Q0s (o:=⟨some 101,_,_,_,_,_⟩) (by rfl) 44 1 [(0,.tmp 100)] (by rfl) elText [(.slice xqa xqn xqc,xt)] [.slice xqa xqn xqc] (by rfl) (by rfl) (by rfl) (by omega) (by omega) ?_;intro w5 _ r5 b5;have F:=F.kept b5;have zk:=zk.kept b5;have tx:=tx.kept b5)
           |((with_reducible refine Qgl 102 ?_);refine Q0g (o:=⟨some 102,_,_,_,_,_⟩) (by rfl) (.tmp 96) (.tmp 101) 44 (by rfl) elText (Q0y (ps:=[(Value.slice xqa xqn xqc,xt)]) (fun q hq=>by rw [List.mem_singleton] at hq;rw [hq];exact tx)) (by rfl) F.oo (by rfl) r5 F.hB.2 (by have:=Hol.out;simp only [List.length_cons,List.length_nil];omega) (by have:=Hol.out;simp only [List.length_cons,List.length_nil];unfold maxLen;omega) ?_;intro v6 w6 o6 g6 p6;have zk:=zk.grown g6 (F.oo.notT zk (by decide));have F:=F.grew g6 o6)
           |((with_reducible refine Qgl 103 ?_);refine Qla 70 11 gk Q05 zk (by rfl) ?_)
           |((with_reducible refine Qgs 103 ?_);refine Qsa 70 2 103 w.heap.size (Q03 (.mk kk (.slice kta kp.length ktc) kp (.slice kva kvb.length kvc) kvb (.slice kka kks.length kkc) kks)) Q05 F.z (by rfl) (by rfl) HKo.out (Below.refl _ _) (Nat.le_refl _) ?_;intro w7 z7 _ g7;have F:=F.turn (t':=.mk kk (.slice kta kp.length ktc) kp (.slice kva kvb.length kvc) kvb (.slice kka kks.length kkc) kks) g7 z7))
          go_frame
          go_roundw
          case rel=>exact ⟨_,ij,_,_,_,_,rfl,F,S'.out⟩
          case measure=>have h1:=S'.out.hi;have h2:=HN.out;have h3:=HIJS.out;have h4:=HhiN.out;simp only [intOf,Int.toNat_natCast];omega
     ·have n3:(kd==3)=false:=by rw [beq_eq_false_iff_ne];exact h3
      have HST:Hid (outs.map (·.2)=L):=Qhd (SS.out.stop (.inl (by unfold rst;rw [if_neg h2,if_neg h3])))
      clear hcm h2 h3
      refine Q02 wk 13 (by kernel_rfl) (by kernel_rfl) (Below.refl _ _) ?_;simp only [List.take_succ_cons,List.take_zero,List.take_nil]
      iterate 7 (refine Q01 (by rfl) (fun K hK=>?_);go_simp;refine hK _ ?_;clear hK K)
      (refine Q01 (by rfl) (fun K hK=>?_);go_simp;first|(refine hK _ ?_;clear hK K)|(apply Exists.intro;refine ⟨fun _=>?_,hK _ ?_⟩;exact C1.out _;clear hK K))
      iterate 5 (refine Q01 (by rfl) (fun K hK=>?_);go_simp;refine hK _ ?_;clear hK K)
      refine Q09 ?_
      intro u2 hb2
      simp only [List.reverse_nil,Q00]
      change wpList _ _ _ [_] _ _
      have F:=F.kept hb2
      have hz:=hz.kept hb2
      have zk:=zk.kept hb2
      have d0:u2.cell? ⟨w.heap.size,0,none⟩=some (.int .i64 kd):=hz.cell 0
      have e0:u2.cell? ⟨gk,0,none⟩=some (.int .i64 0):=zk.cell 0
      clear k0 k1
      go_wp2_with fail
      go_ret2
      exact ⟨_,outs,rfl,F.oo.row,fun q hq=>F.ta q (SS.out.hm q hq),HST.out,F.hb⟩
  ·obtain rfl:E=3:=by rw [hE];simp [h32]
   have hL':L=[]:=by rw [hL];simp [h32]
   clear hL HL
   have hki:(32:Int)<(kn:Int):=by omega
   subst hL'
   clear c1 hR hK hKl hw1 hI hb hfn hk hs1 hE HE
   go_enter Tryz.func60,Tryz.ntmps60
   go_wp2_with (first
    |((with_reducible refine Qgl 15 ?_);refine Qlw 70 2 w.heap.size 0 Q05 HKl.out (by rw [←Hw1.out];exact r1) ?_)
    |(go_at_call 75;rw [←Hw1.out];(with_reducible refine C1.out.mono ?_);rintro e w2 ⟨v2,ps2,rfl,r2,_,_,b2,_⟩;have bb2:=Below.then hbel b2;obtain ⟨x2,y2,rfl,_⟩:=r2.form))
   go_ret2
   exact ⟨_,[],rfl,RowOf.nil tcell 1 _,fun q hq=>absurd hq (by simp),rfl,bb2⟩
end Go.Proofs.YtbdmkfjgnjfjbaaGreat
