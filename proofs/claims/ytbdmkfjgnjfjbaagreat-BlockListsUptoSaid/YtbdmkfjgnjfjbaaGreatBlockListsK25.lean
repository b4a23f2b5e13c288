/- root.shape of lists. | root.shape of a road. -/
import Derived.Test.YtbdmkfjgnjfjbaaGreatBlockListsK24
set_option linter.unusedSimpArgs false
set_option linter.unusedVariables false
set_option maxHeartbeats 4000000
set_option maxRecDepth 100000
open List (getElem_mem length_map mem_cons_self)
open Nat (le_refl lt_or_ge)
namespace Go.Proofs.YtbdmkfjgnjfjbaaGreat
open Go.RowKit
theorem Qfa (S:Option Addr)(W U:Nat)(G:Option Addr)(y H:Nat)(ks:List Itm)(a6:ks.length=y)(hs:y<=1048576)(ao:y≠17)(h2:y≠2)(w:World)(hk:Q05 Q0j 3 w (.slice G y H) ks)(hi:∀ k∈ks,Q17 w k) :
  Calls Tryz.prog 126 #[.agg #[.bool true,.slice S W U,.slice G y H]] w (Q5v (shpP (.lst (ks.map erI))) w):=by
 obtain ⟨w1,aa⟩:=Qe ((w.alloc (.cells #[.bool true,.slice S W U,.slice G y H] 77)).alloc (.cells #[.int .i64 0,.slice none 0 0,.slice none 0 0,.slice none 0 0] 134));have F1:ShW w [.bool true,.slice S W U,.slice G y H] zsh w1:=by rw [aa];exact ShW.start w _ _ _
 have am:=Qhd aa;have a9:∀ (i:Nat) (k:Itm),ks[i]?=some k->itl k=true->shpP (.lst (ks.map erI))=none:=fun i k h1 h2=>by simp only [shpP,Q5p h1 h2]
 have a3:(∀ (i:Nat) (k:Itm),ks[i]?=some k->itl k=false)->shpP (.lst (ks.map erI))=none:=fun h=>by
  simp only [shpP,Q39 h,length_map,a6];rw [if_neg ao,if_neg h2]
 have aA:((y:Int)==17)=false:=by rw [beq_eq_false_iff_ne];omega
 have aB:((y:Int)==2)=false:=by rw [beq_eq_false_iff_ne];omega
 obtain ⟨O,hO⟩:=Qe (shpP (.lst (ks.map erI)));rw [<-hO] at a9 a3;rw [<-hO];have al:=Qhd a9;have ai:=Qhd a3;have af:=Qhd a6;have Hi:=Qhd hi;clear aa a9 a3 a6 hi hO;go_enter Tryz.func126,Tryz.ntmps126
 go_wp2_with fail
 rw [<-am.out]
 go_loopw [22] (fun ix wr=>∃ k:Nat,k<=y/\ix=.int .i64 (k:Int)/\ShW w [.bool true,.slice S W U,.slice G y H] zsh wr/\Hid (∀ (j:Nat) (x:Itm),j<k->ks[j]?=some x->itl x=false)) (fun ix _=>y - (intOf ix).toNat)
 case atStart=>exact ⟨0,by omega,rfl,F1,Qhd (fun j x hj=>by omega)⟩
 case round =>
  clear F1;obtain ⟨k,aD,rfl,F,Hd⟩:=hrel;have az:wr.cell? ⟨w.heap.size,2,none⟩=some (.slice G y H):=F.hx.cell 2;by_cases hlt:k<y
  ·have aC:(k:Int)<(y:Int):=by omega
   have a8:k<ks.length:=by rw [af.out];exact hlt
   obtain ⟨b,off,rfl,I⟩:=Q05.range Q0k (hk.below F.hb) k a8;have z:Q17 wr ks[k]:=(Hi.out _ (getElem_mem a8)).kept F.hb;have D:ks[k]?=some ks[k]:=List.getElem?_eq_getElem a8;obtain ⟨kid,a5⟩:=Qe (ks[k]);rw [<-a5] at I z D;obtain ⟨l2,aG,t2,aF,av⟩:=kid;obtain ⟨T,V,rfl,_,_⟩:=z.inv.1.form;obtain ⟨L,M,rfl,_,_⟩:=z.inv.2.1.form;obtain ⟨Z,a'⟩:=Qe (t2.length);obtain ⟨N,a7⟩:=Qe (av.length);rw [<-a',<-a7] at I z D;change wr.rangeAt b (off+k*3) [.bool l2,.slice T Z V,.slice L N M] at I;have K:=F.kept ((Below.refl wr.heap.size wr).alloc (le_refl _) (.cells #[.bool l2,.slice T Z V,.slice L N M] 77));cases l2 with
   | true =>
    have ap:O=none:=al.out k _ D rfl;subst ap;clear a5 z a' a7 D F
    go_wp2_with (first
     |(refine wpList_load_mid (op:=⟨some 25,_,_,_,_,_⟩) (by rfl) 77 (.tmp 24) (by rfl) b (off+k*3) (by rfl) [.bool true,.slice T Z V,.slice L N M] _ I Tryz.underlying77 rfl (by kernel_rfl) ?_)
     |(refine Qla 134 2 (w.heap.size+1) Q0a K.hz (by rfl) ?_)
     |((with_reducible refine Qgs 28 ?_);refine Qsa 134 2 28 (w.heap.size+1) zsh Q0a K.hz (by rfl) (by rfl) (by intro u J;simp [zsh] at J;rcases J with rfl|rfl<;>rfl) K.hb (by omega) ?_;intro w5 h5 a4 _))
    exact bodyPost_ret (v:=.tuple #[.agg #[.int .i64 0,.slice none 0 0,.slice none 0 0,.slice none 0 0],.bool false]) (Q01 rfl _ _ (w.heap.size+1) Q0a h5 rfl rfl rfl) rfl ⟨a4,0,none,0,0,none,0,0,none,0,0,rfl⟩
   | false =>
    have ag:∀ (j:Nat) (x:Itm),j<k+1->ks[j]?=some x->itl x=false:=fun j x hj E=>by
     rcases lt_or_ge j k with h|h
     ·exact Hd.out j x h E
     obtain rfl:j=k:=by omega
     rw [D] at E;cases E;rfl
    have aj:=Qhd ag;clear a5 z a' a7 D F ag
    go_wp2_with (refine wpList_load_mid (op:=⟨some 25,_,_,_,_,_⟩) (by rfl) 77 (.tmp 24) (by rfl) b (off+k*3) (by rfl) [.bool false,.slice T Z V,.slice L N M] _ I Tryz.underlying77 rfl (by kernel_rfl) ?_)
    go_roundw
    case rel=>exact ⟨k+1,by omega,by go_num,K,aj⟩
    case measure=>simp [intOf];omega
  obtain rfl:y=k:=by omega
  have aq:=ai.out (fun i x E=>Hd.out i x (by have:=(List.getElem?_eq_some_iff.1 E).1;have:=af.out;omega) E);subst aq
  go_wp2_with (first
   |(refine Qla 134 2 (w.heap.size+1) Q0a F.hz (by rfl) ?_)
   |((with_reducible refine Qgs 33 ?_);refine Qsa 134 2 33 (w.heap.size+1) zsh Q0a F.hz (by rfl) (by rfl) (by intro u J;simp [zsh] at J;rcases J with rfl|rfl<;>rfl) F.hb (by omega) ?_;intro w5 h5 a4 _))
  exact bodyPost_ret (v:=.tuple #[.agg #[.int .i64 0,.slice none 0 0,.slice none 0 0,.slice none 0 0],.bool false]) (Q01 rfl _ _ (w.heap.size+1) Q0a h5 rfl rfl rfl) rfl ⟨a4,0,none,0,0,none,0,0,none,0,0,rfl⟩
theorem Qf9 (W:Option Addr)(tn tc:Nat)(I:Option Addr)(y J:Nat)(ks:List Itm)(ah:ks.length=y)(hs:y<=1048576)(aB:∀ k∈ks,(itt k).length<=1048576)(K:y=2)(z:unE ((ks.map itt)[0]?.getD [])=1)(w:World)(hk:Q05 Q0j 3 w (.slice I y J) ks)(hi:∀ k∈ks,Q17 w k) :
  Calls Tryz.prog 126 #[.agg #[.bool true,.slice W tn tc,.slice I y J]] w (Q5v (shpP (.lst (ks.map erI))) w):=by
 obtain ⟨w1,am⟩:=Qe ((w.alloc (.cells #[.bool true,.slice W tn tc,.slice I y J] 77)).alloc (.cells #[.int .i64 0,.slice none 0 0,.slice none 0 0,.slice none 0 0] 134));have F1:ShW w [.bool true,.slice W tn tc,.slice I y J] zsh w1:=by rw [am];exact ShW.start w _ _ _
 have aK:=Qhd am;have ak:∀ (i:Nat) (k:Itm),ks[i]?=some k->itl k=true->shpP (.lst (ks.map erI))=none:=fun i k h1 K=>by simp only [shpP,Q5p h1 K]
 have b6:((y:Int)==17)=false:=by rw [beq_eq_false_iff_ne];omega
 have b7:((y:Int)==2)=true:=by rw [beq_iff_eq];omega
 have i0:(0:Int)<(y:Int):=by omega
 have i1:(1:Int)<(y:Int):=by omega
 have be:0<y:=by omega
 have bg:1<y:=by omega
 have H2:=Qhd K;have ac:(∀ (i:Nat) (k:Itm),ks[i]?=some k->itl k=false)->shpP (.lst (ks.map erI))=none:=fun h=>by
  simp only [shpP,Q39 h,length_map,ah];rw [if_neg (by omega),if_pos K,if_neg (by rw [z];simp)]
 have aH:=Qhd aB;have Hu:=Qhd z;clear K z aB;obtain ⟨O,hO⟩:=Qe (shpP (.lst (ks.map erI)));rw [<-hO] at ak ac;rw [<-hO];have aI:=Qhd ak;have aF:=Qhd ac;have a9:=Qhd ah;have Hi:=Qhd hi;clear am ak ac ah hi hO;go_enter Tryz.func126,Tryz.ntmps126
 go_wp2_with fail
 rw [<-aK.out]
 go_loopw [22] (fun ix wr=>∃ k:Nat,k<=y/\ix=.int .i64 (k:Int)/\ShW w [.bool true,.slice W tn tc,.slice I y J] zsh wr/\Hid (∀ (j:Nat) (x:Itm),j<k->ks[j]?=some x->itl x=false)) (fun ix _=>y - (intOf ix).toNat)
 case atStart=>exact ⟨0,by omega,rfl,F1,Qhd (fun j x hj=>by omega)⟩
 case round =>
  clear F1;obtain ⟨k,ba,rfl,F,Hd⟩:=hrel;have b5:wr.cell? ⟨w.heap.size,2,none⟩=some (.slice I y J):=F.hx.cell 2;by_cases hlt:k<y
  ·have b9:(k:Int)<(y:Int):=by omega
   have aj:k<ks.length:=by rw [a9.out];exact hlt
   obtain ⟨b,off,rfl,L⟩:=Q05.range Q0k (hk.below F.hb) k aj;have E:Q17 wr ks[k]:=(Hi.out _ (getElem_mem aj)).kept F.hb;have G:ks[k]?=some ks[k]:=List.getElem?_eq_getElem aj;obtain ⟨kid,ag⟩:=Qe (ks[k]);rw [<-ag] at L E G;obtain ⟨l2,bs,t2,bl,aV⟩:=kid;obtain ⟨Z,a3,rfl,_,_⟩:=E.inv.1.form;obtain ⟨T,U,rfl,_,_⟩:=E.inv.2.1.form;obtain ⟨a5,al⟩:=Qe (t2.length);obtain ⟨V,ai⟩:=Qe (aV.length);rw [<-al,<-ai] at L E G;change wr.rangeAt b (off+k*3) [.bool l2,.slice Z a5 a3,.slice T V U] at L;have S:=F.kept ((Below.refl wr.heap.size wr).alloc (le_refl _) (.cells #[.bool l2,.slice Z a5 a3,.slice T V U] 77));cases l2 with
   | true =>
    have aO:O=none:=aI.out k _ G rfl;subst aO;clear ag E al ai G F
    go_wp2_with (first
     |(refine wpList_load_mid (op:=⟨some 25,_,_,_,_,_⟩) (by rfl) 77 (.tmp 24) (by rfl) b (off+k*3) (by rfl) [.bool true,.slice Z a5 a3,.slice T V U] _ L Tryz.underlying77 rfl (by kernel_rfl) ?_)
     |(refine Qla 134 2 (w.heap.size+1) Q0a S.hz (by rfl) ?_)
     |((with_reducible refine Qgs 28 ?_);refine Qsa 134 2 28 (w.heap.size+1) zsh Q0a S.hz (by rfl) (by rfl) (by intro u z;simp [zsh] at z;rcases z with rfl|rfl<;>rfl) S.hb (by omega) ?_;intro w5 h5 ad _))
    exact bodyPost_ret (v:=.tuple #[.agg #[.int .i64 0,.slice none 0 0,.slice none 0 0,.slice none 0 0],.bool false]) (Q01 rfl _ _ (w.heap.size+1) Q0a h5 rfl rfl rfl) rfl ⟨ad,0,none,0,0,none,0,0,none,0,0,rfl⟩
   | false =>
    have az:∀ (j:Nat) (x:Itm),j<k+1->ks[j]?=some x->itl x=false:=fun j x hj H=>by
     rcases lt_or_ge j k with h|h
     ·exact Hd.out j x h H
     obtain rfl:j=k:=by omega
     rw [G] at H;cases H;rfl
    have aG:=Qhd az;clear ag E al ai G F az
    go_wp2_with (refine wpList_load_mid (op:=⟨some 25,_,_,_,_,_⟩) (by rfl) 77 (.tmp 24) (by rfl) b (off+k*3) (by rfl) [.bool false,.slice Z a5 a3,.slice T V U] _ L Tryz.underlying77 rfl (by kernel_rfl) ?_)
    go_roundw
    case rel=>exact ⟨k+1,by omega,by go_num,S,aG⟩
    case measure=>simp [intOf];omega
  obtain rfl:y=k:=by omega
  have aP:=aF.out (fun i x H=>Hd.out i x (by have:=(List.getElem?_eq_some_iff.1 H).1;have:=a9.out;omega) H);have aT:ks.length=2:=a9.out.trans H2.out;obtain ⟨M,N,rfl⟩:∃ M N,ks=[M,N]:=by
   match ks,aT with
   | [M,N],_=>exact ⟨M,N,rfl⟩
  obtain ⟨l0,a6,D,bj,bh⟩:=M;obtain ⟨l1,aq,t1,bk,bi⟩:=N;have r0:Q02 w a6 D:=(Hi.out _ mem_cons_self).inv.1;have r1:Q02 w aq t1:=(Hi.out _ (List.mem_cons_of_mem _ mem_cons_self)).inv.1;obtain ⟨b,off,rfl,ax⟩:=Q05.cells (f:=Q0j) (size:=3) Q0k hk 0 (by simp);have ae:w.cell? ⟨b,off+1,none⟩=some a6:=by simpa using ax 1 a6 rfl
  obtain ⟨b',bo,e',ay⟩:=Q05.cells (f:=Q0j) (size:=3) Q0k hk 1 (by simp);simp only [Option.some.injEq,Addr.mk.injEq,and_true] at e';obtain ⟨rfl,rfl⟩:=e';have aR:w.cell? ⟨b,off+3+1,none⟩=some aq:=by have:=ay 1 aq rfl;rw [show off+(1*3+1)=off+3+1 from by omega] at this;exact this
  have aQ:=World.block_lt_of_cell? w _ ae;have bb:wr.cell? ⟨b,off+1,none⟩=some a6:=by rw [F.hb.cell (p:=⟨b,off+1,none⟩) aQ];exact ae
  obtain ⟨a0,q0,rfl,_,_⟩:=r0.form;obtain ⟨a1,q1,rfl,_,_⟩:=r1.form;have aU:D.length<=1048576:=aH.out _ mem_cons_self;have un:∀ u,Q02 u (.slice a0 D.length q0) D->Calls Tryz.prog 149 #[.slice a0 D.length q0] u _:=fun u z=>Q8i a0 D.length q0 D rfl u z (by omega);have aC:unE D=1:=Hu.out;rw [aC] at un;have Un:=Qhd un;subst aP;clear un ax ay ae aR aC aU
  go_wp2_with (first
   |(go_at_call 149;(with_reducible refine (Un.out wr (r0.below F.hb)).mono ?_);rintro e w3 ⟨v3,rfl,r3,b3⟩;have F3:=F.kept b3;obtain ⟨p3,bq,rfl,_,_⟩:=r3.form)
   |(refine Qla 134 2 (w.heap.size+1) Q0a F3.hz (by rfl) ?_)
   |((with_reducible refine Qgs 73 ?_);refine Qsa 134 2 73 (w.heap.size+1) zsh Q0a F3.hz (by rfl) (by rfl) (by intro u z;simp [zsh] at z;rcases z with rfl|rfl<;>rfl) F3.hb (by omega) ?_;intro w5 h5 ad _))
  exact bodyPost_ret (v:=.tuple #[.agg #[.int .i64 0,.slice none 0 0,.slice none 0 0,.slice none 0 0],.bool false]) (Q01 rfl _ _ (w.heap.size+1) Q0a h5 rfl rfl rfl) rfl ⟨ad,0,none,0,0,none,0,0,none,0,0,rfl⟩
theorem Qj8 (W:Option Addr)(tn Z:Nat)(V:Option Addr)(z I:Nat)(ks:List Itm)(ay:ks.length=z)(hs:z<=1048576)(b2:∀ k∈ks,(itt k).length<=1048576)(h2:z=2)(N:unE ((ks.map itt)[0]?.getD [])=0)(hf:Q19 ((ks.map itt)[0]?.getD [])=true)(w:World)(hk:Q05 Q0j 3 w (.slice V z I) ks)(hi:∀ k∈ks,Q17 w k) :
  Calls Tryz.prog 126 #[.agg #[.bool true,.slice W tn Z,.slice V z I]] w (Q5v (shpP (.lst (ks.map erI))) w):=by
 obtain ⟨w1,aD⟩:=Qe ((w.alloc (.cells #[.bool true,.slice W tn Z,.slice V z I] 77)).alloc (.cells #[.int .i64 0,.slice none 0 0,.slice none 0 0,.slice none 0 0] 134));have F1:ShW w [.bool true,.slice W tn Z,.slice V z I] zsh w1:=by rw [aD];exact ShW.start w _ _ _
 have bf:=Qhd aD;have aB:∀ (i:Nat) (k:Itm),ks[i]?=some k->itl k=true->shpP (.lst (ks.map erI))=none:=fun i k h1 h2=>by simp only [shpP,Q5p h1 h2]
 have bO:((z:Int)==17)=false:=by rw [beq_eq_false_iff_ne];omega
 have bP:((z:Int)==2)=true:=by rw [beq_iff_eq];omega
 have i0:(0:Int)<(z:Int):=by omega
 have i1:(1:Int)<(z:Int):=by omega
 have bV:0<z:=by omega
 have bX:1<z:=by omega
 have H2:=Qhd h2;have ar:(∀ (i:Nat) (k:Itm),ks[i]?=some k->itl k=false)->shpP (.lst (ks.map erI))=some (1,unP ((ks.map itt)[0]?.getD []),(ks.map itt)[1]?.getD [],[]):=fun h=>by
  simp only [shpP,Q39 h,length_map,ay];rw [if_neg (by omega),if_pos h2,if_pos N,if_pos hf]
 have bc:=Qhd b2;have Hu:=Qhd N;have Hf:=Qhd hf;clear h2 N hf b2;obtain ⟨O,hO⟩:=Qe (shpP (.lst (ks.map erI)));rw [<-hO] at aB ar;rw [<-hO];have bd:=Qhd aB;have b7:=Qhd ar;have ao:=Qhd ay;have Hi:=Qhd hi;clear aD aB ar ay hi hO;go_enter Tryz.func126,Tryz.ntmps126
 go_wp2_with fail
 rw [<-bf.out]
 go_loopw [22] (fun ix wr=>∃ k:Nat,k<=z/\ix=.int .i64 (k:Int)/\ShW w [.bool true,.slice W tn Z,.slice V z I] zsh wr/\Hid (∀ (j:Nat) (x:Itm),j<k->ks[j]?=some x->itl x=false)) (fun ix _=>z - (intOf ix).toNat)
 case atStart=>exact ⟨0,by omega,rfl,F1,Qhd (fun j x hj=>by omega)⟩
 case round =>
  clear F1;obtain ⟨k,bS,rfl,F,Hd⟩:=hrel;have bk:wr.cell? ⟨w.heap.size,2,none⟩=some (.slice V z I):=F.hx.cell 2;by_cases hlt:k<z
  ·have bR:(k:Int)<(z:Int):=by omega
   have aA:k<ks.length:=by rw [ao.out];exact hlt
   obtain ⟨b,off,rfl,hr⟩:=Q05.range Q0k (hk.below F.hb) k aA;have T:Q17 wr ks[k]:=(Hi.out _ (getElem_mem aA)).kept F.hb;have U:ks[k]?=some ks[k]:=List.getElem?_eq_getElem aA;obtain ⟨kid,ax⟩:=Qe (ks[k]);rw [<-ax] at hr T U;obtain ⟨l2,c8,t2,c3,bC⟩:=kid;obtain ⟨ai,aj,rfl,_,_⟩:=T.inv.1.form;obtain ⟨ae,af,rfl,_,_⟩:=T.inv.2.1.form;obtain ⟨ak,aC⟩:=Qe (t2.length);obtain ⟨ag,az⟩:=Qe (bC.length);rw [<-aC,<-az] at hr T U;change wr.rangeAt b (off+k*3) [.bool l2,.slice ai ak aj,.slice ae ag af] at hr;have F2:=F.kept ((Below.refl wr.heap.size wr).alloc (le_refl _) (.cells #[.bool l2,.slice ai ak aj,.slice ae ag af] 77));cases l2 with
   | true =>
    have bp:O=none:=bd.out k _ U rfl;subst bp;clear ax T aC az U F
    go_wp2_with (first
     |(refine wpList_load_mid (op:=⟨some 25,_,_,_,_,_⟩) (by rfl) 77 (.tmp 24) (by rfl) b (off+k*3) (by rfl) [.bool true,.slice ai ak aj,.slice ae ag af] _ hr Tryz.underlying77 rfl (by kernel_rfl) ?_)
     |(refine Qla 134 2 (w.heap.size+1) Q0a F2.hz (by rfl) ?_)
     |((with_reducible refine Qgs 28 ?_);refine Qsa 134 2 28 (w.heap.size+1) zsh Q0a F2.hz (by rfl) (by rfl) (by intro u N;simp [zsh] at N;rcases N with rfl|rfl<;>rfl) F2.hb (by omega) ?_;intro w5 h5 br _))
    exact bodyPost_ret (v:=.tuple #[.agg #[.int .i64 0,.slice none 0 0,.slice none 0 0,.slice none 0 0],.bool false]) (Q01 rfl _ _ (w.heap.size+1) Q0a h5 rfl rfl rfl) rfl ⟨br,0,none,0,0,none,0,0,none,0,0,rfl⟩
   | false =>
    have aZ:∀ (j:Nat) (x:Itm),j<k+1->ks[j]?=some x->itl x=false:=fun j x hj E=>by
     rcases lt_or_ge j k with h|h
     ·exact Hd.out j x h E
     obtain rfl:j=k:=by omega
     rw [U] at E;cases E;rfl
    have b9:=Qhd aZ;clear ax T aC az U F aZ
    go_wp2_with (refine wpList_load_mid (op:=⟨some 25,_,_,_,_,_⟩) (by rfl) 77 (.tmp 24) (by rfl) b (off+k*3) (by rfl) [.bool false,.slice ai ak aj,.slice ae ag af] _ hr Tryz.underlying77 rfl (by kernel_rfl) ?_)
    go_roundw
    case rel=>exact ⟨k+1,by omega,by go_num,F2,b9⟩
    case measure=>simp [intOf];omega
  obtain rfl:z=k:=by omega
  have aT:=b7.out (fun i x E=>Hd.out i x (by have:=(List.getElem?_eq_some_iff.1 E).1;have:=ao.out;omega) E);have bu:ks.length=2:=ao.out.trans H2.out;obtain ⟨x0,x1,rfl⟩:∃ x0 x1,ks=[x0,x1]:=by
   match ks,bu with
   | [x0,x1],_=>exact ⟨x0,x1,rfl⟩
  obtain ⟨l0,al,D,c0,bY⟩:=x0;obtain ⟨l1,aK,G,c2,bZ⟩:=x1;have r0:Q02 w al D:=(Hi.out _ mem_cons_self).inv.1;have r1:Q02 w aK G:=(Hi.out _ (List.mem_cons_of_mem _ mem_cons_self)).inv.1;obtain ⟨b,off,rfl,aW⟩:=Q05.cells (f:=Q0j) (size:=3) Q0k hk 0 (by simp);have au:w.cell? ⟨b,off+1,none⟩=some al:=by simpa using aW 1 al rfl
  obtain ⟨b',c6,e',aX⟩:=Q05.cells (f:=Q0j) (size:=3) Q0k hk 1 (by simp);simp only [Option.some.injEq,Addr.mk.injEq,and_true] at e';obtain ⟨rfl,rfl⟩:=e';have aY:w.cell? ⟨b,off+3+1,none⟩=some aK:=by have:=aX 1 aK rfl;rw [show off+(1*3+1)=off+3+1 from by omega] at this;exact this
  have aV:=World.block_lt_of_cell? w _ au;have bw:wr.cell? ⟨b,off+1,none⟩=some al:=by rw [F.hb.cell (p:=⟨b,off+1,none⟩) aV];exact au
  obtain ⟨a0,q0,rfl,_,_⟩:=r0.form;obtain ⟨H,J,rfl,_,_⟩:=r1.form;have bv:D.length<=1048576:=bc.out _ mem_cons_self;have un:∀ u,Q02 u (.slice a0 D.length q0) D->Calls Tryz.prog 149 #[.slice a0 D.length q0] u _:=fun u N=>Q8i a0 D.length q0 D rfl u N (by omega);have S:unE D=0:=Hu.out;have b0:Q19 D=true:=Hf.out;rw [S,b0] at un;have Un:=Qhd un;have bq:O=some (1,unP D,G,[]):=aT;subst bq;clear un aW aX au S b0 bv aT;have bx:wr.cell? ⟨w.heap.size+1,1,none⟩=some (.slice none 0 0):=F.hz.cell 1
  go_wp2_with (go_at_call 149;(with_reducible refine (Un.out wr (r0.below F.hb)).mono ?_);rintro e w3 ⟨v3,rfl,r3,b3⟩;have F3:=F.kept b3;obtain ⟨L,M,rfl,_,_⟩:=r3.form;have bz:w3.cell? ⟨w.heap.size+1,1,none⟩=some (.slice none 0 0):=F3.hz.cell 1;have bs:=F3.hz.free 1;have F4:=F3.set 1 (.slice L (unP D).length M);have r4:=F3.bytes (by intro x E k;simp [zsh] at E;rcases E with rfl|rfl<;>simp) 1 (.slice L (unP D).length M) r3)
  have b4:Below w.heap.size w (w3.setCell ⟨w.heap.size+1,1,none⟩ (.slice L (unP D).length M)):=F4.hb;have ad:(w3.setCell ⟨w.heap.size+1,1,none⟩ (.slice L (unP D).length M)).cell? ⟨b,off+3+1,none⟩=some (.slice H G.length J):=by rw [b4.cell (p:=⟨b,off+3+1,none⟩) aV];exact aY
  obtain ⟨w4,aE⟩:=Qe (w3.setCell ⟨w.heap.size+1,1,none⟩ (.slice L (unP D).length M));rw [<-aE] at F4 r4 ad
  try rw [<-aE]
  clear b4 aE F3 bz bs bx r3 bk F bw aY b3;refine Q1g (fun aa bb w'=>bb=(((((((aa.put (some 77) (.pointer (some ⟨w.heap.size,2,none⟩))).put (some 78) (.slice (some ⟨b,off,none⟩) z I)).put (some 79) (.pointer (some ⟨b,off+3,none⟩))).put (some 80) (.pointer (some ⟨b,off+3+1,none⟩))).put (some 81) (.slice H G.length J)).put (some 82) (.pointer (some ⟨w.heap.size+1,0,none⟩))).put (some 83) (.pointer (some ⟨w.heap.size+1,2,none⟩)))/\ShW w [.bool true,.slice W tn Z,.slice (some ⟨b,off,none⟩) z I] [.int .i64 1,(.slice L (unP D).length M),.slice H G.length J,.slice none 0 0] w'/\Q02 w' (.slice L (unP D).length M) (unP D)) ?_ ?_
  ·refine Q0w ((fun u=>Q0l ⟨w.heap.size,2,none⟩ (.slice (some ⟨b,off,none⟩) z I) u/\Q0l ⟨b,off+3+1,none⟩ (.slice H G.length J) u)) (by kernel_rfl) ?_;intro u0 S;simp only [List.length_cons,List.length_nil,Nat.reduceAdd,List.replicate_succ,List.replicate_zero];have F0:ShW w [.bool true,.slice W tn Z,.slice (some ⟨b,off,none⟩) z I] (zsh.set 1 (.slice L (unP D).length M)) u0:=by rw [S];exact F4.kept (Below.refl _ _).drew
   have bD:Q02 u0 (.slice L (unP D).length M) (unP D):=by rw [S];exact r4.kept (Below.refl _ _).drew
   have S0:(fun u=>Q0l ⟨w.heap.size,2,none⟩ (.slice (some ⟨b,off,none⟩) z I) u/\Q0l ⟨b,off+3+1,none⟩ (.slice H G.length J) u) u0:=⟨F0.hx.cell 2,by rw [S];exact ad⟩;have k1:∀ u:In (fun u=>Q0l ⟨w.heap.size,2,none⟩ (.slice (some ⟨b,off,none⟩) z I) u/\Q0l ⟨b,off+3+1,none⟩ (.slice H G.length J) u),u.val.cell? ⟨w.heap.size,2,none⟩=some (.slice (some ⟨b,off,none⟩) z I):=fun u=>u.held.1;have k2:∀ u:In (fun u=>Q0l ⟨w.heap.size,2,none⟩ (.slice (some ⟨b,off,none⟩) z I) u/\Q0l ⟨b,off+3+1,none⟩ (.slice H G.length J) u),u.val.cell? ⟨b,off+3+1,none⟩=some (.slice H G.length J):=fun u=>u.held.2;clear S F4 r4 ad;refine Qtk 0 (fun K y=>?_);simp only [Qzs] at y;go_simp;(first|refine y _ ?_|refine ⟨_,fun _=>rfl,y _ ?_⟩);clear y K;refine Qtk 1 (fun K y=>?_);simp only [Qzs] at y;go_simp;(first|refine y _ ?_|refine ⟨_,fun _=>rfl,y _ ?_⟩);clear y K;refine Qtk 2 (fun K y=>?_);simp only [Qzs] at y;go_simp;(first|refine y _ ?_|refine ⟨_,fun _=>rfl,y _ ?_⟩);clear y K;refine Qtk 3 (fun K y=>?_);simp only [Qzs] at y;go_simp;(first|refine y _ ?_|refine ⟨_,fun _=>rfl,y _ ?_⟩);clear y K;refine Qtk 4 (fun K y=>?_);simp only [Qzs] at y;go_simp;(first|refine y _ ?_|refine ⟨_,fun _=>rfl,y _ ?_⟩);clear y K;refine Qtk 5 (fun K y=>?_);simp only [Qzs] at y;go_simp;(first|refine y _ ?_|refine ⟨_,fun _=>rfl,y _ ?_⟩);clear y K;clear k1 k2;have y0:u0.cell? ⟨w.heap.size+1,0,none⟩=some (.int .i64 0):=F0.hz.cell 0;have g0:=F0.hz.free 0;have F5:=F0.set 0 (.int .i64 1);have q5:=F0.bytes (by intro x E k;simp [zsh] at E;rcases E with rfl|rfl|rfl<;>simp) 0 (.int .i64 1) bD;have S5:(fun u=>Q0l ⟨w.heap.size,2,none⟩ (.slice (some ⟨b,off,none⟩) z I) u/\Q0l ⟨b,off+3+1,none⟩ (.slice H G.length J) u) (u0.setCell ⟨w.heap.size+1,0,none⟩ (.int .i64 1)):=⟨F5.hx.cell 2,Q0l.grown S0.2 (Q0s 0 _) (by simp<;>omega)⟩
   (refine Q0f 6 (by rfl) (by kernel_rfl) (fun K y=>?_);simp only [Qzs] at y;go_simp)
   refine y _ _ S5 ?_;clear y K;refine Qtk 7 (fun K y=>?_);simp only [Qzs] at y;go_simp;(first|refine y _ ?_|refine ⟨_,fun _=>rfl,y _ ?_⟩);clear y K;have y5:(u0.setCell ⟨w.heap.size+1,0,none⟩ (.int .i64 1)).cell? ⟨w.heap.size+1,2,none⟩=some (.slice none 0 0):=F5.hz.cell 2;have g5:=F5.hz.free 2;have F6:=F5.set 2 (.slice H G.length J);have q6:=F5.bytes (by intro x E k;simp [zsh] at E;rcases E with rfl|rfl|rfl<;>simp) 2 (.slice H G.length J) q5;have S6:(fun u=>Q0l ⟨w.heap.size,2,none⟩ (.slice (some ⟨b,off,none⟩) z I) u/\Q0l ⟨b,off+3+1,none⟩ (.slice H G.length J) u) ((u0.setCell ⟨w.heap.size+1,0,none⟩ (.int .i64 1)).setCell ⟨w.heap.size+1,2,none⟩ (.slice H G.length J)):=⟨F6.hx.cell 2,Q0l.grown S5.2 (Q0s 2 _) (by simp<;>omega)⟩
   (refine Q0f 8 (by rfl) (by kernel_rfl) (fun K y=>?_);simp only [Qzs] at y;go_simp)
   refine y _ _ S6 ?_;clear y K;exact Q11 (by kernel_rfl) ⟨rfl,(by simp only [Act.put,Qzs]),F6,q6⟩
  rintro bb w9 ⟨rfl,F9,q9⟩;simp only [Act.put,Qzs];have c7:=r1.below F9.hb;clear F4 r4 ad
  go_wp2_with (first
   |(refine Qla 134 2 (w.heap.size+1) Q0a F9.hz (by rfl) ?_)
   |((with_reducible refine Qgs 92 ?_);refine Qsa 134 2 92 (w.heap.size+1) [.int .i64 1,(.slice L (unP D).length M),.slice H G.length J,.slice none 0 0] Q0a F9.hz (by rfl) (by rfl) (by intro u N;simp at N;rcases N with rfl|rfl|rfl|rfl<;>rfl) F9.hb (by omega) ?_;intro bK bn aU bl;have bE:=Q02.off_v q9 F9.hz (by intro x E k;simp at E;rcases E with rfl|rfl|rfl|rfl<;>simp) bl))
  exact bodyPost_ret (v:=.tuple #[.agg #[.int .i64 1,(.slice L (unP D).length M),.slice H G.length J,.slice none 0 0],.bool true]) (Q01 rfl _ _ (w.heap.size+1) Q0a bn rfl rfl rfl) rfl ⟨aU,L,M,H,J,none,0,[],rfl,bE,r1.below aU,⟨Q05.nil Q0p 1 bK,by simp⟩,rfl,by simp [Value.ownBlock]⟩
theorem Qj7 (ta:Option Addr)(tn tc:Nat)(ka:Option Addr)(D J:Nat)(ks:List Itm)(aO:ks.length=D)(hs:D<=1048576)(bp:∀ k∈ks,(itt k).length<=1048576)(h2:D=2)(T:unE ((ks.map itt)[0]?.getD [])=0)(hf:Q19 ((ks.map itt)[0]?.getD [])=false)(w:World)(hk:Q05 Q0j 3 w (.slice ka D J) ks)(hi:∀ k∈ks,Q17 w k) :
  Calls Tryz.prog 126 #[.agg #[.bool true,.slice ta tn tc,.slice ka D J]] w (Q5v (shpP (.lst (ks.map erI))) w):=by
 obtain ⟨w1,aT⟩:=Qe ((w.alloc (.cells #[.bool true,.slice ta tn tc,.slice ka D J] 77)).alloc (.cells #[.int .i64 0,.slice none 0 0,.slice none 0 0,.slice none 0 0] 134));have F1:ShW w [.bool true,.slice ta tn tc,.slice ka D J] zsh w1:=by rw [aT];exact ShW.start w _ _ _
 have bD:=Qhd aT;have aR:∀ (i:Nat) (k:Itm),ks[i]?=some k->itl k=true->shpP (.lst (ks.map erI))=none:=fun i k h1 h2=>by simp only [shpP,Q5p h1 h2]
 have c':((D:Int)==17)=false:=by rw [beq_eq_false_iff_ne];omega
 have ca:((D:Int)==2)=true:=by rw [beq_iff_eq];omega
 have i0:(0:Int)<(D:Int):=by omega
 have i1:(1:Int)<(D:Int):=by omega
 have cf:0<D:=by omega
 have ch:1<D:=by omega
 have H2:=Qhd h2;have aJ:(∀ (i:Nat) (k:Itm),ks[i]?=some k->itl k=false)->shpP (.lst (ks.map erI))=some (2,unP ((ks.map itt)[0]?.getD []),[],(ks.map itt).drop 1):=fun h=>by
  simp only [shpP,Q39 h,length_map,aO];rw [if_neg (by omega),if_pos h2,if_pos T,if_neg (by rw [hf];simp)]
 have bA:=Qhd bp;have Hu:=Qhd T;have Hf:=Qhd hf;clear h2 T hf bp;obtain ⟨O,hO⟩:=Qe (shpP (.lst (ks.map erI)));rw [<-hO] at aR aJ;rw [<-hO];have bB:=Qhd aR;have bw:=Qhd aJ;have aE:=Qhd aO;have Hi:=Qhd hi;clear aT aR aJ aO hi hO;go_enter Tryz.func126,Tryz.ntmps126
 go_wp2_with fail
 rw [<-bD.out]
 go_loopw [22] (fun ix wr=>∃ k:Nat,k<=D/\ix=.int .i64 (k:Int)/\ShW w [.bool true,.slice ta tn tc,.slice ka D J] zsh wr/\Hid (∀ (j:Nat) (x:Itm),j<k->ks[j]?=some x->itl x=false)) (fun ix _=>D - (intOf ix).toNat)
 case atStart=>exact ⟨0,by omega,rfl,F1,Qhd (fun j x hj=>by omega)⟩
 case round =>
  clear F1;obtain ⟨k,cc,rfl,F,Hd⟩:=hrel;have bG:wr.cell? ⟨w.heap.size,2,none⟩=some (.slice ka D J):=F.hx.cell 2;by_cases hlt:k<D
  ·have cb:(k:Int)<(D:Int):=by omega
   have aQ:k<ks.length:=by rw [aE.out];exact hlt
   obtain ⟨b,off,rfl,hr⟩:=Q05.range Q0k (hk.below F.hb) k aQ;have hI:Q17 wr ks[k]:=(Hi.out _ (getElem_mem aQ)).kept F.hb;have a6:ks[k]?=some ks[k]:=List.getElem?_eq_getElem aQ;obtain ⟨kid,aN⟩:=Qe (ks[k]);rw [<-aN] at hr hI a6;obtain ⟨l2,cr,t2,cm,bZ⟩:=kid;obtain ⟨ay,az,rfl,_,_⟩:=hI.inv.1.form;obtain ⟨au,av,rfl,_,_⟩:=hI.inv.2.1.form;obtain ⟨aA,aS⟩:=Qe (t2.length);obtain ⟨aw,aP⟩:=Qe (bZ.length);rw [<-aS,<-aP] at hr hI a6;change wr.rangeAt b (off+k*3) [.bool l2,.slice ay aA az,.slice au aw av] at hr;have F2:=F.kept ((Below.refl wr.heap.size wr).alloc (le_refl _) (.cells #[.bool l2,.slice ay aA az,.slice au aw av] 77));cases l2 with
   | true =>
    have bL:O=none:=bB.out k _ a6 rfl;subst bL;clear aN hI aS aP a6 F
    go_wp2_with (first
     |(refine wpList_load_mid (op:=⟨some 25,_,_,_,_,_⟩) (by rfl) 77 (.tmp 24) (by rfl) b (off+k*3) (by rfl) [.bool true,.slice ay aA az,.slice au aw av] _ hr Tryz.underlying77 rfl (by kernel_rfl) ?_)
     |(refine Qla 134 2 (w.heap.size+1) Q0a F2.hz (by rfl) ?_)
     |((with_reducible refine Qgs 28 ?_);refine Qsa 134 2 28 (w.heap.size+1) zsh Q0a F2.hz (by rfl) (by rfl) (by intro u T;simp [zsh] at T;rcases T with rfl|rfl<;>rfl) F2.hb (by omega) ?_;intro w5 h5 bO _))
    exact bodyPost_ret (v:=.tuple #[.agg #[.int .i64 0,.slice none 0 0,.slice none 0 0,.slice none 0 0],.bool false]) (Q01 rfl _ _ (w.heap.size+1) Q0a h5 rfl rfl rfl) rfl ⟨bO,0,none,0,0,none,0,0,none,0,0,rfl⟩
   | false =>
    have bn:∀ (j:Nat) (x:Itm),j<k+1->ks[j]?=some x->itl x=false:=fun j x hj H=>by
     rcases lt_or_ge j k with h|h
     ·exact Hd.out j x h H
     obtain rfl:j=k:=by omega
     rw [a6] at H;cases H;rfl
    have bx:=Qhd bn;clear aN hI aS aP a6 F bn
    go_wp2_with (refine wpList_load_mid (op:=⟨some 25,_,_,_,_,_⟩) (by rfl) 77 (.tmp 24) (by rfl) b (off+k*3) (by rfl) [.bool false,.slice ay aA az,.slice au aw av] _ hr Tryz.underlying77 rfl (by kernel_rfl) ?_)
    go_roundw
    case rel=>exact ⟨k+1,by omega,by go_num,F2,bx⟩
    case measure=>simp [intOf];omega
  obtain rfl:D=k:=by omega
  have bh:=bw.out (fun i x H=>Hd.out i x (by have:=(List.getElem?_eq_some_iff.1 H).1;have:=aE.out;omega) H);have bS:ks.length=2:=aE.out.trans H2.out;obtain ⟨x0,x1,rfl⟩:∃ x0 x1,ks=[x0,x1]:=by
   match ks,bS with
   | [x0,x1],_=>exact ⟨x0,x1,rfl⟩
  obtain ⟨l0,aB,I,ck,ci⟩:=x0;obtain ⟨l1,b2,z,cl,cj⟩:=x1;have r0:Q02 w aB I:=(Hi.out _ mem_cons_self).inv.1;have r1:Q02 w b2 z:=(Hi.out _ (List.mem_cons_of_mem _ mem_cons_self)).inv.1;obtain ⟨b,off,rfl,bk⟩:=Q05.cells (f:=Q0j) (size:=3) Q0k hk 0 (by simp);have aK:w.cell? ⟨b,off+1,none⟩=some aB:=by simpa using bk 1 aB rfl
  obtain ⟨b',cp,e',bl⟩:=Q05.cells (f:=Q0j) (size:=3) Q0k hk 1 (by simp);simp only [Option.some.injEq,Addr.mk.injEq,and_true] at e';obtain ⟨rfl,rfl⟩:=e';have bm:w.cell? ⟨b,off+3+1,none⟩=some b2:=by have:=bl 1 b2 rfl;rw [show off+(1*3+1)=off+3+1 from by omega] at this;exact this
  have bj:=World.block_lt_of_cell? w _ aK;have bU:wr.cell? ⟨b,off+1,none⟩=some aB:=by rw [F.hb.cell (p:=⟨b,off+1,none⟩) bj];exact aK
  obtain ⟨a0,q0,rfl,_,_⟩:=r0.form;obtain ⟨E,G,rfl,_,_⟩:=r1.form;have bT:I.length<=1048576:=bA.out _ mem_cons_self;have un:∀ u,Q02 u (.slice a0 I.length q0) I->Calls Tryz.prog 149 #[.slice a0 I.length q0] u _:=fun u T=>Q8i a0 I.length q0 I rfl u T (by omega);have a2:unE I=0:=Hu.out;have bo:Q19 I=false:=Hf.out;rw [a2,bo] at un;have Un:=Qhd un;have bM:O=some (2,unP I,[],[z]):=bh;subst bM;clear un bk bl aK a2 bo bT bh;have bV:wr.cell? ⟨w.heap.size+1,1,none⟩=some (.slice none 0 0):=F.hz.cell 1
  go_wp2_with (go_at_call 149;(with_reducible refine (Un.out wr (r0.below F.hb)).mono ?_);rintro e w3 ⟨v3,rfl,r3,b3⟩;have F3:=F.kept b3;obtain ⟨M,N,rfl,_,_⟩:=r3.form;have bW:w3.cell? ⟨w.heap.size+1,1,none⟩=some (.slice none 0 0):=F3.hz.cell 1;have bP:=F3.hz.free 1;have F4:=F3.set 1 (.slice M (unP I).length N);have r4:=F3.bytes (by intro x H k;simp [zsh] at H;rcases H with rfl|rfl<;>simp) 1 (.slice M (unP I).length N) r3)
  have br:Below w.heap.size w (w3.setCell ⟨w.heap.size+1,1,none⟩ (.slice M (unP I).length N)):=F4.hb;have ar:(w3.setCell ⟨w.heap.size+1,1,none⟩ (.slice M (unP I).length N)).cell? ⟨b,off+3+1,none⟩=some (.slice E z.length G):=by rw [br.cell (p:=⟨b,off+3+1,none⟩) bj];exact bm
  obtain ⟨w4,aU⟩:=Qe (w3.setCell ⟨w.heap.size+1,1,none⟩ (.slice M (unP I).length N));rw [<-aU] at F4 r4 ar
  try rw [<-aU]
  clear br aU F3 bW bP bV r3 bG F bU bm b3;refine Q1g (fun aa bb w'=>∃ V:Nat,bb=((((((((aa.put (some 84) (.pointer (some ⟨w.heap.size,2,none⟩))).put (some 85) (.slice (some ⟨b,off,none⟩) D J)).put (some 86) (.pointer (some ⟨b,off+3,none⟩))).put (some 87) (.pointer (some ⟨b,off+3+1,none⟩))).put (some 88) (.slice E z.length G)).put (some 89) (.slice (some ⟨V,0,none⟩) 1 1)).put (some 90) (.pointer (some ⟨w.heap.size+1,0,none⟩))).put (some 91) (.pointer (some ⟨w.heap.size+1,3,none⟩)))/\w.heap.size+1<V/\ShW w [.bool true,.slice ta tn tc,.slice (some ⟨b,off,none⟩) D J] [.int .i64 2,(.slice M (unP I).length N),.slice none 0 0,.slice (some ⟨V,0,none⟩) 1 1] w'/\Q02 w' (.slice M (unP I).length N) (unP I)/\Q05 Q0p 1 w' (.slice (some ⟨V,0,none⟩) 1 1) [((.slice E z.length G),z)]) ?_ ?_
  ·refine Q0w ((fun u=>Q0l ⟨w.heap.size,2,none⟩ (.slice (some ⟨b,off,none⟩) D J) u/\Q0l ⟨b,off+3+1,none⟩ (.slice E z.length G) u)) (by kernel_rfl) ?_;intro u0 a2;simp only [List.length_cons,List.length_nil,Nat.reduceAdd,List.replicate_succ,List.replicate_zero];have W:ShW w [.bool true,.slice ta tn tc,.slice (some ⟨b,off,none⟩) D J] (zsh.set 1 (.slice M (unP I).length N)) u0:=by rw [a2];exact F4.kept (Below.refl _ _).drew
   have bs:Q02 u0 (.slice M (unP I).length N) (unP I):=by rw [a2];exact r4.kept (Below.refl _ _).drew
   have S0:(fun u=>Q0l ⟨w.heap.size,2,none⟩ (.slice (some ⟨b,off,none⟩) D J) u/\Q0l ⟨b,off+3+1,none⟩ (.slice E z.length G) u) u0:=⟨W.hx.cell 2,by rw [a2];exact ar⟩;have k1:∀ u:In (fun u=>Q0l ⟨w.heap.size,2,none⟩ (.slice (some ⟨b,off,none⟩) D J) u/\Q0l ⟨b,off+3+1,none⟩ (.slice E z.length G) u),u.val.cell? ⟨w.heap.size,2,none⟩=some (.slice (some ⟨b,off,none⟩) D J):=fun u=>u.held.1;have k2:∀ u:In (fun u=>Q0l ⟨w.heap.size,2,none⟩ (.slice (some ⟨b,off,none⟩) D J) u/\Q0l ⟨b,off+3+1,none⟩ (.slice E z.length G) u),u.val.cell? ⟨b,off+3+1,none⟩=some (.slice E z.length G):=fun u=>u.held.2;clear a2 F4 r4 ar;refine Qtk 0 (fun K y=>?_);simp only [Qzs] at y;go_simp;(first|refine y _ ?_|refine ⟨_,fun _=>rfl,y _ ?_⟩);clear y K;refine Qtk 1 (fun K y=>?_);simp only [Qzs] at y;go_simp;(first|refine y _ ?_|refine ⟨_,fun _=>rfl,y _ ?_⟩);clear y K;refine Qtk 2 (fun K y=>?_);simp only [Qzs] at y;go_simp;(first|refine y _ ?_|refine ⟨_,fun _=>rfl,y _ ?_⟩);clear y K;refine Qtk 3 (fun K y=>?_);simp only [Qzs] at y;go_simp;(first|refine y _ ?_|refine ⟨_,fun _=>rfl,y _ ?_⟩);clear y K;refine Qtk 4 (fun K y=>?_);simp only [Qzs] at y;go_simp;(first|refine y _ ?_|refine ⟨_,fun _=>rfl,y _ ?_⟩);clear y K;refine Qtk 6 (fun K y=>?_);simp only [Qzs] at y;go_simp;(first|refine y _ ?_|refine ⟨_,fun _=>rfl,y _ ?_⟩);clear y K;clear k1 k2;refine Q4q [5,7] (by kernel_rfl) (by simp) ?_;intro i hi;simp only [List.mem_cons,List.not_mem_nil,or_false] at hi;rcases hi with rfl|rfl
   ·have b5:Below u0.heap.size u0 (u0.alloc (.cells #[(.slice E z.length G)] 25)):=Qba _ _;have S:=W.kept b5;have q5:=bs.kept b5;have bu:Q05 Q0p 1 (u0.alloc (.cells #[(.slice E z.length G)] 25)) (.slice (some ⟨u0.heap.size,0,none⟩) 1 1) [((.slice E z.length G),z)]:=D02 (f:=Q0p) (size:=1) (fun _=>rfl) u0 25 [((.slice E z.length G),z)] 1 rfl (by unfold maxLen;omega);have Z:(fun u=>Q0l ⟨w.heap.size,2,none⟩ (.slice (some ⟨b,off,none⟩) D J) u/\Q0l ⟨b,off+3+1,none⟩ (.slice E z.length G) u) (u0.alloc (.cells #[(.slice E z.length G)] 25)):=⟨S.hx.cell 2,Q0l.below S0.2 b5⟩;have aq:w.heap.size+1<u0.heap.size:=W.hz.lt
    (refine Q31 (i:=5) (by rfl) (fun K y=>?_);simp only [Qzs] at y;go_simp)
    refine y _ _ Z ?_;clear y K;obtain ⟨u1,a3⟩:=Qe (u0.alloc (.cells #[(.slice E z.length G)] 25));rw [<-a3] at S q5 bu Z;rw [<-a3];clear a3 b5;have y5:u1.cell? ⟨w.heap.size+1,0,none⟩=some (.int .i64 0):=S.hz.cell 0;have g5:=S.hz.free 0;have L:=S.set 0 (.int .i64 2);have q6:=S.bytes (by intro x H k;simp [zsh] at H;rcases H with rfl|rfl|rfl<;>simp) 0 (.int .i64 2) q5;have ak:=bu.grownNe (Q0s (g:=w.heap.size+1) 0 (.int .i64 2)) (by omega);have U:(fun u=>Q0l ⟨w.heap.size,2,none⟩ (.slice (some ⟨b,off,none⟩) D J) u/\Q0l ⟨b,off+3+1,none⟩ (.slice E z.length G) u) (u1.setCell ⟨w.heap.size+1,0,none⟩ (.int .i64 2)):=⟨L.hx.cell 2,Q0l.grown Z.2 (Q0s 0 _) (by simp<;>omega)⟩
    (refine Q0f 7 (by rfl) (by kernel_rfl) (fun K y=>?_);simp only [Qzs] at y;go_simp)
    refine y _ _ U ?_;clear y K;obtain ⟨u2,a4⟩:=Qe (u1.setCell ⟨w.heap.size+1,0,none⟩ (.int .i64 2));rw [<-a4] at L q6 ak U;rw [<-a4];clear a4 y5 g5;have bN:=U;refine Qtk 8 (fun K y=>?_);simp only [Qzs] at y;go_simp;(first|refine y _ ?_|refine ⟨_,fun _=>rfl,y _ ?_⟩);clear y K;have y6:u2.cell? ⟨w.heap.size+1,3,none⟩=some (.slice none 0 0):=L.hz.cell 3;have g6:=L.hz.free 3;have F7:=L.set 3 (.slice (some ⟨u0.heap.size,0,none⟩) 1 1);have q7:=L.bytes (by intro x H k;simp [zsh] at H;rcases H with rfl|rfl|rfl<;>simp) 3 (.slice (some ⟨u0.heap.size,0,none⟩) 1 1) q6;have b1:=ak.grownNe (Q0s (g:=w.heap.size+1) 3 (.slice (some ⟨u0.heap.size,0,none⟩) 1 1)) (by omega);have S7:(fun u=>Q0l ⟨w.heap.size,2,none⟩ (.slice (some ⟨b,off,none⟩) D J) u/\Q0l ⟨b,off+3+1,none⟩ (.slice E z.length G) u) (u2.setCell ⟨w.heap.size+1,3,none⟩ (.slice (some ⟨u0.heap.size,0,none⟩) 1 1)):=⟨F7.hx.cell 2,Q0l.grown U.2 (Q0s 3 _) (by simp<;>omega)⟩
    (refine Q0f 9 (by rfl) (by kernel_rfl) (fun K y=>?_);simp only [Qzs] at y;go_simp)
    refine y _ _ S7 ?_;clear y K;exact Q11 (by kernel_rfl) ⟨rfl,u0.heap.size,(by simp only [Act.put,Qzs]),aq,F7,q7,b1⟩
   have y5:u0.cell? ⟨w.heap.size+1,0,none⟩=some (.int .i64 0):=W.hz.cell 0;have g5:=W.hz.free 0;have S:=W.set 0 (.int .i64 2);have q5:=W.bytes (by intro x H k;simp [zsh] at H;rcases H with rfl|rfl|rfl<;>simp) 0 (.int .i64 2) bs;have Z:(fun u=>Q0l ⟨w.heap.size,2,none⟩ (.slice (some ⟨b,off,none⟩) D J) u/\Q0l ⟨b,off+3+1,none⟩ (.slice E z.length G) u) (u0.setCell ⟨w.heap.size+1,0,none⟩ (.int .i64 2)):=⟨S.hx.cell 2,Q0l.grown S0.2 (Q0s 0 _) (by simp<;>omega)⟩
   (refine Q31 (i:=7) (by rfl) (fun K y=>?_);simp only [Qzs] at y;go_simp)
   refine y _ _ Z ?_;clear y K;obtain ⟨u1,a3⟩:=Qe (u0.setCell ⟨w.heap.size+1,0,none⟩ (.int .i64 2));rw [<-a3] at S q5 Z;rw [<-a3];clear a3 y5 g5;have b6:Below u1.heap.size u1 (u1.alloc (.cells #[(.slice E z.length G)] 25)):=Qba _ _;have L:=S.kept b6;have q6:=q5.kept b6;have ak:Q05 Q0p 1 (u1.alloc (.cells #[(.slice E z.length G)] 25)) (.slice (some ⟨u1.heap.size,0,none⟩) 1 1) [((.slice E z.length G),z)]:=D02 (f:=Q0p) (size:=1) (fun _=>rfl) u1 25 [((.slice E z.length G),z)] 1 rfl (by unfold maxLen;omega);have U:(fun u=>Q0l ⟨w.heap.size,2,none⟩ (.slice (some ⟨b,off,none⟩) D J) u/\Q0l ⟨b,off+3+1,none⟩ (.slice E z.length G) u) (u1.alloc (.cells #[(.slice E z.length G)] 25)):=⟨L.hx.cell 2,Q0l.below Z.2 b6⟩;have aq:w.heap.size+1<u1.heap.size:=S.hz.lt
   (refine Q0f 5 (by rfl) (by kernel_rfl) (fun K y=>?_);simp only [Qzs] at y;go_simp)
   refine y _ _ U ?_;clear y K;obtain ⟨u2,a4⟩:=Qe (u1.alloc (.cells #[(.slice E z.length G)] 25));rw [<-a4] at L q6 ak U;rw [<-a4];clear a4 b6;have bN:=U;refine Qtk 8 (fun K y=>?_);simp only [Qzs] at y;go_simp;(first|refine y _ ?_|refine ⟨_,fun _=>rfl,y _ ?_⟩);clear y K;have y6:u2.cell? ⟨w.heap.size+1,3,none⟩=some (.slice none 0 0):=L.hz.cell 3;have g6:=L.hz.free 3;have F7:=L.set 3 (.slice (some ⟨u1.heap.size,0,none⟩) 1 1);have q7:=L.bytes (by intro x H k;simp [zsh] at H;rcases H with rfl|rfl|rfl<;>simp) 3 (.slice (some ⟨u1.heap.size,0,none⟩) 1 1) q6;have b1:=ak.grownNe (Q0s (g:=w.heap.size+1) 3 (.slice (some ⟨u1.heap.size,0,none⟩) 1 1)) (by omega);have S7:(fun u=>Q0l ⟨w.heap.size,2,none⟩ (.slice (some ⟨b,off,none⟩) D J) u/\Q0l ⟨b,off+3+1,none⟩ (.slice E z.length G) u) (u2.setCell ⟨w.heap.size+1,3,none⟩ (.slice (some ⟨u1.heap.size,0,none⟩) 1 1)):=⟨F7.hx.cell 2,Q0l.grown U.2 (Q0s 3 _) (by simp<;>omega)⟩
   (refine Q0f 9 (by rfl) (by kernel_rfl) (fun K y=>?_);simp only [Qzs] at y;go_simp)
   refine y _ _ S7 ?_;clear y K;exact Q11 (by kernel_rfl) ⟨rfl,u1.heap.size,(by simp only [Act.put,Qzs]),aq,F7,q7,b1⟩
  rintro bb w9 ⟨V,rfl,aq,F9,q9,c4⟩;simp only [Act.put,Qzs];have cq:=r1.below F9.hb;clear F4 r4 ar
  go_wp2_with (first
   |(refine Qla 134 2 (w.heap.size+1) Q0a F9.hz (by rfl) ?_)
   |((with_reducible refine Qgs 92 ?_);refine Qsa 134 2 92 (w.heap.size+1) [.int .i64 2,(.slice M (unP I).length N),.slice none 0 0,.slice (some ⟨V,0,none⟩) 1 1] Q0a F9.hz (by rfl) (by rfl) (by intro u T;simp at T;rcases T with rfl|rfl|rfl|rfl<;>rfl) F9.hb (by omega) ?_;intro c7 bJ bi bg;have c0:=Q02.off_v q9 F9.hz (by intro x H k;simp at H;rcases H with rfl|rfl|rfl|rfl<;>simp) bg;have c3:=c4.grownNe bg (by omega)))
  exact bodyPost_ret (v:=.tuple #[.agg #[.int .i64 2,(.slice M (unP I).length N),.slice none 0 0,.slice (some ⟨V,0,none⟩) 1 1],.bool true]) (Q01 rfl _ _ (w.heap.size+1) Q0a bJ rfl rfl rfl) rfl ⟨bi,M,N,none,0,some ⟨V,0,none⟩,1,[((.slice E z.length G),z)],rfl,c0,Q05.nil b8 1 c7,⟨c3,by intro p hp;rw [List.mem_singleton] at hp;subst hp;exact r1.below bi⟩,rfl,fun x H=>by simp [Value.ownBlock] at H;omega⟩
end Go.Proofs.YtbdmkfjgnjfjbaaGreat
