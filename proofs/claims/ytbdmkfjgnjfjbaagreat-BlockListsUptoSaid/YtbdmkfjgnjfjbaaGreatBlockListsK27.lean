/- The reference's HRead: two shapes are tried. -/
import Derived.Test.YtbdmkfjgnjfjbaaGreatBlockListsK26
set_option linter.unusedSimpArgs false
set_option linter.unusedVariables false
set_option maxHeartbeats 4000000
set_option maxRecDepth 100000
open List (getElem?_map getElem_map getElem_mem length_append length_map length_take map_append mem_append mem_cons_self mem_singleton)
open Nat (le_refl le_trans lt_or_ge)
namespace Go.Proofs.YtbdmkfjgnjfjbaaGreat
open Go.RowKit
structure TrS (B:Nat)(w:World)(s:Shp):Prop where
 far:∀ x,s.kv.ownBlock=some x->x≠B
 is:Quh w s
 hp:s.p.length<=4194304
 hv:s.v.length<=1048576
 hk:s.ps.length<=1048576
 hks:∀ q∈s.ps,q.2.length<=1048576
theorem TrS.zero (B:Nat)(w:World):TrS B w zShp:=⟨by intro x hx;simp [zShp,Value.ownBlock] at hx,Qrh w,by simp [zShp],by simp [zShp],by simp [zShp],by simp [zShp]⟩
theorem TrS.two {B:Nat}{w:World}{s:Shp}(h:TrS B w s):∀ x∈[zShp,s],TrS B w x:=fun x hx=>by
 simp only [List.mem_cons,List.not_mem_nil,or_false] at hx;rcases hx with rfl|rfl
 ·exact TrS.zero B w
 exact h
def OneS (s:Shp):Ty:=fun u w=>∃ g,u=.slice (some ⟨g,0,none⟩) 1 1/\Q05 Q2p 4 w u [s]
theorem OneS.mono (s:Shp):Mono (OneS s):=fun _ _ _ ⟨g,h1,h2⟩ hb=>⟨g,h1,Q05.kept h2 hb⟩
theorem Qju (a:Option Addr)(L c:Nat)(b:List UInt8)(hL:b.length=L)(cl:L<=1048576)(p:Pit)(hd:dec b=some p)(h2:Q66 p=2)(hf:Q19 ((kidT p)[0]?.getD [])=true)(w:World)(h:Q02 w (.slice a L c) b):Calls Tryz.prog 128 #[.slice a L c] w (Q3x (rdB b) w):=by
 have hz:Blk 134 (w.alloc (.cells zsh.toArray 134)) w.heap.size zsh:=D01 w _ _;have dv:Below w.heap.size w (w.alloc (.cells zsh.toArray 134)):=Qba _ _;have dC:=hz.lt;have cc:=fun u (E:Q02 u (.slice a L c) b)=>Q3d a L c b hL cl u E;have hE:decE b=0:=by unfold decE;rw [hd];rfl
 have hP:decP b=p:=by unfold decP;rw [hd];rfl
 have cG:(encP p).length<=1048576:=by rw [<-Q36 hd,hL];exact cl
 have bO:=fun (l:List (List UInt8)) (hk:Q5b p l)=>Qi7 b p l hd (by omega) hk;obtain ⟨O,hO⟩:=Qe (rdB b);rw [<-hO] at bO;rw [<-hO];rw [hE] at cc;have C:=Qhd cc;have HP:=Qhd hP;have bu:=Qhd cG;have d9:=Qhd bO;have HL:=Qhd hL;have H2:=Qhd h2;have Hf:=Qhd hf;clear h2 hf;clear cc hE hP cG bO hO hd hL;go_enter Tryz.func128,Tryz.ntmps128
 go_wp2_with (first
  |(go_at_call 45;(with_reducible refine (C.out _ (h.alloc _)).mono ?_);rintro e w1 ⟨it,rfl,b1,hF,ct,he⟩;have cT:=hz.kept b1;have cu:=D00 dv b1;obtain ⟨l,tv,t,kv,ks⟩:=it;have cE:ks.length=Q66 p/\Q5b p (ks.map itt)/\ks.map itt=kidT p:=Qcj ct (he.trans HP.out);obtain ⟨ta,tc,rfl,_,_⟩:=hF.is.inv.1.form;obtain ⟨ka,kc,rfl,_,_⟩:=hF.is.inv.2.1.form;obtain ⟨tn,bU⟩:=Qe (t.length);obtain ⟨I,bd⟩:=Qe (ks.length);have bD:=hF.is;rw [<-bU,<-bd] at bD;rw [<-bU,<-bd];have aE:=Qhd bd.symm;have aX:=Qhd cE;have cN:=b1.size;clear bU bd cE he ct;simp only [Q0j])
  |((with_reducible refine Qgs 20 ?_);refine Qsa 77 4 20 w1.heap.size [.bool l,.slice ta tn tc,.slice ka I kc] Q09 (D01 w1 77 [.bool false,.slice none 0 0,.slice none 0 0]) (by rfl) (by rfl) (by intro u E;simp at E;rcases E with rfl|rfl|rfl<;>rfl) (((Below.refl w1.heap.size w1).alloc (le_refl _) (.cells #[.bool false,.slice none 0 0,.slice none 0 0] 77))) (le_refl _) ?_;intro w4 h4 b4 _;have G4:HrW w w1.heap.size [.bool l,.slice ta tn tc,.slice ka I kc] w4:=⟨D00 cu b4,cT.kept b4,h4,Nat.lt_of_lt_of_le dC cN⟩;have ck:=bD.kept b4;have df:w4.cell? ⟨w1.heap.size,2,none⟩=some (.slice ka I kc):=h4.cell 2))
 have dG:=ck.inv.2.1;have au:=ck.inv.2.2;obtain ⟨g4,bM⟩:=Qe (w1.heap.size);rw [<-bM] at G4;rw [<-bM];have ed:g4<w4.heap.size:=G4.h4.lt;have d8:=Qhd au;have ea:I<=1048576:=by have h1:=Q87 p;have h2:=bu.out;have h3:=aX.out.1;have h4:=aE.out;omega
 clear df au bM cT cu b1 bD hF cN h4 b4
 go_loopw [6,28] (fun lv ix wr=>∃ (i:Nat) (ps:List (Value × List UInt8)),i<=I/\ix=.int .i64 (i:Int)/\HrW w g4 [.bool l,.slice ta tn tc,.slice ka I kc] wr/\Below w4.heap.size w4 wr/\Q08 Q0p 1 25 wr w4.heap.size lv ps/\Hid (ps.map (·.2)=(ks.map itt).take i)/\Hid (∀ q∈ps,Q02 w4 q.1 q.2)) (fun _ ix _=>I - (intOf ix).toNat)
 case atStart=>exact ⟨0,[],by omega,rfl,G4,Below.refl _ _,Q08.nil Q0p 1 _ _ _,Qhd rfl,Qhd (by simp)⟩
 case round =>
  clear G4;obtain ⟨i,ps,e8,rfl,G,aG,hO,bw,bt⟩:=hrel;have bT:ps.length=i:=by
   have:=congrArg List.length bw.out;simp only [length_map,length_take] at this;have h2:=aE.out;omega
  obtain ⟨la,lc,rfl,_⟩:=hO.form' i bT;have aZ:=Qhd bT;clear bT;by_cases hlt:i<I
  ·have e7:(i:Int)<(I:Int):=by omega
   have a9:i<ks.length:=by rw [aE.out];exact hlt
   obtain ⟨b2,cU,rfl,hr⟩:=Q05.range Q0k (dG.below aG) i a9;have aF:=d8.out _ (getElem_mem a9);have bf:(ks.map itt).take (i+1)=(ks.map itt).take i++[itt ks[i]]:=by
    rw [List.take_succ_eq_append_getElem (by rw [length_map];exact a9),getElem_map]
   obtain ⟨kid,cD⟩:=Qe (ks[i]);rw [<-cD] at hr aF bf;obtain ⟨l2,ep,t2,eg,dO⟩:=kid;obtain ⟨aj,ak,rfl,_,_⟩:=aF.inv.1.form;obtain ⟨bX,bY,rfl,_,_⟩:=aF.inv.2.1.form;have bG:Q02 w4 (.slice aj t2.length ak) t2:=aF.inv.1;obtain ⟨aD,bV⟩:=Qe (t2.length);obtain ⟨bZ,cF⟩:=Qe (dO.length);rw [<-bV,<-cF] at hr;rw [<-bV] at bG;change wr.rangeAt b2 (cU+i*3) [.bool l2,.slice aj aD ak,.slice bX bZ bY] at hr;change (ks.map itt).take (i+1)=(ks.map itt).take i++[t2] at bf;have d':=Qhd bf;have d5:=Qhd bG;have bA:Below wr.heap.size wr (wr.alloc (.cells #[.bool l2,.slice aj aD ak,.slice bX bZ bY] 77)):=Qba _ _;have G2:=G.kept bA;have dt:=D00 aG bA;have O2:=hO.kept bA;clear cD aF bV cF bf bG a9
   go_wp2_with (first
    |(refine wpList_load_mid (op:=⟨some 31,_,_,_,_,_⟩) (by rfl) 77 (.tmp 30) (by rfl) b2 (cU+i*3) (by rfl) [.bool l2,.slice aj aD ak,.slice bX bZ bY] _ hr Tryz.underlying77 rfl (by kernel_rfl) ?_)
    |(refine Q0o (o:=⟨some 35,_,_,_,_,_⟩) (by rfl) 44 1 [(0,.tmp 34)] (by rfl) Q69 [(.slice aj aD ak,t2)] [.slice aj aD ak] (by rfl) (by rfl) (by rfl) (by omega) (by omega) ?_;intro w6 _ bh b6;have G6:=G2.kept b6;have O6:=O2.kept b6;have bH:=D00 dt b6;have dD:w4.heap.size<=w6.heap.size:=bH.size)
    |(refine Q0t (o:=⟨some 36,_,_,_,_,_⟩) (by rfl) (.tmp 32) (.tmp 35) 44 (by rfl) Q69 (by intro u E;simp [Q0p] at E;subst E;rfl) (by rfl) O6 (by rfl) bh dD (by rw [aZ.out];simp;omega) (by rw [aZ.out];unfold maxLen;simp;omega) ?_;intro v7 w7 cm ch _;obtain ⟨ei,ej,rfl,_⟩:=cm.form' (i+1) (by rw [length_append,aZ.out];rfl);have G7:=G6.grown ch (fun x z=>by have:=O6.lt x z;omega);have du:=bH.grown ch bH.size (fun x z=>O6.lt x z)))
   go_roundw
   case rel=>exact ⟨i+1,ps++[(.slice aj aD ak,t2)],by omega,by go_num,G7,du,cm,Qhd (by rw [map_append,bw.out,d'.out];rfl),Qhd (by intro q hq;rcases mem_append.1 hq with hq|hq;exact bt.out q hq;rw [mem_singleton] at hq;subst hq;exact d5.out)⟩
   case measure=>simp [intOf];omega
  obtain rfl:I=i:=by omega
  have cI:ps.map (·.2)=ks.map itt:=by rw [bw.out,List.take_of_length_le (by rw [length_map,aE.out];exact le_refl _)]
  have cL:hrd (ks.map itt) b=O:=d9.out _ aX.out.2.1;have cC:I=2:=aE.out.symm.trans (aX.out.1.trans H2.out);have e4:((I:Int)==17)=false:=by rw [beq_eq_false_iff_ne];omega
  have dm:((I:Int)==2)=true:=by rw [beq_iff_eq];omega
  have j0:(0:Int)<(I:Int):=by omega
  have j1:(1:Int)<(I:Int):=by omega
  have dL:0<I:=by omega
  have dN:1<I:=by omega
  have bN:ks.map itt=kidT p:=aX.out.2.2;have cH:ps.length=2:=by rw [aZ.out,cC]
  obtain ⟨y0,y1,rfl⟩:∃ y0 y1,ps=[y0,y1]:=by
   match ps,cH with
   | [y0,y1],_=>exact ⟨y0,y1,rfl⟩
  obtain ⟨v0,D⟩:=y0;obtain ⟨v1,H⟩:=y1;have r0:Q02 w4 v0 D:=bt.out _ mem_cons_self;have r1:Q02 w4 v1 H:=bt.out _ (List.mem_cons_of_mem _ mem_cons_self);have be:ks.map itt=[D,H]:=cI.symm;have au:kidT p=[D,H]:=bN.symm.trans be;have ec:D.length<=1048576:=le_trans (Q9f p D (by rw [au];simp)) bu.out;have dB:H.length<=1048576:=le_trans (Q9f p H (by rw [au];simp)) bu.out;have e6:∀ x,(Value.slice la I lc).ownBlock=some x->w4.heap.size<=x:=fun x z=>hO.lt x z;have cM:=hO.row;obtain ⟨bl,ol,rfl,cw⟩:=Q05.cells (f:=Q0p) (size:=1) (fun _=>rfl) cM 0 (by simp);have bI:wr.cell? ⟨bl,ol,none⟩=some v0:=by simpa using cw 0 v0 rfl
  obtain ⟨e0,el,e',cx⟩:=Q05.cells (f:=Q0p) (size:=1) (fun _=>rfl) cM 1 (by simp);simp only [Option.some.injEq,Addr.mk.injEq,and_true] at e';obtain ⟨rfl,rfl⟩:=e';have cy:wr.cell? ⟨bl,ol+1,none⟩=some v1:=by simpa using cx 0 v1 rfl
  have cv:=World.block_lt_of_cell? wr _ bI;obtain ⟨a0,q0,rfl,_,_⟩:=r0.form;obtain ⟨a1,q1,rfl,_,_⟩:=r1.form;have dr:unP D=unP D:=rfl;have un:∀ u,Q02 u (.slice a0 D.length q0) D->Calls Tryz.prog 153 #[.slice a0 D.length q0] u _:=fun u E=>Qaw a0 D.length q0 D rfl u E (by omega);have cR:(ks.map itt)[0]?.getD []=D:=by rw [be];rfl
  have bJ:Q19 D=true:=by rw [<-cR,bN];exact Hf.out
  rw [bJ] at un;have cQ:Q1t (ks.map itt)=[(0,[],[],[]),(1,unP D,H,[])]:=by
   unfold Q1t;rw [be];show _::((if 2=2 then (if Q19 D=true then _ else _) else [])++(if 2=17 then _ else []))=_;rw [bJ];rfl
  have da:=Qhd cQ;have ca:=Qhd cL;have Un:=Qhd un;clear cQ cL cI un dr cR be au bN bJ cC cw cx cH
  go_wp2_with (first
   |(refine Q0o (o:=⟨some 39,_,_,_,_,_⟩) (by rfl) 208 1 [(0,.tmp 38)] (by rfl) Qcx [zShp] [.agg #[.int .i64 0,.slice none 0 0,.slice none 0 0,.slice none 0 0]] (by rfl) (by rfl) (by rfl) (by omega) (by omega) ?_;intro w6 dy bh b6;have G6:=G.kept b6;have dg:w6.cell? ⟨bl,ol,none⟩=some (.slice a0 D.length q0):=by rw [b6.cell (p:=⟨bl,ol,none⟩) cv];exact bI)
   |(go_at_call 153;(with_reducible refine (Un.out _ ((r0.below aG).below b6)).mono ?_);rintro e w7 ⟨v7,rfl,r7,b7⟩;obtain ⟨p3,ai,rfl,_,_⟩:=r7.form;have G7:=G6.kept b7;have ce:=D00 b6 b7;have dh:w7.cell? ⟨bl,ol+1,none⟩=some (.slice a1 H.length q1):=by rw [ce.cell (p:=⟨bl,ol+1,none⟩) cv];exact cy)
   |(refine Q0o (o:=⟨some 58,_,_,_,_,_⟩) (by rfl) 208 1 [(0,.tmp 57)] (by rfl) Qcx [(⟨1,.slice p3 (unP D).length ai,unP D,.slice a1 H.length q1,H,.slice none 0 0,[]⟩:Shp)] [.agg #[.int .i64 1,.slice p3 (unP D).length ai,.slice a1 H.length q1,.slice none 0 0]] (by rfl) (by rfl) (by rfl) (by omega) (by omega) ?_;intro w8 dz cK b8;have G8:=G7.kept b8;have dd:=D00 ce b8;have cJ:=(bh.below b7).below b8)
   |(refine Q5z (o:=⟨some 59,_,_,_,_,_⟩) (by rfl) (.tmp 52) (.tmp 58) 208 (by rfl) Qcx (by intro u E;simp [Q2p] at E;rcases E with rfl|rfl|rfl|rfl<;>rfl) (by rfl) cJ (by rfl) cK (by simp) (by simp) (by simp) (by simp [maxLen]) ?_;intro v9 wS bi bS;have GS:=G8.kept bS;have de:=D00 dd bS;have dT:=(r7.below b8).below bS;obtain ⟨lS,cS,rfl,_⟩:=bi.form' 2 rfl))
  obtain ⟨bS,oS,rfl,_⟩:=Q05.cells (f:=Q2p) (size:=4) (fun _=>rfl) bi 0 (by simp);have cq:TrS w.heap.size wS (⟨1,.slice p3 (unP D).length ai,unP D,.slice a1 H.length q1,H,.slice none 0 0,[]⟩:Shp):=⟨(by intro x z;simp [Value.ownBlock] at z),⟨dT,((r1.below aG).below de),⟨Q05.nil Q0p 1 wS,by simp⟩⟩,(by have:=Qko D;show (unP D).length<=_;omega),dB,(by simp),(by simp)⟩;have bF:∀ x∈[zShp]++[(⟨1,.slice p3 (unP D).length ai,unP D,.slice a1 H.length q1,H,.slice none 0 0,[]⟩:Shp)],TrS w.heap.size wS x:=TrS.two cq;have bP:([zShp]++[(⟨1,.slice p3 (unP D).length ai,unP D,.slice a1 H.length q1,H,.slice none 0 0,[]⟩:Shp)]).length=2:=rfl;have bW:Q1t (ks.map itt)=([zShp]++[(⟨1,.slice p3 (unP D).length ai,unP D,.slice a1 H.length q1,H,.slice none 0 0,[]⟩:Shp)]).map toQ:=da.out;obtain ⟨SS,co⟩:=Qe ([zShp]++[(⟨1,.slice p3 (unP D).length ai,unP D,.slice a1 H.length q1,H,.slice none 0 0,[]⟩:Shp)]);rw [<-co] at bi bF bP bW;have HS:=Qhd bF;have c':=Qhd bP;have cb:=Qhd bW;clear co bF bP bW cq G aG hO G6 G7 G8 dg dh bh cK cJ r7 bI cy j0 j1 dL dN dm dy dz
  go_loopw [81] (fun ix wr=>∃ k:Nat,k<=2/\ix=.int .i64 (k:Int)/\HrW w g4 [.bool l,.slice ta tn tc,.slice ka I kc] wr/\Below wS.heap.size wS wr/\Hid (∀ (j:Nat) (x:Shp),j<k->SS[j]?=some x->hitQ b (toQ x)=false)) (fun ix _=>2 - (intOf ix).toNat)
  case atStart=>exact ⟨0,by omega,rfl,GS,Below.refl _ _,Qhd (fun j x hj=>by omega)⟩
  case round =>
   clear GS;obtain ⟨k,e9,rfl,G,cr,aY⟩:=hrel;by_cases hlk:k<2
   ·have eb:(k:Int)<2:=by omega
    have a9:k<SS.length:=by rw [c'.out];exact hlk
    obtain ⟨b3,o3,e3,ae⟩:=Q05.range (f:=Q2p) (size:=4) (fun _=>rfl) (bi.below cr) k a9;simp only [Option.some.injEq,Addr.mk.injEq,and_true] at e3;obtain ⟨rfl,rfl⟩:=e3;have hT:=HS.out _ (getElem_mem a9);have af:SS[k]?=some SS[k]:=List.getElem?_eq_getElem a9;obtain ⟨sk,cO⟩:=Qe (SS[k]);rw [<-cO] at ae hT af;obtain ⟨kd,pv,pp,vv,vb,kv,Z⟩:=sk;obtain ⟨i0,⟨i1,i2,i3⟩,q1,q2,q3,q4⟩:=hT;dsimp only at i0 i1 i2 i3 q1 q2 q3 q4;obtain ⟨J,K,rfl,_⟩:=i1.form' _ rfl;obtain ⟨S,T,rfl,_⟩:=i2.form' _ rfl;obtain ⟨M,N,rfl,_⟩:=i3.1.form' _ rfl;obtain ⟨U,aM⟩:=Qe (pp.length);obtain ⟨W,aO⟩:=Qe (vb.length);obtain ⟨V,aN⟩:=Qe (Z.length);rw [<-aM] at ae i1 af q1;rw [<-aO] at ae i2 af q2;rw [<-aN] at ae i0 i3 af q3;change wr.rangeAt bS (oS+k*4) [.int .i64 kd,.slice J U K,.slice S W T,.slice M V N] at ae;have aI:∀ u:World,Below wS.heap.size wS u->Calls Tryz.prog 136 #[.agg #[.int .i64 kd,.slice J U K,.slice S W T,.slice M V N]] u (Q8e (okQ (kd,pp,vb,Z.map (·.2))) (bQ (kd,pp,vb,Z.map (·.2))) u):=fun u E=>Q6q kd J S M U K W T V N pp vb Z aM.symm aO.symm aN.symm u (i1.below E) (i2.below E) (i3.below E) q1 q2 q3 q4;have bK:∀ u u':World,Below wS.heap.size wS u->Blk 134 u w.heap.size zsh->u.grownBy u' (some w.heap.size)->Below w.heap.size w u'->Q3x (some (kd,pp,vb,Z.map (·.2))) w (.returned (.tuple #[.agg #[.int .i64 kd,.slice J U K,.slice S W T,.slice M V N],.int .i64 0])) u':=fun u u' E hz hg hb=>⟨hb,J,K,S,T,M,N,Z,by rw [length_map,<-aM,<-aO,<-aN],by rw [<-aM];exact Q02.off_v (i1.below E) hz (by intro x z k;simp [zsh] at z;rcases z with rfl|rfl<;>simp) hg,by rw [<-aO];exact Q02.off_v (i2.below E) hz (by intro x z k;simp [zsh] at z;rcases z with rfl|rfl<;>simp) hg,by rw [length_map,<-aN];exact Q12.offB (i3.below E) hz (by intro x z k;simp [zsh] at z;rcases z with rfl|rfl<;>simp) hg i0,rfl⟩;have bA:Below wr.heap.size wr (wr.alloc (.cells #[.int .i64 kd,.slice J U K,.slice S W T,.slice M V N] 134)):=Qba _ _;have G8:=G.kept bA;have aq:=D00 cr bA;have ci:=D01 wr 134 [.int .i64 kd,.slice J U K,.slice S W T,.slice M V N];have dk:Blk 134 (wr.alloc (.cells #[.int .i64 kd,.slice J U K,.slice S W T,.slice M V N] 134)) wr.heap.size [.int .i64 kd,.slice J U K,.slice S W T,.slice M V N]:=ci;have dF:toQ ⟨kd,.slice J U K,pp,.slice S W T,vb,.slice M V N,Z⟩=(kd,pp,vb,Z.map (·.2)):=rfl;have ar:hitQ b (kd,pp,vb,Z.map (·.2))=true->O=some (kd,pp,vb,Z.map (·.2)):=fun hh=>by
     rw [<-ca.out,Q3s,cb.out];refine Q9q (k:=k) (fun j x hj z=>?_) (by rw [getElem?_map,af];rfl) hh;rw [getElem?_map] at z;cases hj2:SS[j]? with
     | none=>rw [hj2] at z;simp at z
     | some y =>
      rw [hj2] at z;simp only [Option.map_some,Option.some.injEq] at z;subst z;exact aY.out j y hj hj2
    have av:hitQ b (kd,pp,vb,Z.map (·.2))=false->∀ (j:Nat) (x:Shp),j<k+1->SS[j]?=some x->hitQ b (toQ x)=false:=fun hm j x hj z=>by
     rcases lt_or_ge j k with h|h
     ·exact aY.out j x h z
     obtain rfl:j=k:=by omega
     rw [af] at z;simp only [Option.some.injEq] at z;subst z;exact hm
    obtain ⟨ok,bR⟩:=Qe (okQ (kd,pp,vb,Z.map (·.2)));obtain ⟨TB,bE⟩:=Qe (bQ (kd,pp,vb,Z.map (·.2)));have cB:hitQ b (kd,pp,vb,Z.map (·.2))=(ok&&decide (TB=b)):=by unfold hitQ;rw [<-bR,<-bE]
    rw [cB] at ar av;simp only [<-bR,<-bE] at aI;obtain ⟨sq,cP⟩:=Qe (((kd,pp,vb,Z.map (·.2)):Shq));rw [<-cP] at ar bK;have d7:=Qhd bK;clear bK dF cB bR bE cP ci i0 i1 i2 i3 q1 q2 q3 q4 aM aO aN cO af a9 aY;cases ok with
    | false =>
     have aL:=av (by simp);have bv:=Qhd aL;have aJ:∀ u:World,Below wS.heap.size wS u->Calls Tryz.prog 136 #[.agg #[.int .i64 kd,.slice J U K,.slice S W T,.slice M V N]] u fun e w'=>∃ v,e=.returned (.tuple #[v,.int .i64 1])/\Q02 w' v []/\Below u.heap.size u w':=aI;have aW:=Qhd aJ;clear aI aJ ar av aL
     go_wp2_with (first
      |(refine wpList_load_mid (op:=⟨some 84,_,_,_,_,_⟩) (by rfl) 134 (.tmp 83) (by rfl) bS (oS+k*4) (by rfl) [.int .i64 kd,.slice J U K,.slice S W T,.slice M V N] _ ae Tryz.underlying134 rfl (by kernel_rfl) ?_)
      |(go_at_call 136;(with_reducible refine (aW.out _ aq).mono ?_);rintro e w8 ⟨v8,rfl,r8,a7⟩;have G9:=G8.kept a7;have aH:=D00 aq a7))
     go_roundw
     case rel=>exact ⟨k+1,by omega,by go_num,G9,aH,bv⟩
     case measure=>simp [intOf];omega
    | true =>
     have aJ:∀ u:World,Below wS.heap.size wS u->Calls Tryz.prog 136 #[.agg #[.int .i64 kd,.slice J U K,.slice S W T,.slice M V N]] u fun e w'=>∃ v,e=.returned (.tuple #[v,.int .i64 0])/\Q02 w' v TB/\Below u.heap.size u w':=aI;have aW:=Qhd aJ;clear aI aJ;by_cases heq:TB=b
     ·have dq:=ar (by rw [heq];simp);subst dq;clear ar av
      go_wp2_with (first
       |(refine wpList_load_mid (op:=⟨some 84,_,_,_,_,_⟩) (by rfl) 134 (.tmp 83) (by rfl) bS (oS+k*4) (by rfl) [.int .i64 kd,.slice J U K,.slice S W T,.slice M V N] _ ae Tryz.underlying134 rfl (by kernel_rfl) ?_)
       |(go_at_call 136;(with_reducible refine (aW.out _ aq).mono ?_);rintro e w8 ⟨v8,rfl,r8,a7⟩;have G9:=G8.kept a7;have aH:=D00 aq a7;have dl:=dk.kept a7;have s1:=Q0q (P:=Tryz.prog) (src:=25) (dst:=9) elU8.ht (by kernel_rfl) (by kernel_rfl) r8;have s2:=Q0q (P:=Tryz.prog) (src:=25) (dst:=9) elU8.ht (by kernel_rfl) (by kernel_rfl) (h.below G9.hb);rw [heq] at s1)
       |(refine Qla 134 14 wr.heap.size Q0a dl (by rfl) ?_)
       |((with_reducible refine Qgs 99 ?_);refine Qsa 134 2 99 w.heap.size [.int .i64 kd,.slice J U K,.slice S W T,.slice M V N] Q0a G9.hz (by rfl) (by rfl) (by intro u E;simp at E;rcases E with rfl|rfl|rfl|rfl<;>rfl) G9.hb (le_refl _) ?_;intro dX dj dw di))
      exact bodyPost_ret (v:=.tuple #[.agg #[.int .i64 kd,.slice J U K,.slice S W T,.slice M V N],.int .i64 0]) (Q01 rfl _ _ w.heap.size Q0a dj rfl rfl rfl) rfl (d7.out _ dX aH G9.hz di dw)
     have ee:(TB==b)=false:=by rw [beq_eq_false_iff_ne];exact heq
     have dH:decide (TB=b)=false:=decide_eq_false heq;have ef:decide ((⟨TB.toArray⟩:ByteArray)=⟨b.toArray⟩)=false:=by
      rw [decide_eq_false_iff_not];intro e;apply heq;simpa using congrArg (fun x:ByteArray=>x.data.toList) e
     have aL:=av (by rw [dH];rfl);have bv:=Qhd aL;clear heq ar av aL
     go_wp2_with (first
      |(refine wpList_load_mid (op:=⟨some 84,_,_,_,_,_⟩) (by rfl) 134 (.tmp 83) (by rfl) bS (oS+k*4) (by rfl) [.int .i64 kd,.slice J U K,.slice S W T,.slice M V N] _ ae Tryz.underlying134 rfl (by kernel_rfl) ?_)
      |(go_at_call 136;(with_reducible refine (aW.out _ aq).mono ?_);rintro e w8 ⟨v8,rfl,r8,a7⟩;have G9:=G8.kept a7;have aH:=D00 aq a7;have s1:=Q0q (P:=Tryz.prog) (src:=25) (dst:=9) elU8.ht (by kernel_rfl) (by kernel_rfl) r8;have s2:=Q0q (P:=Tryz.prog) (src:=25) (dst:=9) elU8.ht (by kernel_rfl) (by kernel_rfl) (h.below G9.hb)))
     go_roundw
     case rel=>exact ⟨k+1,by omega,by go_num,G9,aH,bv⟩
     case measure=>simp [intOf];omega
   obtain rfl:k=2:=by omega
   have dp:O=none:=by
    rw [<-ca.out,Q3s,cb.out];exact Qcv (fun j x z=>by
     rw [getElem?_map] at z;cases hj:SS[j]? with
     | none=>rw [hj] at z;simp at z
     | some y =>
      rw [hj] at z;simp only [Option.map_some,Option.some.injEq] at z;subst z;exact aY.out j y (by have:=(List.getElem?_eq_some_iff.1 hj).1;rw [c'.out] at this;exact this) hj)
   subst dp;have dI:=G.hz
   go_wp2_with ((with_reducible refine Qgs 101 ?_);refine Qsa 134 2 101 w.heap.size zsh Q0a dI (by rfl) (by rfl) (by intro u E;simp [zsh] at E;rcases E with rfl|rfl<;>rfl) G.hb (le_refl _) ?_;intro w9 h9 dx _)
   exact bodyPost_ret (v:=.tuple #[.agg #[.int .i64 0,.slice none 0 0,.slice none 0 0,.slice none 0 0],.int .i64 1]) (Q01 rfl _ _ w.heap.size Q0a h9 rfl rfl rfl) rfl ⟨dx,rfl⟩
theorem Qjt (a:Option Addr)(L c:Nat)(b:List UInt8)(hL:b.length=L)(cq:L<=1048576)(p:Pit)(hd:dec b=some p)(h2:Q66 p=2)(hf:Q19 ((kidT p)[0]?.getD [])=false)(w:World)(h:Q02 w (.slice a L c) b):Calls Tryz.prog 128 #[.slice a L c] w (Q3x (rdB b) w):=by
 have hz:Blk 134 (w.alloc (.cells zsh.toArray 134)) w.heap.size zsh:=D01 w _ _;have dB:Below w.heap.size w (w.alloc (.cells zsh.toArray 134)):=Qba _ _;have dJ:=hz.lt;have cc:=fun u (E:Q02 u (.slice a L c) b)=>Q3d a L c b hL cq u E;have hE:decE b=0:=by unfold decE;rw [hd];rfl
 have hP:decP b=p:=by unfold decP;rw [hd];rfl
 have cL:(encP p).length<=1048576:=by rw [<-Q36 hd,hL];exact cq
 have bT:=fun (l:List (List UInt8)) (hk:Q5b p l)=>Qi7 b p l hd (by omega) hk;obtain ⟨O,hO⟩:=Qe (rdB b);rw [<-hO] at bT;rw [<-hO];rw [hE] at cc;have C:=Qhd cc;have HP:=Qhd hP;have bx:=Qhd cL;have de:=Qhd bT;have HL:=Qhd hL;have H2:=Qhd h2;have Hf:=Qhd hf;clear h2 hf;clear cc hE hP cL bT hO hd hL;go_enter Tryz.func128,Tryz.ntmps128
 go_wp2_with (first
  |(go_at_call 45;(with_reducible refine (C.out _ (h.alloc _)).mono ?_);rintro e w1 ⟨it,rfl,b1,hF,cy,he⟩;have cX:=hz.kept b1;have cz:=D00 dB b1;obtain ⟨l,tv,t,kv,ks⟩:=it;have cJ:ks.length=Q66 p/\Q5b p (ks.map itt)/\ks.map itt=kidT p:=Qcj cy (he.trans HP.out);obtain ⟨ta,tc,rfl,_,_⟩:=hF.is.inv.1.form;obtain ⟨ka,kc,rfl,_,_⟩:=hF.is.inv.2.1.form;obtain ⟨tn,bY⟩:=Qe (t.length);obtain ⟨H,bf⟩:=Qe (ks.length);have bG:=hF.is;rw [<-bY,<-bf] at bG;rw [<-bY,<-bf];have aG:=Qhd bf.symm;have aZ:=Qhd cJ;have cR:=b1.size;clear bY bf cJ he cy;simp only [Q0j])
  |((with_reducible refine Qgs 20 ?_);refine Qsa 77 4 20 w1.heap.size [.bool l,.slice ta tn tc,.slice ka H kc] Q09 (D01 w1 77 [.bool false,.slice none 0 0,.slice none 0 0]) (by rfl) (by rfl) (by intro u E;simp at E;rcases E with rfl|rfl|rfl<;>rfl) (((Below.refl w1.heap.size w1).alloc (le_refl _) (.cells #[.bool false,.slice none 0 0,.slice none 0 0] 77))) (le_refl _) ?_;intro w4 h4 b4 _;have G4:HrW w w1.heap.size [.bool l,.slice ta tn tc,.slice ka H kc] w4:=⟨D00 cz b4,cX.kept b4,h4,Nat.lt_of_lt_of_le dJ cR⟩;have cp:=bG.kept b4;have dk:w4.cell? ⟨w1.heap.size,2,none⟩=some (.slice ka H kc):=h4.cell 2))
 have dN:=cp.inv.2.1;have ax:=cp.inv.2.2;obtain ⟨g4,bP⟩:=Qe (w1.heap.size);rw [<-bP] at G4;rw [<-bP];have ej:g4<w4.heap.size:=G4.h4.lt;have dd:=Qhd ax;have eg:H<=1048576:=by have h1:=Q87 p;have h2:=bx.out;have h3:=aZ.out.1;have h4:=aG.out;omega
 clear dk ax bP cX cz b1 bG hF cR h4 b4
 go_loopw [6,28] (fun lv ix wr=>∃ (i:Nat) (ps:List (Value × List UInt8)),i<=H/\ix=.int .i64 (i:Int)/\HrW w g4 [.bool l,.slice ta tn tc,.slice ka H kc] wr/\Below w4.heap.size w4 wr/\Q08 Q0p 1 25 wr w4.heap.size lv ps/\Hid (ps.map (·.2)=(ks.map itt).take i)/\Hid (∀ q∈ps,Q02 w4 q.1 q.2)) (fun _ ix _=>H - (intOf ix).toNat)
 case atStart=>exact ⟨0,[],by omega,rfl,G4,Below.refl _ _,Q08.nil Q0p 1 _ _ _,Qhd rfl,Qhd (by simp)⟩
 case round =>
  clear G4;obtain ⟨i,ps,ee,rfl,G,aI,hO,bB,bw⟩:=hrel;have bW:ps.length=i:=by
   have:=congrArg List.length bB.out;simp only [length_map,length_take] at this;have h2:=aG.out;omega
  obtain ⟨la,lc,rfl,_⟩:=hO.form' i bW;have b5:=Qhd bW;clear bW;by_cases hlt:i<H
  ·have ed:(i:Int)<(H:Int):=by omega
   have a':i<ks.length:=by rw [aG.out];exact hlt
   obtain ⟨b2,cY,rfl,hr⟩:=Q05.range Q0k (dN.below aI) i a';have aH:=dd.out _ (getElem_mem a');have bh:(ks.map itt).take (i+1)=(ks.map itt).take i++[itt ks[i]]:=by
    rw [List.take_succ_eq_append_getElem (by rw [length_map];exact a'),getElem_map]
   obtain ⟨kid,cI⟩:=Qe (ks[i]);rw [<-cI] at hr aH bh;obtain ⟨l2,ev,t2,em,dV⟩:=kid;obtain ⟨am,an,rfl,_,_⟩:=aH.inv.1.form;obtain ⟨c2,c3,rfl,_,_⟩:=aH.inv.2.1.form;have bJ:Q02 w4 (.slice am t2.length an) t2:=aH.inv.1;obtain ⟨aF,bZ⟩:=Qe (t2.length);obtain ⟨c4,cK⟩:=Qe (dV.length);rw [<-bZ,<-cK] at hr;rw [<-bZ] at bJ;change wr.rangeAt b2 (cY+i*3) [.bool l2,.slice am aF an,.slice c2 c4 c3] at hr;change (ks.map itt).take (i+1)=(ks.map itt).take i++[t2] at bh;have df:=Qhd bh;have da:=Qhd bJ;have bA:Below wr.heap.size wr (wr.alloc (.cells #[.bool l2,.slice am aF an,.slice c2 c4 c3] 77)):=Qba _ _;have G2:=G.kept bA;have dz:=D00 aI bA;have O2:=hO.kept bA;clear cI aH bZ cK bh bJ a'
   go_wp2_with (first
    |(refine wpList_load_mid (op:=⟨some 31,_,_,_,_,_⟩) (by rfl) 77 (.tmp 30) (by rfl) b2 (cY+i*3) (by rfl) [.bool l2,.slice am aF an,.slice c2 c4 c3] _ hr Tryz.underlying77 rfl (by kernel_rfl) ?_)
    |(refine Q0o (o:=⟨some 35,_,_,_,_,_⟩) (by rfl) 44 1 [(0,.tmp 34)] (by rfl) Q69 [(.slice am aF an,t2)] [.slice am aF an] (by rfl) (by rfl) (by rfl) (by omega) (by omega) ?_;intro w6 _ bj b6;have G6:=G2.kept b6;have O6:=O2.kept b6;have bK:=D00 dz b6;have dK:w4.heap.size<=w6.heap.size:=bK.size)
    |(refine Q0t (o:=⟨some 36,_,_,_,_,_⟩) (by rfl) (.tmp 32) (.tmp 35) 44 (by rfl) Q69 (by intro u E;simp [Q0p] at E;subst E;rfl) (by rfl) O6 (by rfl) bj dK (by rw [b5.out];simp;omega) (by rw [b5.out];unfold maxLen;simp;omega) ?_;intro v7 w7 cr cm _;obtain ⟨eo,ep,rfl,_⟩:=cr.form' (i+1) (by rw [length_append,b5.out];rfl);have G7:=G6.grown cm (fun x z=>by have:=O6.lt x z;omega);have dA:=bK.grown cm bK.size (fun x z=>O6.lt x z)))
   go_roundw
   case rel=>exact ⟨i+1,ps++[(.slice am aF an,t2)],by omega,by go_num,G7,dA,cr,Qhd (by rw [map_append,bB.out,df.out];rfl),Qhd (by intro q hq;rcases mem_append.1 hq with hq|hq;exact bw.out q hq;rw [mem_singleton] at hq;subst hq;exact da.out)⟩
   case measure=>simp [intOf];omega
  obtain rfl:H=i:=by omega
  have cN:ps.map (·.2)=ks.map itt:=by rw [bB.out,List.take_of_length_le (by rw [length_map,aG.out];exact le_refl _)]
  have cQ:hrd (ks.map itt) b=O:=de.out _ aZ.out.2.1;have cH:H=2:=aG.out.symm.trans (aZ.out.1.trans H2.out);have eb:((H:Int)==17)=false:=by rw [beq_eq_false_iff_ne];omega
  have dt:((H:Int)==2)=true:=by rw [beq_iff_eq];omega
  have j0:(0:Int)<(H:Int):=by omega
  have j1:(1:Int)<(H:Int):=by omega
  have dS:0<H:=by omega
  have dU:1<H:=by omega
  have bR:ks.map itt=kidT p:=aZ.out.2.2;have cM:ps.length=2:=by rw [b5.out,cH]
  obtain ⟨y0,y1,rfl⟩:∃ y0 y1,ps=[y0,y1]:=by
   match ps,cM with
   | [y0,y1],_=>exact ⟨y0,y1,rfl⟩
  obtain ⟨v0,D⟩:=y0;obtain ⟨v1,I⟩:=y1;have r0:Q02 w4 v0 D:=bw.out _ mem_cons_self;have r1:Q02 w4 v1 I:=bw.out _ (List.mem_cons_of_mem _ mem_cons_self);have bg:ks.map itt=[D,I]:=cN.symm;have ax:kidT p=[D,I]:=bR.symm.trans bg;have ei:D.length<=1048576:=le_trans (Q9f p D (by rw [ax];simp)) bx.out;have dI:I.length<=1048576:=le_trans (Q9f p I (by rw [ax];simp)) bx.out;have dE:∀ x,(Value.slice la H lc).ownBlock=some x->w4.heap.size<=x:=fun x z=>hO.lt x z;have bX:=hO.row;obtain ⟨bl,ol,rfl,cB⟩:=Q05.cells (f:=Q0p) (size:=1) (fun _=>rfl) bX 0 (by simp);have bL:wr.cell? ⟨bl,ol,none⟩=some v0:=by simpa using cB 0 v0 rfl
  obtain ⟨e9,er,e',cC⟩:=Q05.cells (f:=Q0p) (size:=1) (fun _=>rfl) bX 1 (by simp);simp only [Option.some.injEq,Addr.mk.injEq,and_true] at e';obtain ⟨rfl,rfl⟩:=e';have cD:wr.cell? ⟨bl,ol+1,none⟩=some v1:=by simpa using cC 0 v1 rfl
  have cA:=World.block_lt_of_cell? wr _ bL;obtain ⟨a0,q0,rfl,_,_⟩:=r0.form;obtain ⟨a1,q1,rfl,_,_⟩:=r1.form;have dx:unP D=unP D:=rfl;have un:∀ u,Q02 u (.slice a0 D.length q0) D->Calls Tryz.prog 153 #[.slice a0 D.length q0] u _:=fun u E=>Qaw a0 D.length q0 D rfl u E (by omega);have cW:(ks.map itt)[0]?.getD []=D:=by rw [bg];rfl
  have bM:Q19 D=false:=by rw [<-cW,bR];exact Hf.out
  rw [bM] at un;have cV:Q1t (ks.map itt)=[(0,[],[],[]),(2,unP D,[],[I])]:=by
   unfold Q1t;rw [bg];show _::((if 2=2 then (if Q19 D=true then _ else _) else [])++(if 2=17 then _ else []))=_;rw [bM];rfl
  have dg:=Qhd cV;have cf:=Qhd cQ;have Un:=Qhd un;obtain ⟨ac,af,d3,c8,d0⟩:=Qno Q69 bX 1 (by omega) 1 rfl;rw [show H - 1=1 from by omega] at d3 c8 d0;change Q05 Q0p 1 wr (.slice ac 1 af) [(.slice a1 I.length q1,I)] at c8;have dX:(1:Int)<=(H:Int):=by omega
  clear cV cQ cN un dx cW bg ax bR bM cH cB cC cM
  go_wp2_with (first
   |(refine Q0o (o:=⟨some 39,_,_,_,_,_⟩) (by rfl) 208 1 [(0,.tmp 38)] (by rfl) Qcx [zShp] [.agg #[.int .i64 0,.slice none 0 0,.slice none 0 0,.slice none 0 0]] (by rfl) (by rfl) (by rfl) (by omega) (by omega) ?_;intro w6 dF bj b6;have G6:=G.kept b6;have dl:w6.cell? ⟨bl,ol,none⟩=some (.slice a0 D.length q0):=by rw [b6.cell (p:=⟨bl,ol,none⟩) cA];exact bL)
   |(go_at_call 153;(with_reducible refine (Un.out _ ((r0.below aI).below b6)).mono ?_);rintro e w7 ⟨v7,rfl,r7,b7⟩;obtain ⟨p3,al,rfl,_,_⟩:=r7.form;have G7:=G6.kept b7;have ci:=D00 b6 b7;have dm:w7.cell? ⟨bl,ol+1,none⟩=some (.slice a1 I.length q1):=by rw [ci.cell (p:=⟨bl,ol+1,none⟩) cA];exact cD)
   |(refine Q0o (o:=⟨some 65,_,_,_,_,_⟩) (by rfl) 208 1 [(0,.tmp 64)] (by rfl) Qcx [(⟨2,.slice p3 (unP D).length al,unP D,.slice none 0 0,[],.slice ac 1 af,[(.slice a1 I.length q1,I)]⟩:Shp)] [.agg #[.int .i64 2,.slice p3 (unP D).length al,.slice none 0 0,.slice ac 1 af]] (by rfl) (by rfl) (by rfl) (by omega) (by omega) ?_;intro w8 dG cP b8;have G8:=G7.kept b8;have dj:=D00 ci b8;have cO:=(bj.below b7).below b8)
   |(refine Q5z (o:=⟨some 66,_,_,_,_,_⟩) (by rfl) (.tmp 60) (.tmp 65) 208 (by rfl) Qcx (by intro u E;simp [Q2p] at E;rcases E with rfl|rfl|rfl|rfl<;>rfl) (by rfl) cO (by rfl) cP (by simp) (by simp) (by simp) (by simp [maxLen]) ?_;intro v9 wS bk bS;have GS:=G8.kept bS;have cj:=D00 dj bS;have e1:=(r7.below b8).below bS;obtain ⟨lS,cS,rfl,_⟩:=bk.form' 2 rfl))
  obtain ⟨bS,oS,rfl,_⟩:=Q05.cells (f:=Q2p) (size:=4) (fun _=>rfl) bk 0 (by simp);have cw:TrS w.heap.size wS (⟨2,.slice p3 (unP D).length al,unP D,.slice none 0 0,[],.slice ac 1 af,[(.slice a1 I.length q1,I)]⟩:Shp):=⟨(by intro x z;have h1:=dE x (d0 x z _ _);have:=GS.hg;omega),⟨e1,(Q05.nil _ 1 wS),⟨(c8.below cj),by intro q hq;rw [mem_singleton] at hq;subst hq;exact (r1.below aI).below cj⟩⟩,(by have:=Qko D;show (unP D).length<=_;omega),(by simp),(by simp),(by intro q hq;rw [mem_singleton] at hq;subst hq;exact dI)⟩;have bI:∀ x∈[zShp]++[(⟨2,.slice p3 (unP D).length al,unP D,.slice none 0 0,[],.slice ac 1 af,[(.slice a1 I.length q1,I)]⟩:Shp)],TrS w.heap.size wS x:=TrS.two cw;have bU:([zShp]++[(⟨2,.slice p3 (unP D).length al,unP D,.slice none 0 0,[],.slice ac 1 af,[(.slice a1 I.length q1,I)]⟩:Shp)]).length=2:=rfl;have c0:Q1t (ks.map itt)=([zShp]++[(⟨2,.slice p3 (unP D).length al,unP D,.slice none 0 0,[],.slice ac 1 af,[(.slice a1 I.length q1,I)]⟩:Shp)]).map toQ:=dg.out;obtain ⟨SS,cu⟩:=Qe ([zShp]++[(⟨2,.slice p3 (unP D).length al,unP D,.slice none 0 0,[],.slice ac 1 af,[(.slice a1 I.length q1,I)]⟩:Shp)]);rw [<-cu] at bk bI bU c0;have HS:=Qhd bI;have ce:=Qhd bU;have cg:=Qhd c0;clear cu bI bU c0 cw G aI hO G6 G7 G8 dl dm bj cP cO r7 bL cD j0 j1 dS dU dt dF dG dX d3
  go_loopw [81] (fun ix wr=>∃ k:Nat,k<=2/\ix=.int .i64 (k:Int)/\HrW w g4 [.bool l,.slice ta tn tc,.slice ka H kc] wr/\Below wS.heap.size wS wr/\Hid (∀ (j:Nat) (x:Shp),j<k->SS[j]?=some x->hitQ b (toQ x)=false)) (fun ix _=>2 - (intOf ix).toNat)
  case atStart=>exact ⟨0,by omega,rfl,GS,Below.refl _ _,Qhd (fun j x hj=>by omega)⟩
  case round =>
   clear GS;obtain ⟨k,ef,rfl,G,cx,b0⟩:=hrel;by_cases hlk:k<2
   ·have eh:(k:Int)<2:=by omega
    have a':k<SS.length:=by rw [ce.out];exact hlk
    obtain ⟨b3,o3,e3,ah⟩:=Q05.range (f:=Q2p) (size:=4) (fun _=>rfl) (bk.below cx) k a';simp only [Option.some.injEq,Addr.mk.injEq,and_true] at e3;obtain ⟨rfl,rfl⟩:=e3;have hT:=HS.out _ (getElem_mem a');have ai:SS[k]?=some SS[k]:=List.getElem?_eq_getElem a';obtain ⟨sk,cT⟩:=Qe (SS[k]);rw [<-cT] at ah hT ai;obtain ⟨kd,pv,pp,vv,vb,kv,Z⟩:=sk;obtain ⟨i0,⟨i1,i2,i3⟩,q1,q2,q3,q4⟩:=hT;dsimp only at i0 i1 i2 i3 q1 q2 q3 q4;obtain ⟨J,K,rfl,_⟩:=i1.form' _ rfl;obtain ⟨S,T,rfl,_⟩:=i2.form' _ rfl;obtain ⟨M,N,rfl,_⟩:=i3.1.form' _ rfl;obtain ⟨U,aO⟩:=Qe (pp.length);obtain ⟨W,aQ⟩:=Qe (vb.length);obtain ⟨V,aP⟩:=Qe (Z.length);rw [<-aO] at ah i1 ai q1;rw [<-aQ] at ah i2 ai q2;rw [<-aP] at ah i0 i3 ai q3;change wr.rangeAt bS (oS+k*4) [.int .i64 kd,.slice J U K,.slice S W T,.slice M V N] at ah;have aK:∀ u:World,Below wS.heap.size wS u->Calls Tryz.prog 136 #[.agg #[.int .i64 kd,.slice J U K,.slice S W T,.slice M V N]] u (Q8e (okQ (kd,pp,vb,Z.map (·.2))) (bQ (kd,pp,vb,Z.map (·.2))) u):=fun u E=>Q6q kd J S M U K W T V N pp vb Z aO.symm aQ.symm aP.symm u (i1.below E) (i2.below E) (i3.below E) q1 q2 q3 q4;have bN:∀ u u':World,Below wS.heap.size wS u->Blk 134 u w.heap.size zsh->u.grownBy u' (some w.heap.size)->Below w.heap.size w u'->Q3x (some (kd,pp,vb,Z.map (·.2))) w (.returned (.tuple #[.agg #[.int .i64 kd,.slice J U K,.slice S W T,.slice M V N],.int .i64 0])) u':=fun u u' E hz hg hb=>⟨hb,J,K,S,T,M,N,Z,by rw [length_map,<-aO,<-aQ,<-aP],by rw [<-aO];exact Q02.off_v (i1.below E) hz (by intro x z k;simp [zsh] at z;rcases z with rfl|rfl<;>simp) hg,by rw [<-aQ];exact Q02.off_v (i2.below E) hz (by intro x z k;simp [zsh] at z;rcases z with rfl|rfl<;>simp) hg,by rw [length_map,<-aP];exact Q12.offB (i3.below E) hz (by intro x z k;simp [zsh] at z;rcases z with rfl|rfl<;>simp) hg i0,rfl⟩;have bA:Below wr.heap.size wr (wr.alloc (.cells #[.int .i64 kd,.slice J U K,.slice S W T,.slice M V N] 134)):=Qba _ _;have G8:=G.kept bA;have av:=D00 cx bA;have cn:=D01 wr 134 [.int .i64 kd,.slice J U K,.slice S W T,.slice M V N];have dr:Blk 134 (wr.alloc (.cells #[.int .i64 kd,.slice J U K,.slice S W T,.slice M V N] 134)) wr.heap.size [.int .i64 kd,.slice J U K,.slice S W T,.slice M V N]:=cn;have dM:toQ ⟨kd,.slice J U K,pp,.slice S W T,vb,.slice M V N,Z⟩=(kd,pp,vb,Z.map (·.2)):=rfl;have aw:hitQ b (kd,pp,vb,Z.map (·.2))=true->O=some (kd,pp,vb,Z.map (·.2)):=fun hh=>by
     rw [<-cf.out,Q3s,cg.out];refine Q9q (k:=k) (fun j x hj z=>?_) (by rw [getElem?_map,ai];rfl) hh;rw [getElem?_map] at z;cases hj2:SS[j]? with
     | none=>rw [hj2] at z;simp at z
     | some y =>
      rw [hj2] at z;simp only [Option.map_some,Option.some.injEq] at z;subst z;exact b0.out j y hj hj2
    have ay:hitQ b (kd,pp,vb,Z.map (·.2))=false->∀ (j:Nat) (x:Shp),j<k+1->SS[j]?=some x->hitQ b (toQ x)=false:=fun hm j x hj z=>by
     rcases lt_or_ge j k with h|h
     ·exact b0.out j x h z
     obtain rfl:j=k:=by omega
     rw [ai] at z;simp only [Option.some.injEq] at z;subst z;exact hm
    obtain ⟨ok,bV⟩:=Qe (okQ (kd,pp,vb,Z.map (·.2)));obtain ⟨TB,bH⟩:=Qe (bQ (kd,pp,vb,Z.map (·.2)));have cG:hitQ b (kd,pp,vb,Z.map (·.2))=(ok&&decide (TB=b)):=by unfold hitQ;rw [<-bV,<-bH]
    rw [cG] at aw ay;simp only [<-bV,<-bH] at aK;obtain ⟨sq,cU⟩:=Qe (((kd,pp,vb,Z.map (·.2)):Shq));rw [<-cU] at aw bN;have dc:=Qhd bN;clear bN dM cG bV bH cU cn i0 i1 i2 i3 q1 q2 q3 q4 aO aQ aP cT ai a' b0;cases ok with
    | false =>
     have aN:=ay (by simp);have bz:=Qhd aN;have aL:∀ u:World,Below wS.heap.size wS u->Calls Tryz.prog 136 #[.agg #[.int .i64 kd,.slice J U K,.slice S W T,.slice M V N]] u fun e w'=>∃ v,e=.returned (.tuple #[v,.int .i64 1])/\Q02 w' v []/\Below u.heap.size u w':=aK;have aY:=Qhd aL;clear aK aL aw ay aN
     go_wp2_with (first
      |(refine wpList_load_mid (op:=⟨some 84,_,_,_,_,_⟩) (by rfl) 134 (.tmp 83) (by rfl) bS (oS+k*4) (by rfl) [.int .i64 kd,.slice J U K,.slice S W T,.slice M V N] _ ah Tryz.underlying134 rfl (by kernel_rfl) ?_)
      |(go_at_call 136;(with_reducible refine (aY.out _ av).mono ?_);rintro e w8 ⟨v8,rfl,r8,a8⟩;have G9:=G8.kept a8;have aJ:=D00 av a8))
     go_roundw
     case rel=>exact ⟨k+1,by omega,by go_num,G9,aJ,bz⟩
     case measure=>simp [intOf];omega
    | true =>
     have aL:∀ u:World,Below wS.heap.size wS u->Calls Tryz.prog 136 #[.agg #[.int .i64 kd,.slice J U K,.slice S W T,.slice M V N]] u fun e w'=>∃ v,e=.returned (.tuple #[v,.int .i64 0])/\Q02 w' v TB/\Below u.heap.size u w':=aK;have aY:=Qhd aL;clear aK aL;by_cases heq:TB=b
     ·have dw:=aw (by rw [heq];simp);subst dw;clear aw ay
      go_wp2_with (first
       |(refine wpList_load_mid (op:=⟨some 84,_,_,_,_,_⟩) (by rfl) 134 (.tmp 83) (by rfl) bS (oS+k*4) (by rfl) [.int .i64 kd,.slice J U K,.slice S W T,.slice M V N] _ ah Tryz.underlying134 rfl (by kernel_rfl) ?_)
       |(go_at_call 136;(with_reducible refine (aY.out _ av).mono ?_);rintro e w8 ⟨v8,rfl,r8,a8⟩;have G9:=G8.kept a8;have aJ:=D00 av a8;have ds:=dr.kept a8;have s1:=Q0q (P:=Tryz.prog) (src:=25) (dst:=9) elU8.ht (by kernel_rfl) (by kernel_rfl) r8;have s2:=Q0q (P:=Tryz.prog) (src:=25) (dst:=9) elU8.ht (by kernel_rfl) (by kernel_rfl) (h.below G9.hb);rw [heq] at s1)
       |(refine Qla 134 14 wr.heap.size Q0a ds (by rfl) ?_)
       |((with_reducible refine Qgs 99 ?_);refine Qsa 134 2 99 w.heap.size [.int .i64 kd,.slice J U K,.slice S W T,.slice M V N] Q0a G9.hz (by rfl) (by rfl) (by intro u E;simp at E;rcases E with rfl|rfl|rfl|rfl<;>rfl) G9.hb (le_refl _) ?_;intro e6 dq dC dn))
      exact bodyPost_ret (v:=.tuple #[.agg #[.int .i64 kd,.slice J U K,.slice S W T,.slice M V N],.int .i64 0]) (Q01 rfl _ _ w.heap.size Q0a dq rfl rfl rfl) rfl (dc.out _ e6 aJ G9.hz dn dC)
     have ek:(TB==b)=false:=by rw [beq_eq_false_iff_ne];exact heq
     have dO:decide (TB=b)=false:=decide_eq_false heq;have el:decide ((⟨TB.toArray⟩:ByteArray)=⟨b.toArray⟩)=false:=by
      rw [decide_eq_false_iff_not];intro e;apply heq;simpa using congrArg (fun x:ByteArray=>x.data.toList) e
     have aN:=ay (by rw [dO];rfl);have bz:=Qhd aN;clear heq aw ay aN
     go_wp2_with (first
      |(refine wpList_load_mid (op:=⟨some 84,_,_,_,_,_⟩) (by rfl) 134 (.tmp 83) (by rfl) bS (oS+k*4) (by rfl) [.int .i64 kd,.slice J U K,.slice S W T,.slice M V N] _ ah Tryz.underlying134 rfl (by kernel_rfl) ?_)
      |(go_at_call 136;(with_reducible refine (aY.out _ av).mono ?_);rintro e w8 ⟨v8,rfl,r8,a8⟩;have G9:=G8.kept a8;have aJ:=D00 av a8;have s1:=Q0q (P:=Tryz.prog) (src:=25) (dst:=9) elU8.ht (by kernel_rfl) (by kernel_rfl) r8;have s2:=Q0q (P:=Tryz.prog) (src:=25) (dst:=9) elU8.ht (by kernel_rfl) (by kernel_rfl) (h.below G9.hb)))
     go_roundw
     case rel=>exact ⟨k+1,by omega,by go_num,G9,aJ,bz⟩
     case measure=>simp [intOf];omega
   obtain rfl:k=2:=by omega
   have dv:O=none:=by
    rw [<-cf.out,Q3s,cg.out];exact Qcv (fun j x z=>by
     rw [getElem?_map] at z;cases hj:SS[j]? with
     | none=>rw [hj] at z;simp at z
     | some y =>
      rw [hj] at z;simp only [Option.map_some,Option.some.injEq] at z;subst z;exact b0.out j y (by have:=(List.getElem?_eq_some_iff.1 hj).1;rw [ce.out] at this;exact this) hj)
   subst dv;have dP:=G.hz
   go_wp2_with ((with_reducible refine Qgs 101 ?_);refine Qsa 134 2 101 w.heap.size zsh Q0a dP (by rfl) (by rfl) (by intro u E;simp [zsh] at E;rcases E with rfl|rfl<;>rfl) G.hb (le_refl _) ?_;intro w9 h9 dD _)
   exact bodyPost_ret (v:=.tuple #[.agg #[.int .i64 0,.slice none 0 0,.slice none 0 0,.slice none 0 0],.int .i64 1]) (Q01 rfl _ _ w.heap.size Q0a h9 rfl rfl rfl) rfl ⟨dD,rfl⟩
theorem Qjv (a:Option Addr)(L c:Nat)(b:List UInt8)(hL:b.length=L)(cf:L<=1048576)(p:Pit)(hd:dec b=some p)(ca:Q66 p=17)(w:World)(h:Q02 w (.slice a L c) b):Calls Tryz.prog 128 #[.slice a L c] w (Q3x (rdB b) w):=by
 have hz:Blk 134 (w.alloc (.cells zsh.toArray 134)) w.heap.size zsh:=D01 w _ _;have dh:Below w.heap.size w (w.alloc (.cells zsh.toArray 134)):=Qba _ _;have dp:=hz.lt;have cc:=fun u (D:Q02 u (.slice a L c) b)=>Q3d a L c b hL cf u D;have hE:decE b=0:=by unfold decE;rw [hd];rfl
 have hP:decP b=p:=by unfold decP;rw [hd];rfl
 have cy:(encP p).length<=1048576:=by rw [<-Q36 hd,hL];exact cf
 have bE:=fun (l:List (List UInt8)) (hk:Q5b p l)=>Qi7 b p l hd (by omega) hk;obtain ⟨O,hO⟩:=Qe (rdB b);rw [<-hO] at bE;rw [<-hO];rw [hE] at cc;have C:=Qhd cc;have HP:=Qhd hP;have c3:=Qhd cy;have cX:=Qhd bE;have HL:=Qhd hL;have cQ:=Qhd ca;clear ca;clear cc hE hP cy bE hO hd hL;go_enter Tryz.func128,Tryz.ntmps128
 go_wp2_with (first
  |(go_at_call 45;(with_reducible refine (C.out _ (h.alloc _)).mono ?_);rintro e w1 ⟨it,rfl,b1,hF,cm,he⟩;have cG:=hz.kept b1;have cn:=D00 dh b1;obtain ⟨l,tv,t,kv,ks⟩:=it;have cv:ks.length=Q66 p/\Q5b p (ks.map itt)/\ks.map itt=kidT p:=Qcj cm (he.trans HP.out);obtain ⟨ta,tc,rfl,_,_⟩:=hF.is.inv.1.form;obtain ⟨ka,kc,rfl,_,_⟩:=hF.is.inv.2.1.form;obtain ⟨tn,bM⟩:=Qe (t.length);obtain ⟨H,b0⟩:=Qe (ks.length);have bt:=hF.is;rw [<-bM,<-b0] at bt;rw [<-bM,<-b0];have aA:=Qhd b0.symm;have aR:=Qhd cv;have cC:=b1.size;clear bM b0 cv he cm;simp only [Q0j])
  |((with_reducible refine Qgs 20 ?_);refine Qsa 77 4 20 w1.heap.size [.bool l,.slice ta tn tc,.slice ka H kc] Q09 (D01 w1 77 [.bool false,.slice none 0 0,.slice none 0 0]) (by rfl) (by rfl) (by intro u D;simp at D;rcases D with rfl|rfl|rfl<;>rfl) (((Below.refl w1.heap.size w1).alloc (le_refl _) (.cells #[.bool false,.slice none 0 0,.slice none 0 0] 77))) (le_refl _) ?_;intro w4 h4 b4 _;have G4:HrW w w1.heap.size [.bool l,.slice ta tn tc,.slice ka H kc] w4:=⟨D00 cn b4,cG.kept b4,h4,Nat.lt_of_lt_of_le dp cC⟩;have cd:=bt.kept b4;have d3:w4.cell? ⟨w1.heap.size,2,none⟩=some (.slice ka H kc):=h4.cell 2))
 have dt:=cd.inv.2.1;have cu:=cd.inv.2.2;obtain ⟨g4,bD⟩:=Qe (w1.heap.size);rw [<-bD] at G4;rw [<-bD];have dY:g4<w4.heap.size:=G4.h4.lt;have cW:=Qhd cu;have dW:H<=1048576:=by have h1:=Q87 p;have h2:=c3.out;have h3:=aR.out.1;have h4:=aA.out;omega
 clear d3 cu bD cG cn b1 bt hF cC h4 b4
 go_loopw [6,28] (fun lv ix wr=>∃ (i:Nat) (ps:List (Value × List UInt8)),i<=H/\ix=.int .i64 (i:Int)/\HrW w g4 [.bool l,.slice ta tn tc,.slice ka H kc] wr/\Below w4.heap.size w4 wr/\Q08 Q0p 1 25 wr w4.heap.size lv ps/\Hid (ps.map (·.2)=(ks.map itt).take i)/\Hid (∀ q∈ps,Q02 w4 q.1 q.2)) (fun _ ix _=>H - (intOf ix).toNat)
 case atStart=>exact ⟨0,[],by omega,rfl,G4,Below.refl _ _,Q08.nil Q0p 1 _ _ _,Qhd rfl,Qhd (by simp)⟩
 case round =>
  clear G4;obtain ⟨i,ps,dU,rfl,G,aC,hO,bn,bk⟩:=hrel;have bJ:ps.length=i:=by
   have:=congrArg List.length bn.out;simp only [length_map,length_take] at this;have h2:=aA.out;omega
  obtain ⟨la,lc,rfl,_⟩:=hO.form' i bJ;have aT:=Qhd bJ;clear bJ;by_cases hlt:i<H
  ·have dT:(i:Int)<(H:Int):=by omega
   have a8:i<ks.length:=by rw [aA.out];exact hlt
   obtain ⟨b2,cH,rfl,hr⟩:=Q05.range Q0k (dt.below aC) i a8;have aB:=cW.out _ (getElem_mem a8);have b5:(ks.map itt).take (i+1)=(ks.map itt).take i++[itt ks[i]]:=by
    rw [List.take_succ_eq_append_getElem (by rw [length_map];exact a8),getElem_map]
   obtain ⟨kid,ct⟩:=Qe (ks[i]);rw [<-ct] at hr aB b5;obtain ⟨l2,ea,t2,e2,dB⟩:=kid;obtain ⟨aj,ak,rfl,_,_⟩:=aB.inv.1.form;obtain ⟨bR,bT,rfl,_,_⟩:=aB.inv.2.1.form;have ah:Q02 w4 (.slice aj t2.length ak) t2:=aB.inv.1;obtain ⟨az,bN⟩:=Qe (t2.length);obtain ⟨bU,cw⟩:=Qe (dB.length);rw [<-bN,<-cw] at hr;rw [<-bN] at ah;change wr.rangeAt b2 (cH+i*3) [.bool l2,.slice aj az ak,.slice bR bU bT] at hr;change (ks.map itt).take (i+1)=(ks.map itt).take i++[t2] at b5;have cZ:=Qhd b5;have cU:=Qhd ah;have bA:Below wr.heap.size wr (wr.alloc (.cells #[.bool l2,.slice aj az ak,.slice bR bU bT] 77)):=Qba _ _;have G2:=G.kept bA;have df:=D00 aC bA;have O2:=hO.kept bA;clear ct aB bN cw b5 ah a8
   go_wp2_with (first
    |(refine wpList_load_mid (op:=⟨some 31,_,_,_,_,_⟩) (by rfl) 77 (.tmp 30) (by rfl) b2 (cH+i*3) (by rfl) [.bool l2,.slice aj az ak,.slice bR bU bT] _ hr Tryz.underlying77 rfl (by kernel_rfl) ?_)
    |(refine Q0o (o:=⟨some 35,_,_,_,_,_⟩) (by rfl) 44 1 [(0,.tmp 34)] (by rfl) Q69 [(.slice aj az ak,t2)] [.slice aj az ak] (by rfl) (by rfl) (by rfl) (by omega) (by omega) ?_;intro w6 _ b9 b6;have G6:=G2.kept b6;have O6:=O2.kept b6;have bw:=D00 df b6;have dq:w4.heap.size<=w6.heap.size:=bw.size)
    |(refine Q0t (o:=⟨some 36,_,_,_,_,_⟩) (by rfl) (.tmp 32) (.tmp 35) 44 (by rfl) Q69 (by intro u D;simp [Q0p] at D;subst D;rfl) (by rfl) O6 (by rfl) b9 dq (by rw [aT.out];simp;omega) (by rw [aT.out];unfold maxLen;simp;omega) ?_;intro v7 w7 cg c9 _;obtain ⟨e5,e6,rfl,_⟩:=cg.form' (i+1) (by rw [length_append,aT.out];rfl);have G7:=G6.grown c9 (fun x z=>by have:=O6.lt x z;omega);have dg:=bw.grown c9 bw.size (fun x z=>O6.lt x z)))
   go_roundw
   case rel=>exact ⟨i+1,ps++[(.slice aj az ak,t2)],by omega,by go_num,G7,dg,cg,Qhd (by rw [map_append,bn.out,cZ.out];rfl),Qhd (by intro q hq;rcases mem_append.1 hq with hq|hq;exact bk.out q hq;rw [mem_singleton] at hq;subst hq;exact cU.out)⟩
   case measure=>simp [intOf];omega
  obtain rfl:H=i:=by omega
  have bL:ps.map (·.2)=ks.map itt:=by rw [bn.out,List.take_of_length_le (by rw [length_map,aA.out];exact le_refl _)]
  have cA:hrd (ks.map itt) b=O:=cX.out _ aR.out.2.1;have cq:H=17:=aA.out.symm.trans (aR.out.1.trans cQ.out);have d9:((H:Int)==17)=true:=by rw [beq_iff_eq];omega
  have dR:((H:Int)==2)=false:=by rw [beq_eq_false_iff_ne];omega
  have dw:(16:Int)<(H:Int):=by omega
  have dy:16<H:=by omega
  have dx:(16:Int)<=(H:Int):=by omega
  have cr:ks.map itt=kidT p:=aR.out.2.2;have bK:ps.length=17:=by rw [aT.out,cq]
  have bF:∀ q∈ps,q.2.length<=1048576:=fun q hq=>le_trans (Q9f p q.2 (by rw [<-cr,<-bL];exact List.mem_map_of_mem hq)) c3.out;have aW:ps[16]?=some (ps[16]'(by omega)):=List.getElem?_eq_getElem (by omega);obtain ⟨c0,bP⟩:=Qe (ps[16]'(by omega));rw [<-bP] at aW;have bH:=List.mem_of_getElem? aW;have bY:Q02 w4 c0.1 c0.2:=bk.out _ bH;have cx:=bF _ bH;have cB:=hO.row;have dk:∀ x,(Value.slice la H lc).ownBlock=some x->w4.heap.size<=x:=fun x z=>hO.lt x z;obtain ⟨bl,ol,rfl,bx⟩:=Q05.cells (f:=Q0p) (size:=1) (fun _=>rfl) cB 16 (by omega);rw [<-bP] at bx;obtain ⟨bZ,E⟩:=c0;change Q02 w4 bZ E at bY;change E.length<=1048576 at cx;have bz:wr.cell? ⟨bl,ol+16,none⟩=some bZ:=by simpa using bx 0 bZ rfl
  have dm:=World.block_lt_of_cell? wr _ bz;obtain ⟨a5,a9,rfl,_,_⟩:=bY.form;obtain ⟨aa,ab,dI,dH,dG⟩:=Qrm Q69 cB 16 (by omega) 16 rfl;have cF:Q1t (ks.map itt)=([zShp]++[(⟨3,.slice none 0 0,[],.slice a5 E.length a9,E,.slice aa 16 ab,ps.take 16⟩:Shp)]).map toQ:=by
   unfold Q1t;rw [<-bL,length_map,bK];show _::((if 17=2 then _ else [])++(if 17=17 then _ else []))=_;rw [if_neg (by decide),if_pos rfl,getElem?_map,aW,<-List.map_take];rfl
  have d0:=Qhd cF;have c4:=Qhd cA;have cY:=Qhd bF;have dN:=Qhd bK;clear cF cA bL cr cq bF aW bP bH bx bK
  go_wp2_with (refine Q0o (o:=⟨some 39,_,_,_,_,_⟩) (by rfl) 208 1 [(0,.tmp 38)] (by rfl) Qcx [zShp] [.agg #[.int .i64 0,.slice none 0 0,.slice none 0 0,.slice none 0 0]] (by rfl) (by rfl) (by rfl) (by omega) (by omega) ?_;intro w6 dl b9 b6;have G6:=G.kept b6;have c8:w6.cell? ⟨bl,ol+16,none⟩=some (.slice a5 E.length a9):=by rw [b6.cell (p:=⟨bl,ol+16,none⟩) dm];exact bz)
  have k1:=fun u:Ext w6=>u.cell c8;refine Q03 w6 8 (by kernel_rfl) (by kernel_rfl) (Below.refl _ _) ?_;simp only [List.take_succ_cons,List.take_zero,List.take_nil]
  iterate 7 (refine Q06 (by rfl) (fun K hK=>?_);go_simp;refine hK _ ?_;clear hK K)
  refine Q0e 77 (OneS ⟨3,.slice none 0 0,[],.slice a5 E.length a9,E,.slice aa 16 ab,ps.take 16⟩) rfl (of_decide_eq_true rfl) (OneS.mono _) (fun w2 e1=>?_) ?_
  ·simp only [Q18,List.filter_nil,Q00];refine ⟨rfl,?_⟩;go_simp;exact ⟨Qba _ _,w2.heap.size,rfl,D02 (f:=Q2p) (size:=4) (fun _=>rfl) w2 134 [⟨3,.slice none 0 0,[],.slice a5 E.length a9,E,.slice aa 16 ab,ps.take 16⟩] 1 rfl (by unfold maxLen;omega)⟩
  refine Q0i ?_;intro u2 ah ec da;change wpList _ _ _ [_,_] _ _;obtain ⟨dQ,rfl,cJ⟩:=da;have G8:=G6.kept ah;have d2:=D00 b6 ah;have cz:=b9.below ah;clear k1
  go_wp2_with (refine Q5z (o:=⟨some 78,_,_,_,_,_⟩) (by rfl) (.tmp 70) (.tmp 77) 208 (by rfl) Qcx (by intro u D;simp [Q2p] at D;rcases D with rfl|rfl|rfl|rfl<;>rfl) (by rfl) cz (by rfl) cJ (by simp) (by simp) (by simp) (by simp [maxLen]) ?_;intro v9 wS b' bS;have GS:=G8.kept bS;have bp:=D00 d2 bS;obtain ⟨lS,cS,rfl,_⟩:=b'.form' 2 rfl)
  obtain ⟨bS,oS,rfl,_⟩:=Q05.cells (f:=Q2p) (size:=4) (fun _=>rfl) b' 0 (by simp);have ck:TrS w.heap.size wS (⟨3,.slice none 0 0,[],.slice a5 E.length a9,E,.slice aa 16 ab,ps.take 16⟩:Shp):=⟨(by intro x z;have h1:=dk x (dG x z _ _);have:=GS.hg;omega),⟨(Q05.nil _ 1 wS),((bY.below aC).below bp),⟨dH.below bp,fun q hq=>((bk.out q (List.mem_of_mem_take hq)).below aC).below bp⟩⟩,(by simp),cx,(by rw [length_take];show min 16 ps.length<=_;omega),fun q hq=>cY.out q (List.mem_of_mem_take hq)⟩;have bv:∀ x∈[zShp]++[(⟨3,.slice none 0 0,[],.slice a5 E.length a9,E,.slice aa 16 ab,ps.take 16⟩:Shp)],TrS w.heap.size wS x:=TrS.two ck;have bG:([zShp]++[(⟨3,.slice none 0 0,[],.slice a5 E.length a9,E,.slice aa 16 ab,ps.take 16⟩:Shp)]).length=2:=rfl;have bO:Q1t (ks.map itt)=([zShp]++[(⟨3,.slice none 0 0,[],.slice a5 E.length a9,E,.slice aa 16 ab,ps.take 16⟩:Shp)]).map toQ:=d0.out;obtain ⟨SS,ci⟩:=Qe ([zShp]++[(⟨3,.slice none 0 0,[],.slice a5 E.length a9,E,.slice aa 16 ab,ps.take 16⟩:Shp)]);rw [<-ci] at b' bv bG bO;have HS:=Qhd bv;have c2:=Qhd bG;have c5:=Qhd bO;clear ci bv bG bO ck G aC hO G6 G8 c8 b9 cJ cz bz dw dy dx d9 dl dI
  go_loopw [81] (fun ix wr=>∃ k:Nat,k<=2/\ix=.int .i64 (k:Int)/\HrW w g4 [.bool l,.slice ta tn tc,.slice ka H kc] wr/\Below wS.heap.size wS wr/\Hid (∀ (j:Nat) (x:Shp),j<k->SS[j]?=some x->hitQ b (toQ x)=false)) (fun ix _=>2 - (intOf ix).toNat)
  case atStart=>exact ⟨0,by omega,rfl,GS,Below.refl _ _,Qhd (fun j x hj=>by omega)⟩
  case round =>
   clear GS;obtain ⟨k,dV,rfl,G,cl,aS⟩:=hrel;by_cases hlk:k<2
   ·have dX:(k:Int)<2:=by omega
    have a8:k<SS.length:=by rw [c2.out];exact hlk
    obtain ⟨b3,o3,e3,ad⟩:=Q05.range (f:=Q2p) (size:=4) (fun _=>rfl) (b'.below cl) k a8;simp only [Option.some.injEq,Addr.mk.injEq,and_true] at e3;obtain ⟨rfl,rfl⟩:=e3;have hT:=HS.out _ (getElem_mem a8);have ag:SS[k]?=some SS[k]:=List.getElem?_eq_getElem a8;obtain ⟨sk,cD⟩:=Qe (SS[k]);rw [<-cD] at ad hT ag;obtain ⟨kd,pv,pp,vv,vb,kv,Z⟩:=sk;obtain ⟨i0,⟨i1,i2,i3⟩,q1,q2,q3,q4⟩:=hT;dsimp only at i0 i1 i2 i3 q1 q2 q3 q4;obtain ⟨I,J,rfl,_⟩:=i1.form' _ rfl;obtain ⟨S,T,rfl,_⟩:=i2.form' _ rfl;obtain ⟨M,N,rfl,_⟩:=i3.1.form' _ rfl;obtain ⟨U,aI⟩:=Qe (pp.length);obtain ⟨W,aK⟩:=Qe (vb.length);obtain ⟨V,aJ⟩:=Qe (Z.length);rw [<-aI] at ad i1 ag q1;rw [<-aK] at ad i2 ag q2;rw [<-aJ] at ad i0 i3 ag q3;change wr.rangeAt bS (oS+k*4) [.int .i64 kd,.slice I U J,.slice S W T,.slice M V N] at ad;have aE:∀ u:World,Below wS.heap.size wS u->Calls Tryz.prog 136 #[.agg #[.int .i64 kd,.slice I U J,.slice S W T,.slice M V N]] u (Q8e (okQ (kd,pp,vb,Z.map (·.2))) (bQ (kd,pp,vb,Z.map (·.2))) u):=fun u D=>Q6q kd I S M U J W T V N pp vb Z aI.symm aK.symm aJ.symm u (i1.below D) (i2.below D) (i3.below D) q1 q2 q3 q4;have bB:∀ u u':World,Below wS.heap.size wS u->Blk 134 u w.heap.size zsh->u.grownBy u' (some w.heap.size)->Below w.heap.size w u'->Q3x (some (kd,pp,vb,Z.map (·.2))) w (.returned (.tuple #[.agg #[.int .i64 kd,.slice I U J,.slice S W T,.slice M V N],.int .i64 0])) u':=fun u u' D hz hg hb=>⟨hb,I,J,S,T,M,N,Z,by rw [length_map,<-aI,<-aK,<-aJ],by rw [<-aI];exact Q02.off_v (i1.below D) hz (by intro x z k;simp [zsh] at z;rcases z with rfl|rfl<;>simp) hg,by rw [<-aK];exact Q02.off_v (i2.below D) hz (by intro x z k;simp [zsh] at z;rcases z with rfl|rfl<;>simp) hg,by rw [length_map,<-aJ];exact Q12.offB (i3.below D) hz (by intro x z k;simp [zsh] at z;rcases z with rfl|rfl<;>simp) hg i0,rfl⟩;have bA:Below wr.heap.size wr (wr.alloc (.cells #[.int .i64 kd,.slice I U J,.slice S W T,.slice M V N] 134)):=Qba _ _;have G8:=G.kept bA;have ap:=D00 cl bA;have c':=D01 wr 134 [.int .i64 kd,.slice I U J,.slice S W T,.slice M V N];have d7:Blk 134 (wr.alloc (.cells #[.int .i64 kd,.slice I U J,.slice S W T,.slice M V N] 134)) wr.heap.size [.int .i64 kd,.slice I U J,.slice S W T,.slice M V N]:=c';have ds:toQ ⟨kd,.slice I U J,pp,.slice S W T,vb,.slice M V N,Z⟩=(kd,pp,vb,Z.map (·.2)):=rfl;have aq:hitQ b (kd,pp,vb,Z.map (·.2))=true->O=some (kd,pp,vb,Z.map (·.2)):=fun hh=>by
     rw [<-c4.out,Q3s,c5.out];refine Q9q (k:=k) (fun j x hj z=>?_) (by rw [getElem?_map,ag];rfl) hh;rw [getElem?_map] at z;cases hj2:SS[j]? with
     | none=>rw [hj2] at z;simp at z
     | some y =>
      rw [hj2] at z;simp only [Option.map_some,Option.some.injEq] at z;subst z;exact aS.out j y hj hj2
    have ar:hitQ b (kd,pp,vb,Z.map (·.2))=false->∀ (j:Nat) (x:Shp),j<k+1->SS[j]?=some x->hitQ b (toQ x)=false:=fun hm j x hj z=>by
     rcases lt_or_ge j k with h|h
     ·exact aS.out j x h z
     obtain rfl:j=k:=by omega
     rw [ag] at z;simp only [Option.some.injEq] at z;subst z;exact hm
    obtain ⟨ok,bI⟩:=Qe (okQ (kd,pp,vb,Z.map (·.2)));obtain ⟨TB,bu⟩:=Qe (bQ (kd,pp,vb,Z.map (·.2)));have cp:hitQ b (kd,pp,vb,Z.map (·.2))=(ok&&decide (TB=b)):=by unfold hitQ;rw [<-bI,<-bu]
    rw [cp] at aq ar;simp only [<-bI,<-bu] at aE;obtain ⟨sq,cE⟩:=Qe (((kd,pp,vb,Z.map (·.2)):Shq));rw [<-cE] at aq bB;have cV:=Qhd bB;clear bB ds cp bI bu cE c' i0 i1 i2 i3 q1 q2 q3 q4 aI aK aJ cD ag a8 aS;cases ok with
    | false =>
     have aH:=ar (by simp);have bm:=Qhd aH;have aF:∀ u:World,Below wS.heap.size wS u->Calls Tryz.prog 136 #[.agg #[.int .i64 kd,.slice I U J,.slice S W T,.slice M V N]] u fun e w'=>∃ v,e=.returned (.tuple #[v,.int .i64 1])/\Q02 w' v []/\Below u.heap.size u w':=aE;have aQ:=Qhd aF;clear aE aF aq ar aH
     go_wp2_with (first
      |(refine wpList_load_mid (op:=⟨some 84,_,_,_,_,_⟩) (by rfl) 134 (.tmp 83) (by rfl) bS (oS+k*4) (by rfl) [.int .i64 kd,.slice I U J,.slice S W T,.slice M V N] _ ad Tryz.underlying134 rfl (by kernel_rfl) ?_)
      |(go_at_call 136;(with_reducible refine (aQ.out _ ap).mono ?_);rintro e w8 ⟨v8,rfl,r8,a6⟩;have G9:=G8.kept a6;have aD:=D00 ap a6))
     go_roundw
     case rel=>exact ⟨k+1,by omega,by go_num,G9,aD,bm⟩
     case measure=>simp [intOf];omega
    | true =>
     have aF:∀ u:World,Below wS.heap.size wS u->Calls Tryz.prog 136 #[.agg #[.int .i64 kd,.slice I U J,.slice S W T,.slice M V N]] u fun e w'=>∃ v,e=.returned (.tuple #[v,.int .i64 0])/\Q02 w' v TB/\Below u.heap.size u w':=aE;have aQ:=Qhd aF;clear aE aF;by_cases heq:TB=b
     ·have dd:=aq (by rw [heq];simp);subst dd;clear aq ar
      go_wp2_with (first
       |(refine wpList_load_mid (op:=⟨some 84,_,_,_,_,_⟩) (by rfl) 134 (.tmp 83) (by rfl) bS (oS+k*4) (by rfl) [.int .i64 kd,.slice I U J,.slice S W T,.slice M V N] _ ad Tryz.underlying134 rfl (by kernel_rfl) ?_)
       |(go_at_call 136;(with_reducible refine (aQ.out _ ap).mono ?_);rintro e w8 ⟨v8,rfl,r8,a6⟩;have G9:=G8.kept a6;have aD:=D00 ap a6;have d8:=d7.kept a6;have s1:=Q0q (P:=Tryz.prog) (src:=25) (dst:=9) elU8.ht (by kernel_rfl) (by kernel_rfl) r8;have s2:=Q0q (P:=Tryz.prog) (src:=25) (dst:=9) elU8.ht (by kernel_rfl) (by kernel_rfl) (h.below G9.hb);rw [heq] at s1)
       |(refine Qla 134 14 wr.heap.size Q0a d8 (by rfl) ?_)
       |((with_reducible refine Qgs 99 ?_);refine Qsa 134 2 99 w.heap.size [.int .i64 kd,.slice I U J,.slice S W T,.slice M V N] Q0a G9.hz (by rfl) (by rfl) (by intro u D;simp at D;rcases D with rfl|rfl|rfl|rfl<;>rfl) G9.hb (le_refl _) ?_;intro dL d6 di d4))
      exact bodyPost_ret (v:=.tuple #[.agg #[.int .i64 kd,.slice I U J,.slice S W T,.slice M V N],.int .i64 0]) (Q01 rfl _ _ w.heap.size Q0a d6 rfl rfl rfl) rfl (cV.out _ dL aD G9.hz d4 di)
     have dZ:(TB==b)=false:=by rw [beq_eq_false_iff_ne];exact heq
     have du:decide (TB=b)=false:=decide_eq_false heq;have e0:decide ((⟨TB.toArray⟩:ByteArray)=⟨b.toArray⟩)=false:=by
      rw [decide_eq_false_iff_not];intro e;apply heq;simpa using congrArg (fun x:ByteArray=>x.data.toList) e
     have aH:=ar (by rw [du];rfl);have bm:=Qhd aH;clear heq aq ar aH
     go_wp2_with (first
      |(refine wpList_load_mid (op:=⟨some 84,_,_,_,_,_⟩) (by rfl) 134 (.tmp 83) (by rfl) bS (oS+k*4) (by rfl) [.int .i64 kd,.slice I U J,.slice S W T,.slice M V N] _ ad Tryz.underlying134 rfl (by kernel_rfl) ?_)
      |(go_at_call 136;(with_reducible refine (aQ.out _ ap).mono ?_);rintro e w8 ⟨v8,rfl,r8,a6⟩;have G9:=G8.kept a6;have aD:=D00 ap a6;have s1:=Q0q (P:=Tryz.prog) (src:=25) (dst:=9) elU8.ht (by kernel_rfl) (by kernel_rfl) r8;have s2:=Q0q (P:=Tryz.prog) (src:=25) (dst:=9) elU8.ht (by kernel_rfl) (by kernel_rfl) (h.below G9.hb)))
     go_roundw
     case rel=>exact ⟨k+1,by omega,by go_num,G9,aD,bm⟩
     case measure=>simp [intOf];omega
   obtain rfl:k=2:=by omega
   have dc:O=none:=by
    rw [<-c4.out,Q3s,c5.out];exact Qcv (fun j x z=>by
     rw [getElem?_map] at z;cases hj:SS[j]? with
     | none=>rw [hj] at z;simp at z
     | some y =>
      rw [hj] at z;simp only [Option.map_some,Option.some.injEq] at z;subst z;exact aS.out j y (by have:=(List.getElem?_eq_some_iff.1 hj).1;rw [c2.out] at this;exact this) hj)
   subst dc;have dv:=G.hz
   go_wp2_with ((with_reducible refine Qgs 101 ?_);refine Qsa 134 2 101 w.heap.size zsh Q0a dv (by rfl) (by rfl) (by intro u D;simp [zsh] at D;rcases D with rfl|rfl<;>rfl) G.hb (le_refl _) ?_;intro w9 h9 dj _)
   exact bodyPost_ret (v:=.tuple #[.agg #[.int .i64 0,.slice none 0 0,.slice none 0 0,.slice none 0 0],.int .i64 1]) (Q01 rfl _ _ w.heap.size Q0a h9 rfl rfl rfl) rfl ⟨dj,rfl⟩
theorem Qng (a:Option Addr)(L c:Nat)(b:List UInt8)(y:b.length=L)(z:L<=1048576)(w:World)(h:Q02 w (.slice a L c) b):Calls Tryz.prog 128 #[.slice a L c] w (Q3x (rdB b) w):=by
 cases hd:dec b with
 | none =>
  have D:rdB b=none:=by unfold rdB;rw [hd]
  rw [D];exact Qq5 a L c b y z hd w h
 | some p =>
  by_cases h2:Q66 p=2
  ·by_cases hf:Q19 ((kidT p)[0]?.getD [])=true
   ·exact Qju a L c b y z p hd h2 hf w h
   exact Qjt a L c b y z p hd h2 (by simpa using hf) w h
  by_cases h17:Q66 p=17
  ·exact Qjv a L c b y z p hd h17 w h
  exact Qg1 a L c b y z p hd h2 h17 w h
end Go.Proofs.YtbdmkfjgnjfjbaaGreat
