/- proof.Check. | proof.Make: what lies there. -/
import Derived.Test.YtbdmkfjgnjfjbaaGreatBlockListsK28
import Derived.Deep.Cut
import Derived.Test.YtbdmkfjgnjfjbaaGreatBlockListsK18
set_option linter.unusedSimpArgs false
set_option linter.unusedVariables false
set_option maxHeartbeats 4000000
set_option maxRecDepth 100000
open List (length_map)
open Nat (le_refl le_trans)
namespace Go.Proofs.YtbdmkfjgnjfjbaaGreat
open Go.RowKit
theorem Q52 (l:List UInt8):∀ x∈Q0c l,x.toNat<16:=by
 intro x z;unfold Q0c at z;obtain ⟨y,_,h⟩:=List.mem_flatMap.1 z;unfold Qab at h;have D:=y.toNat_lt;simp only [List.mem_cons,List.not_mem_nil,or_false] at h;rcases h with rfl|rfl
 ·rw [UInt8.toNat_div];show y.toNat / 16<16;omega
 rw [UInt8.toNat_mod];show y.toNat % 16<16;omega
def chk (H key:List UInt8)(cs:List (List UInt8)):List UInt8 × Int:=if 32<key.length then ([],3) else shw H (Q0c key) true cs
def Qa6 (R:List UInt8 × Int)(w:World)(e:Ending)(w':World):Prop:=∃ (a:Option Addr) (n c:Nat),e=.returned (.tuple #[.slice a n c,.int .i64 R.2])/\Below w.heap.size w w'/\Q02 w' (.slice a n c) R.1
structure StC (R:List UInt8 × Int)(CS:List (List UInt8))(i:Nat)(pl sl vl:List UInt8):Prop where
 h16:∀ x∈pl,x.toNat<16
 hs:sl.length=32∨sl.length=0
 hv:vl.length<=1048576
 h0:sl=[]->R=(vl,0)
 h1:sl≠[]->R=shw sl pl (decide (i=0)) (CS.drop i)
theorem Qs8 {s:Shq}(y:okQ s=true){q:List UInt8}(z:∀ x∈q,x.toNat<16):(nxtP s q).1.length=32∨(nxtP s q).1.length=0:=by
 rcases Qgu y q z with ⟨_,h,_⟩|⟨k,_,_,_,_,_,_,h⟩
 ·right;rw [h];rfl
 exact h
theorem Qs7 {s:Shq}{q:List UInt8}(h:s.2.2.1.length<=1048576):(nxtP s q).2.2.length<=1048576:=by
 unfold nxtP;split
 ·split
  ·exact h
  simp
 split
 ·split<;>simp
 split
 ·cases q with
  | nil=>exact h
  | cons x q=>simp
 simp
theorem Qp0 {R:List UInt8 × Int}{z:List (List UInt8)}{i:Nat}{E sl T D:List UInt8}(St:StC R z i E sl T)(S:sl≠[])(K:z[i]?=some D)(M:D.length<=1048576) :
  (sumB D≠sl->R=([],4))/\(sumB D=sl->(rdB D=none->R=([],1))/\∀ s,rdB D=some s->(i≠0/\s.1=0->R=([],1)) /\
   (¬ (i≠0/\s.1=0)->((nxtP s E).1=[]->i+1<z.length->R=([],6))/\(¬ ((nxtP s E).1=[]/\i+1<z.length)->StC R z (i+1) (nxtP s E).2.1 (nxtP s E).1 (nxtP s E).2.2))):=by
 have O:=(List.getElem?_eq_some_iff.1 K).1;have N:z.drop i=D::z.drop (i+1):=by
  rw [List.drop_eq_getElem_cons O];rw [(List.getElem?_eq_some_iff.1 K).2]
 have y:=St.h1 S;rw [N] at y;unfold shw at y;constructor
 ·intro h;rw [if_neg h] at y;exact y
 intro h;rw [if_pos h] at y;constructor
 ·intro I;rw [I] at y;exact y
 intro s I;rw [I] at y;dsimp only at y;have L:=Qs0 I M;constructor
 ·rintro ⟨J,G⟩;rw [if_pos ⟨by simpa using J,G⟩] at y;exact y
 intro J;rw [if_neg (fun e=>J ⟨by simpa using e.1,e.2⟩)] at y;constructor
 ·intro G H;have:z.drop (i+1)≠[]:=fun e=>by have:=congrArg List.length e;rw [List.length_drop] at this;simp at this;omega
  rw [if_pos G,if_neg this] at y;exact y
 intro G;refine ⟨Qhu St.h16,Qs8 L.1 St.h16,Qs7 L.2.2.1,fun H=>?_,fun H=>?_⟩
 ·have:z.drop (i+1)=[]:=List.drop_of_length_le (by have:¬ i+1<z.length:=fun e=>G ⟨H,e⟩;omega);rw [if_pos H,if_pos this] at y;exact y
 rw [if_neg H] at y;rw [y];congr 1
theorem Qo1 (H:List UInt8)(hH:H.length=32)(L:Option Addr)(kn M:Nat)(af:List UInt8)(bF:af.length=kn)(ca:Option Addr)(G cc:Nat)(ps:List (Value × List UInt8))(ce:ps.length=G)(w:World)
  (hk:Q02 w (.slice L kn M) af) (hc:Q12 w (.slice ca G cc) ps) (hN:G<=1048576) (hNs:∀ q∈ps,q.2.length<=1048576) :
  Calls Tryz.prog 71 #[.agg (H.map u8v).toArray,.slice L kn M,.slice ca G cc] w (Qa6 (chk H af (ps.map (·.2))) w):=by
 obtain ⟨C,hC⟩:=Qe (H.map u8v);rw [<-hC];obtain ⟨Z,aO⟩:=Qe (w.alloc (.cells C.toArray 30));have hz:Blk 30 Z w.heap.size C:=by rw [aO];exact D01 w _ _
 have aa:Below w.heap.size w Z:=by rw [aO];exact Qba _ _
 obtain ⟨R,hR⟩:=Qe (chk H af (ps.map (·.2)));rw [<-hR];have bY:=Qhd aO;by_cases h32:32<kn
 ·have cR:(32:Int)<(kn:Int):=by omega
  have I:R=([],3):=by rw [hR];unfold chk;rw [if_pos (by omega)]
  subst I;clear aO hR hC;go_enter Tryz.func71,Tryz.ntmps71
  go_wp2_with fail
  rw [<-bY.out];go_ret2;exact ⟨none,0,0,rfl,aa,Q05.nil b8 1 _⟩
 have cR:¬ (32:Int)<(kn:Int):=by omega
 have I:R=shw H (Q0c af) true (ps.map (·.2)):=by rw [hR];unfold chk;rw [if_neg (by omega)]
 have ch:=fun u (J:Below w.heap.size w u)=>Q5i L M af u (by rw [bF];exact hk.below J) (by omega);rw [bF] at ch;have bv:=Q52 af;have bJ:=Q10 af;obtain ⟨P0,bx⟩:=Qe (Q0c af);rw [<-bx] at I bv bJ;simp only [<-bx] at ch;have HR:=Qhd I;have Ch:=Qhd ch;have cD:=Qhd bv;have d7:=Qhd bJ;have cq:Q02 Z (.slice (some ⟨w.heap.size,0,none⟩) 32 32) H:=Qo6 (by rw [<-hC];exact hz) 32 hH (by unfold maxLen;omega);have HH:=Qhd hH;have bm:=Qhd ce;have cE:=Qhd hNs;clear aO hR I ch bv bJ bx hC bF hH ce hNs;go_enter Tryz.func71,Tryz.ntmps71
 go_wp2_with fail
 rw [<-bY.out];refine Q0w ((fun u=>Below Z.heap.size Z u)) (by kernel_rfl) ?_;intro u0 cl;simp only [List.length_cons,List.length_nil,Nat.reduceAdd,List.replicate_succ,List.replicate_zero];have S0:Below Z.heap.size Z u0:=by rw [cl];exact (Below.refl _ _).drew
 clear cl;refine Qtk 0 (fun K z=>?_);simp only [Qzs] at z;go_simp;(first|refine z _ ?_|refine ⟨_,fun _=>rfl,z _ ?_⟩);clear z K;refine Qtk 2 (fun K z=>?_);simp only [Qzs] at z;go_simp;(first|refine z _ ?_|refine ⟨_,fun _=>rfl,z _ ?_⟩);clear z K
 (refine Q0f 1 (by rfl) (by kernel_rfl) (fun K z=>?_);simp only [Qzs] at z;go_simp)
 (with_reducible refine (Ch.out _ (D00 aa S0)).mono ?_)
 rintro e u1 ⟨v,rfl,o1,b1⟩;obtain ⟨a8,c8,rfl,_⟩:=o1.form' P0.length rfl;have S1:Below Z.heap.size Z u1:=D00 S0 b1;refine z _ _ S1 ?_;clear z K;refine Qtk 3 (fun K z=>?_);simp only [Qzs] at z;go_simp;(first|refine z _ ?_|refine ⟨_,fun _=>rfl,z _ ?_⟩);clear z K;refine Qtk 4 (fun K z=>?_);simp only [Qzs] at z;go_simp;(first|refine z _ ?_|refine ⟨_,fun _=>rfl,z _ ?_⟩);clear z K;refine Qtk 5 (fun K z=>?_);simp only [Qzs] at z;go_simp;(first|refine z _ ?_|refine ⟨_,fun _=>rfl,z _ ?_⟩);clear z K;refine Q11 (by kernel_rfl) ?_;have r9:Q02 u1 (.slice (some ⟨w.heap.size,0,none⟩) 32 32) H:=cq.below S1;have cb:=D00 aa S1;have r8:=o1.row;have st:StC R (ps.map (·.2)) 0 P0 H []:=⟨cD.out,.inl HH.out,by simp,fun e=>by have:=HH.out;rw [e] at this;simp at this,fun _=>HR.out⟩;have St:=Qhd st;clear o1 b1 S0 S1 cq hz st
 go_wp2_with fail
 go_loopw [8,9,10,11] (fun pv sv vv ix wr=>∃ (i:Nat) (pl sl vl:List UInt8) (a8:Option Addr) (n8 c8:Nat) (a9:Option Addr) (n9 c9:Nat) (bp:Option Addr) (bO bt:Nat),i<=G/\pv=.slice a8 n8 c8/\sv=.slice a9 n9 c9/\vv=.slice bp bO bt/\ix=.int .i64 (i:Int) /\
  Below w.heap.size w wr/\Q02 wr (.slice a8 n8 c8) pl/\Q02 wr (.slice a9 n9 c9) sl/\Q02 wr (.slice bp bO bt) vl/\Hid (StC R (ps.map (·.2)) i pl sl vl)) (fun _ _ _ ix _=>G+1 - (intOf ix).toNat)
 case atStart=>exact ⟨0,P0,H,[],a8,_,c8,some ⟨w.heap.size,0,none⟩,32,32,none,0,0,by omega,rfl,rfl,rfl,rfl,cb,r8,r9,Q05.nil b8 1 _,St⟩
 case round =>
  clear cb r8 r9 St;obtain ⟨i,pl,sl,vl,a8,n8,c8,a9,n9,c9,bp,bO,bt,cT,rfl,rfl,rfl,rfl,aa,r8,r9,bS,St⟩:=hrel;have l9:=r9.fits.1;have cu:=bS.fits.1;by_cases h9:n9=0
  ·subst h9;have ck:sl=[]:=List.eq_nil_of_length_eq_zero l9.symm;have hR:=St.out.h0 ck;have hv:=St.out.hv;obtain ⟨d9,c'⟩:=Qe (vl.length);have d5:=Qhd c';subst hR;have ci:Q08 b8 1 5 (wr.alloc (.cells #[] 5)) w.heap.size (.slice (some ⟨wr.heap.size,0,none⟩) 0 0) []:=Q08.made b8 1 5 wr w.heap.size [] #[] 0 rfl rfl rfl aa.size (by unfold maxLen;omega);have bA:Below w.heap.size w (wr.alloc (.cells #[] 5)):=aa.alloc aa.size _;have d1:=bS.alloc (.cells #[] 5);have cU:=Q08.lt ci;clear l9 cu ck St c'
   go_wp2_with (refine Q0x (o:=⟨some 76,_,_,_,_,_⟩) (by rfl) (.tmp 74) (.tmp 75) 25 (by rfl) elU8 (by rfl) ci (by rfl) d1 bA.size (by simp<;>omega) (by unfold maxLen;simp<;>omega) ?_;intro v5 w5 o5 g5 _;have b5:=bA.grown g5 bA.size cU;obtain ⟨a5,c5,rfl,_⟩:=o5.form' vl.length (by simp))
   go_ret2;exact ⟨a5,_,c5,rfl,b5,o5.row⟩
  have ax:sl.length=32:=by rcases St.out.hs with h|h<;>omega
  obtain rfl:n9=32:=by omega
  have bH:sl≠[]:=fun e=>by rw [e] at ax;simp at ax
  have hR:=St.out.h1 bH;have cj:=St.out.h16;have cV:=bH;clear h9 bH bS cu;obtain ⟨b9,o9,rfl,bL⟩:=Q4l r9 (by omega);by_cases hlt:i<G
  ·have dm:(i:Int)<(G:Int):=by omega
   have dn:((i:Int)==(G:Int))=false:=by rw [beq_eq_false_iff_ne];omega
   have bf:i<ps.length:=by rw [bm.out];exact hlt
   have ba:(ps.map (·.2))[i]?=some (ps[i]).2:=by rw [List.getElem?_map,List.getElem?_eq_getElem bf];rfl
   have aL:=hc.2 _ (List.getElem_mem bf);have aJ:=cE.out _ (List.getElem_mem bf);obtain ⟨bc,oc,rfl,bD⟩:=Q05.cells (f:=Q0p) (size:=1) (fun _=>rfl) hc.1 i bf;obtain ⟨y,hy⟩:=Qe (ps[i]);rw [<-hy] at ba aL aJ bD;obtain ⟨cv,E⟩:=y;change Q02 w cv E at aL;change E.length<=1048576 at aJ;change (ps.map (·.2))[i]?=some E at ba;have bd:w.cell? ⟨bc,oc+i,none⟩=some cv:=by simpa using bD 0 cv rfl
   obtain ⟨ac,ab,rfl,_,_⟩:=aL.form;obtain ⟨a7,aK⟩:=Qe (E.length);rw [<-aK] at bd aL aJ;have be:wr.cell? ⟨bc,oc+i,none⟩=some (.slice ac a7 ab):=by rw [aa.cell (p:=⟨bc,oc+i,none⟩) (World.block_lt_of_cell? w _ bd)];exact bd
   have cf:Q02 wr (.slice ac a7 ab) E:=aL.below aa;obtain ⟨cz,bT⟩:=Qp0 St.out cV ba (by rw [<-aK];exact aJ);rw [length_map,bm.out] at bT;have cW:∀ x,(Instr.arrayAt 30 (.slice (some ⟨b9,o9,none⟩) 32 c9)).run Tryz.prog x=.ok (.pointer (some ⟨b9,o9,none⟩)) x:=fun x=>Q4c (P:=Tryz.prog) (t:=30) (e:=5) (n:=32) (by kernel_rfl) (some ⟨b9,o9,none⟩) 32 c9 (le_refl _) x;have cs:=fun u (J:Q02 u (.slice ac a7 ab) E)=>Qbl ac a7 ab E aK.symm u J;have cr:=fun u (J:Q02 u (.slice ac a7 ab) E)=>Qll ac a7 ab E aK.symm aJ u J;have qn:=Qh9 (sumB E) sl (Q80 E) ax;have gn:=Qb2 (sumB E) sl;obtain ⟨bq,bC⟩:=Qe ((sumB E==sl));simp only [<-bC] at qn;have cg:((sumB E).map u8v).length=32:=by rw [length_map,Q80]
   have bG:(sl.map u8v).length=32:=by rw [length_map,ax]
   obtain ⟨SB,bz⟩:=Qe ((sumB E).map u8v);obtain ⟨SL,bB⟩:=Qe (sl.map u8v);rw [<-bz] at cg;rw [<-bB] at bG bL;simp only [<-bz] at cs qn gn;simp only [<-bB] at qn gn;have Cs:=Qhd cs;have Cr:=Qhd cr;have Qn:=Qhd qn;have Gn:=Qhd gn;have cH:=Qhd bG;have cK:=Qhd bL;have bX:=Qhd bC;have aW:=Qhd cz;have aX:=Qhd bT;have l8:=r8.fits.1;have cG:=Qhd l8.symm;have cJ:=Qhd cj;have k1:=fun u:Ext wr=>u.cell be;clear l8 l9 cs cr qn gn bG bL bz bB cg bC cz bT hR ax hy bD ba bd aK St r9 cj
   go_wp2_with fail
   refine Q03 wr 9 (by kernel_rfl) (by kernel_rfl) (Below.refl _ _) ?_;simp only [List.take_succ_cons,List.take_zero,List.take_nil]
   iterate 4 (refine Q06 (by rfl) (fun K z=>?_);go_simp;refine z _ ?_;clear z K)
   (refine Q06 (by rfl) (fun K z=>?_);go_simp;first|(refine z _ ?_;clear z K)|(apply Exists.intro;refine ⟨fun _=>?_,z _ ?_⟩;exact Cs.out _ (Ext.row _ cf);clear z K))
   iterate 2 (refine Q06 (by rfl) (fun K z=>?_);go_simp;refine z _ ?_;clear z K)
   (refine Q06 (by rfl) (fun K z=>?_);rw [if_pos (by rfl)];refine ⟨_,fun u=>Q16 _ (.tmp 35) (by rfl) _ _ (by rfl) Q0g cH.out (rangeAt.ext cK.out u),z _ ?_⟩;clear z K;simp only [Act.put,Qzs])
   (refine Q06 (by rfl) (fun K z=>?_);rw [if_pos (by rfl)];refine ⟨_,fun u=>Qen _ _ _ _ (by rfl) (by rfl) (by rfl) (fun o1 o2 Z=>Gn.out o1 o2 Z) (fun Z=>Qn.out Z),z _ ?_⟩;clear z K;simp only [Act.put,Qzs])
   refine Q0i ?_;intro u2 bb;simp only [List.reverse_nil,Q00];change wpList _ _ _ [] _ _;have aI:=D00 aa bb;have cy:=r8.below bb;have aM:=cf.below bb;have dh:u2.cell? ⟨bc,oc+i,none⟩=some (.slice ac a7 ab):=by rw [bb.cell (p:=⟨bc,oc+i,none⟩) (World.block_lt_of_cell? wr _ be)];exact be
   clear k1 cW be r8;cases bq with
   | false =>
    have I:=aW.out (beq_eq_false_iff_ne.1 bX.out.symm);subst I
    go_wp2_with fail
    go_ret2;exact ⟨none,0,0,rfl,aI,Q05.nil b8 1 _⟩
   | true =>
    have aD:=aX.out (beq_iff_eq.1 bX.out.symm);cases hrd:rdB E with
    | none =>
     have I:=aD.1 hrd;subst I;rw [hrd] at Cr;have av:∀ u:World,Q02 u (.slice ac a7 ab) E->Calls Tryz.prog 100 #[.slice ac a7 ab] u fun e w'=>Below u.heap.size u w'/\e=.returned (.tuple #[.agg #[.int .i64 0,.slice none 0 0,.slice none 0 0,.slice none 0 0],.int .i64 1]):=Cr.out;have aC:=Qhd av;clear aD aX aW hrd av
     go_wp2_with (first
      |(go_at_call 100;(with_reducible refine (aC.out _ aM).mono ?_);rintro e D ⟨b3,rfl⟩;have an:=D00 aI b3;have bA:Below D.heap.size D (D.alloc (.cells #[.int .i64 0,.slice none 0 0,.slice none 0 0,.slice none 0 0] 134)):=Qba _ _)
      |((with_reducible refine Qgs 44 ?_);refine Qsa 134 12 44 D.heap.size [.int .i64 0,.slice none 0 0,.slice none 0 0,.slice none 0 0] Q0a (D01 D 134 zsh) (by rfl) (by rfl) (by intro u J;simp at J;rcases J with rfl|rfl<;>rfl) bA (le_refl _) ?_;intro w4 ai N _;have ao:=D00 an N))
     go_ret2;exact ⟨none,0,0,rfl,ao,Q05.nil b8 1 _⟩
    | some s =>
     obtain ⟨bk,bU⟩:=aD.2 s hrd;rw [hrd] at Cr;have ho:=(Qs0 hrd (by have:=aM.fits.1;omega)).1;obtain ⟨kd,pp,O,U⟩:=s;dsimp only at bk;have av:∀ u:World,Q02 u (.slice ac a7 ab) E->Calls Tryz.prog 100 #[.slice ac a7 ab] u fun e w'=>Below u.heap.size u w'/\∃ (S:Option Addr) (T:Nat) (V:Option Addr) (W:Nat) (L:Option Addr) (M:Nat) (qs:List (Value × List UInt8)),e=.returned (.tuple #[.agg #[.int .i64 kd,.slice S pp.length T,.slice V O.length W,.slice L U.length M],.int .i64 0]) /\
      Q02 w' (.slice S pp.length T) pp/\Q02 w' (.slice V O.length W) O/\Q12 w' (.slice L U.length M) qs/\qs.map (·.2)=U:=Cr.out
     have aC:=Qhd av;have Ho:=Qhd ho;have cM:=Qhd bU;obtain ⟨LP,de⟩:=Qe (pp.length);obtain ⟨LV,dg⟩:=Qe (O.length);obtain ⟨LT,df⟩:=Qe (U.length);by_cases hz:i≠0/\kd=0
     ·have I:=bk hz;subst I;obtain ⟨cX,rfl⟩:=hz;have dj:(0:Int)<(i:Int):=by omega
      clear aD aX aW hrd bk bU ho av cX Cr
      go_wp2_with (first
       |(go_at_call 100;(with_reducible refine (aC.out _ aM).mono ?_);rintro e D ⟨b3,S,T,V,W,L,M,qs,rfl,bg,bi,bh,ae⟩;have an:=D00 aI b3;have bA:Below D.heap.size D (D.alloc (.cells #[.int .i64 0,.slice none 0 0,.slice none 0 0,.slice none 0 0] 134)):=Qba _ _)
       |((with_reducible refine Qgs 44 ?_);refine Qsa 134 12 44 D.heap.size [.int .i64 0,.slice S pp.length T,.slice V O.length W,.slice L U.length M] Q0a (D01 D 134 zsh) (by rfl) (by rfl) (by intro u J;simp at J;rcases J with rfl|rfl|rfl|rfl<;>rfl) bA (le_refl _) ?_;intro w4 ai N _;have ao:=D00 an N;have cd:w4.cell? ⟨D.heap.size,0,none⟩=some (.int .i64 0):=(ai.cell 0).trans rfl))
      go_ret2;exact ⟨none,0,0,rfl,ao,Q05.nil b8 1 _⟩
     have d2:=cM.out hz;have aE:=Qhd d2;clear bk bU ho av Cr;have c6:=fun (u:World) (S:Option Addr) (T:Nat) (V:Option Addr) (W:Nat) (L:Option Addr) (M:Nat) (qs:List (Value × List UInt8)) (hp:Q02 u (.slice S pp.length T) pp) (hv:Q02 u (.slice V O.length W) O) (ht:Q12 u (.slice L U.length M) qs) (ae:qs.map (·.2)=U) (hq:Q02 u (.slice a8 n8 c8) pl) =>
      Qps kd S V L a8 pp.length T O.length W U.length M n8 c8 pp O pl qs rfl rfl (by rw [<-ae];simp) cG.out.symm.symm u hp hv ht hq (by rw [ae];exact Ho.out) cJ.out
     have bV:=Qhd c6;have d6:=Qhd cT;clear aD aX aW hrd c6;have cS:(kd≠0∨(kd=0/\i=0)):=by
      by_cases aN:kd=0
      ·exact .inr ⟨aN,Classical.byContradiction fun bE=>hz ⟨bE,aN⟩⟩
      exact .inl aN
     obtain ⟨z2,cp⟩:=Qe (decide ((nxtP (kd,pp,O,U) pl).1=[]/\i+1<G));have d8:=Qhd cp;clear hz cp;rcases cS with aN|⟨rfl,bE⟩
     ·have dl:(kd==0)=false:=by rw [beq_eq_false_iff_ne];exact aN
      go_wp2_with (first
       |(go_at_call 100;(with_reducible refine (aC.out _ aM).mono ?_);rintro e D ⟨b3,S,T,V,W,L,M,qs,rfl,bg,bi,bh,ae⟩;have an:=D00 aI b3;have bA:Below D.heap.size D (D.alloc (.cells #[.int .i64 0,.slice none 0 0,.slice none 0 0,.slice none 0 0] 134)):=Qba _ _)
       |((with_reducible refine Qgs 44 ?_);refine Qsa 134 12 44 D.heap.size [.int .i64 kd,.slice S pp.length T,.slice V O.length W,.slice L U.length M] Q0a (D01 D 134 zsh) (by rfl) (by rfl) (by intro u J;simp at J;rcases J with rfl|rfl|rfl|rfl<;>rfl) bA (le_refl _) ?_;intro w4 ai N _;have ao:=D00 an N;have cd:w4.cell? ⟨D.heap.size,0,none⟩=some (.int .i64 kd):=(ai.cell 0).trans rfl;have bK:=cy.below (b3.trans (N.mono b3.size)))
       |(refine Qla 134 12 D.heap.size Q0a ai (by rfl) ?_)
       |(go_at_call 101;(with_reducible refine (bV.out _ S T V W L M qs (bg.below N) (bi.below N) (bh.below N) ae bK).mono ?_);rintro e w5 ⟨a1,c1,a2,c2,a3,c3,rfl,b5,n1,n2,n3⟩;have aw:=D00 ao b5))
      ·rename_i q1 q2;have I:=aE.out.1 q1 (by omega);subst I;go_ret2;exact ⟨none,0,0,rfl,aw,Q05.nil b8 1 _⟩
      ·rename_i q1 q2;rw [ae] at n1 n2 n3;have bN:Q02 w5 (.slice a1 0 c1) (nxtP (kd,pp,O,U) pl).1:=by rw [q1] at n1 |-;exact n1
       refine ⟨⟨i+1,_,_,_,a2,_,c2,a1,_,c1,a3,_,c3,?_,rfl,rfl,rfl,rfl,aw,n2,bN,n3,Qhd (aE.out.2 (fun e=>by omega))⟩,?_⟩
       ·omega
       show G+1 - ((i:Int)+1).toNat<G+1 - (i:Int).toNat;omega
      rename_i q1;rw [ae] at n1 n2 n3;refine ⟨⟨i+1,_,_,_,a2,_,c2,a1,_,c1,a3,_,c3,?_,rfl,rfl,rfl,rfl,aw,n2,n1,n3,Qhd (aE.out.2 (fun e=>q1 e.1))⟩,?_⟩
      ·omega
      show G+1 - ((i:Int)+1).toNat<G+1 - (i:Int).toNat;omega
     have dk:¬ (0:Int)<(i:Int):=by omega
     clear bE
     go_wp2_with (first
      |(go_at_call 100;(with_reducible refine (aC.out _ aM).mono ?_);rintro e D ⟨b3,S,T,V,W,L,M,qs,rfl,bg,bi,bh,ae⟩;have an:=D00 aI b3;have bA:Below D.heap.size D (D.alloc (.cells #[.int .i64 0,.slice none 0 0,.slice none 0 0,.slice none 0 0] 134)):=Qba _ _)
      |((with_reducible refine Qgs 44 ?_);refine Qsa 134 12 44 D.heap.size [.int .i64 0,.slice S pp.length T,.slice V O.length W,.slice L U.length M] Q0a (D01 D 134 zsh) (by rfl) (by rfl) (by intro u J;simp at J;rcases J with rfl|rfl|rfl|rfl<;>rfl) bA (le_refl _) ?_;intro w4 ai N _;have ao:=D00 an N;have cd:w4.cell? ⟨D.heap.size,0,none⟩=some (.int .i64 0):=(ai.cell 0).trans rfl;have bK:=cy.below (b3.trans (N.mono b3.size)))
      |(refine Qla 134 12 D.heap.size Q0a ai (by rfl) ?_)
      |(go_at_call 101;(with_reducible refine (bV.out _ S T V W L M qs (bg.below N) (bi.below N) (bh.below N) ae bK).mono ?_);rintro e w5 ⟨a1,c1,a2,c2,a3,c3,rfl,b5,n1,n2,n3⟩;have aw:=D00 ao b5))
     ·rename_i q1 q2;have I:=aE.out.1 q1 (by omega);subst I;go_ret2;exact ⟨none,0,0,rfl,aw,Q05.nil b8 1 _⟩
     rename_i q1 q2;rw [ae] at n1 n2 n3;have bN:Q02 w5 (.slice a1 0 c1) (nxtP (0,pp,O,U) pl).1:=by rw [q1] at n1 |-;exact n1
     refine ⟨⟨i+1,_,_,_,a2,_,c2,a1,_,c1,a3,_,c3,?_,rfl,rfl,rfl,rfl,aw,n2,bN,n3,Qhd (aE.out.2 (fun e=>by omega))⟩,?_⟩
     ·omega
     show G+1 - ((i:Int)+1).toNat<G+1 - (i:Int).toNat;omega
  obtain rfl:i=G:=by omega
  have I:R=([],5):=by rw [hR,List.drop_of_length_le (by rw [length_map,bm.out];exact le_refl _)];rfl
  subst I;have di:((i:Int)==(i:Int))=true:=beq_self_eq_true _;clear l9 ax hR St
  go_wp2_with fail
  go_ret2;exact ⟨none,0,0,rfl,aa,Q05.nil b8 1 _⟩
theorem Q08.neM {α β:Type}{f:α->List Value}{f':β->List Value}{size size':Nat}{e e':TypeId}{w:World}{B B':Nat}{v v':Value}{l:List α}{l':List β}(h:Q08 f size e w B v l)(h':Q08 f' size' e' w B' v' l')(hne:e≠e'):∀ k,v'.ownBlock=some k->v.ownBlock≠some k:=by
 intro k z D;rcases h.2 with ⟨rfl,_⟩|⟨g,cap,H,rfl,_,E,_⟩
 ·simp [Value.ownBlock] at D
 rcases h'.2 with ⟨rfl,_⟩|⟨J,G,I,rfl,_,y,_⟩
 ·simp [Value.ownBlock] at z
 simp only [Value.ownBlock,Option.some.injEq] at z D;subst z D;rw [E] at y;simp only [Option.some.injEq,Obj.cells.injEq] at y;exact hne y.2.1
structure MkW (w:World)(B:Nat)(va:Value)(all:List (Value × List UInt8))(hv0:Value)(H:List UInt8)(t:Nd)(ov:Value)(outs:List (Value × List UInt8))(u:World):Prop where
 hb:Below w.heap.size w u
 z:Blk 70 u w.heap.size (Q04 t)
 ra:Q05 Q0p 1 u va all
 ta:∀ q∈all,Q02 u q.1 q.2
 oh:Q08 b8 1 5 u B hv0 H
 oo:Q08 Q0p 1 25 u B ov outs
 fa:∀ k,va.ownBlock=some k->w.heap.size<k/\k<B
 ft:∀ q∈all,∀ k,q.1.ownBlock=some k->w.heap.size<k/\k<B
 hB:w.heap.size<B/\B<=u.heap.size
section
variable {w:World} {B:Nat} {va:Value} {all:List (Value × List UInt8)} {hv0:Value} {H:List UInt8} {t t':Nd} {ov ov':Value} {outs outs':List (Value × List UInt8)} {u u':World}
theorem MkW.kept (h:MkW w B va all hv0 H t ov outs u)(y:Below u.heap.size u u'):MkW w B va all hv0 H t ov outs u' :=
 ⟨D00 h.hb y,h.z.kept y,h.ra.kept y,fun q D=>(h.ta q D).kept y,h.oh.kept y,h.oo.kept y,h.fa,h.ft,h.hB.1,le_trans h.hB.2 y.size⟩
theorem MkW.grew (h:MkW w B va all hv0 H t ov outs u)(D:u.grownBy u' ov.ownBlock)(K:Q08 Q0p 1 25 u' B ov' outs'):MkW w B va all hv0 H t ov' outs' u' :=
 have G:=h.hB
 ⟨h.hb.grown D h.hb.size (fun k y=>by have:=Q08.lt h.oo k y;omega),h.z.grown D (h.oo.notT h.z (by decide)),Q05.grownT h.ra D (fun k y=>by have:=(h.fa k y).2;omega) (fun k y e=>by have I:=Q08.lt h.oo k e;have J:=(h.fa k y).2;omega),
  fun q E=>Q05.grownT (h.ta q E) D (fun k y=>by have:=(h.ft q E k y).2;omega) (fun k y e=>by have I:=Q08.lt h.oo k e;have J:=(h.ft q E k y).2;omega),h.oh.grown D (fun k y=>Q08.neM h.oh h.oo (by decide) k y),K,h.fa,h.ft,G.1,le_trans G.2 D.size⟩
theorem MkW.kid (h:MkW w B va all hv0 H t ov outs u){E:Nat}{cs:List Value}(D:u.grownBy u' (some E))(J:Blk 70 u E cs)(K:B<=E):MkW w B va all hv0 H t ov outs u' :=
 have G:=h.hB
 ⟨h.hb.grown D h.hb.size (fun k y=>by cases y;omega),h.z.grown D (fun e=>by simp only [Option.some.injEq] at e;omega),h.ra.offT D (fun k y=>by have:=(h.fa k y).2;omega),fun q I=>(h.ta q I).offT D (fun k y=>by have:=(h.ft q I k y).2;omega),
  h.oh.grown D (fun k y=>by cases y;exact h.oh.notT J (by decide)),h.oo.grown D (fun k y=>by cases y;exact h.oo.notT J (by decide)),h.fa,h.ft,G.1,le_trans G.2 D.size⟩
theorem MkW.turn (h:MkW w B va all hv0 H t ov outs u)(z:u.grownBy u' (some w.heap.size))(G:Blk 70 u' w.heap.size (Q04 t')):MkW w B va all hv0 H t' ov outs u' :=
 have D:=h.hB
 ⟨h.hb.grown z h.hb.size (fun k y=>by cases y;exact le_refl _),G,h.ra.offT z (fun k y=>by have:=(h.fa k y).1;omega),fun q E=>(h.ta q E).offT z (fun k y=>by have:=(h.ft q E k y).1;omega),
  h.oh.grown z (fun k y e=>by cases y;have:=Q08.lt h.oh _ e;omega),h.oo.grown z (fun k y e=>by cases y;have:=Q08.lt h.oo _ e;omega),h.fa,h.ft,D.1,le_trans D.2 z.size⟩
end
def KidS (p1 p2:Addr)(v1 v2:Value)(xb xo:Nat)(KC:List Value)(u:World):Prop:=u.cell? p1=some v1/\u.cell? p2=some v2/\u.rangeAt xb xo KC
theorem KidS.grown {D E:Addr}{I J:Value}{G K y:Nat}{H:List Value}{u u':World}(h:KidS D E I J G K H u)(z:u.grownBy u' (some y))(L:D.block≠y)(M:E.block≠y)(N:G≠y):KidS D E I J G K H u' :=
 ⟨z.cell h.1 (fun e=>L (by simpa using e)),z.cell h.2.1 (fun e=>M (by simpa using e)),fun j v O=>z.cell (h.2.2 j v O) (fun e=>N (by simpa using e))⟩
def MkP (E:Int)(A:List (List UInt8))(w:World)(e:Ending)(w':World):Prop:=∃ v ps,e=.returned (.tuple #[v,.int .i64 E])/\Q05 Q0p 1 w' v ps/\(∀ q∈ps,Q02 w' q.1 q.2)/\ps.map (·.2)=A/\Below w.heap.size w w'
def mkE (t:Nd)(key:List UInt8):Int:=if rgt 0 t=true then (if key.length<=32 then 0 else 3) else 1
def mkL (t:Nd)(key:List UInt8):List (List UInt8):=if rgt 0 t=true then (if key.length<=32 then dn (Q15 t) t (Q0c key) else []) else []
structure MkS (w:World)(t0:Nd)(H:List UInt8)(hv0:Value)(T:List (List UInt8))(all outs:List (Value × List UInt8))(t:Nd)(i:Nat)(p:List UInt8)(pv:Value)(n d:Nat):Prop where
 hn:Q15 t<=n
 hr:rgt d t=true
 hI:IsNd w t
 hb:Q15 t<=10000000000
 hf:FnN t
 hd:t.kd≠0->∃ l,(whN t0).drop i=alN t++l
 hi:i<(whN t0).length
 hs:SubB hv0 H pv p
 hx:∀ x∈p,x.toNat<16
 hm:∀ q∈outs,q∈all
 ht:outs.map (·.2)++(dn n t p).tail=T
 hl:outs.length+n<=10000000001
theorem MkS.stop {w:World}{N:Nd}{H:List UInt8}{L:Value}{T:List (List UInt8)}{all D:List (Value × List UInt8)}{kd:Int}{E:Value}{path:List UInt8}{I:Value}{G:List UInt8}{z:Value}{ks:List Nd}{i:Nat}{p:List UInt8}{M:Value}{n d:Nat}(h:MkS w N H L T all D (.mk kd E path I G z ks) i p M n d)
  (y:rst kd path p=none∨∃ j q k,rst kd path p=some (j,q)/\ks[j]?=some k/\k.kd=0):D.map (·.2)=T:=by
 rw [<-h.ht];have O:=h.hn;cases n with
 | zero=>have:=Q49 (.mk kd E path I G z ks);omega
 | succ n =>
  rcases y with y|⟨j,q,k,y,J,K⟩
  ·rw [dn,y];simp
  rw [dn,y];simp only [J,K,if_true,List.tail_cons,List.append_nil]
theorem MkS.go {w:World}{z:Nd}{H:List UInt8}{V:Value}{T:List (List UInt8)}{all W:List (Value × List UInt8)}{kd:Int}{tv:Value}{path:List UInt8}{vv:Value}{vb:List UInt8}{kv:Value}{ks:List Nd}{i:Nat}{p:List UInt8}{Z:Value}{n d:Nat}(h:MkS w z H V T all W (.mk kd tv path vv vb kv ks) i p Z n d)
  {j:Nat} {q:List UInt8} {k:Nd} {qv:Value}(hs:rst kd path p=some (j,q)) (hk:ks[j]?=some k) (hk0:k.kd≠0) (hq:SubB Z p qv q) (hW:all.map (·.2)=whN z):∃ x G,all[i+1+szL (ks.take j)]?=some x/\MkS w z H V T all (W++[x]) k (i+1+szL (ks.take j)) q qv (n - 1) G/\n - 1+1=n:=by
 have hn:=h.hn;have M:k∈ks:=List.mem_of_getElem? hk;have am:=Q1u M;obtain ⟨k',G,K,a',_⟩:=Q8u h.hr hs h.hx;rw [hk] at K;simp only [Option.some.injEq] at K;subst K;simp only [Q15] at hn;obtain ⟨m,rfl⟩:∃ m,n=m+1:=⟨n - 1,by omega⟩;have S:kd≠0/\kd≠1:=by
  unfold rst at hs;split at hs
  ·rename_i e;subst e;decide
  split at hs
  ·rename_i e;subst e;decide
  cases hs
 obtain ⟨l,hl⟩:=h.hd S.1;obtain ⟨l2,a8⟩:=Qrf ks j k hk hk0;have J:(whN z).drop (i+1+szL (ks.take j))=alN k++(l2++l):=by
  rw [show i+1+szL (ks.take j)=i+(1+szL (ks.take j)) from by omega,<-List.drop_drop,hl,alN,if_neg S.2,List.cons_append,Nat.add_comm 1,List.drop_succ_cons,List.drop_append,a8];have I:szL (ks.take j)<=(alL ks).length:=by rw [Qev];exact Qbj ks j
  rw [Nat.sub_eq_zero_of_le I,List.drop_zero,List.append_assoc]
 obtain ⟨l3,U⟩:=Q7q k;have L:i+1+szL (ks.take j)<(whN z).length:=by
  have:=congrArg List.length J;rw [List.length_drop,U] at this;simp at this;omega
 have a0:i+1+szL (ks.take j)<all.length:=by rw [<-hW,length_map] at L;exact L
 obtain ⟨x,N⟩:∃ x,all[i+1+szL (ks.take j)]?=some x:=⟨_,List.getElem?_eq_getElem a0⟩;have aa:x.2=cdN k:=by
  have I:(whN z)[i+1+szL (ks.take j)]?=some x.2:=by rw [<-hW,List.getElem?_map,N];rfl
  have O:((whN z).drop (i+1+szL (ks.take j)))[0]?=some x.2:=by rw [List.getElem?_drop,Nat.add_zero];exact I
  rw [J,U] at O;simpa using O.symm
 refine ⟨x,G,N,⟨by omega,a',?_,by have:=h.hb;simp only [Q15] at this;omega,h.hf.inv.2.2.2 k M,fun _=>⟨_,J⟩,L,h.hs.trans hq,(Q83 hs h.hx).1,fun y D=>?_,?_,by have:=h.hl;simp only [List.length_append,List.length_singleton];omega⟩,by omega⟩
 ·exact h.hI.inv.2.2.2 k M
 ·rcases List.mem_append.1 D with D|D
  ·exact h.hm y D
  rw [List.mem_singleton] at D;rw [D];exact List.mem_of_getElem? N
 have E:=h.ht;rw [dn,hs] at E;simp only [hk,List.tail_cons] at E;rw [if_neg hk0] at E;rw [<-E,List.map_append,List.append_assoc];congr 1;rw [show m+1 - 1=m from rfl,List.map_singleton,aa,<-Qu2 hk0];obtain ⟨ao,a1,a2,a3,a4,a5,a6⟩:=k;cases m with
 | zero=>rw [dn];rfl
 | succ m=>rw [dn];rfl
end Go.Proofs.YtbdmkfjgnjfjbaaGreat
