/- A request read out of the arguments. | How an account, a slice of holders, an address that come in are read; their bulks. | The walk of the law LazyServes. -/
import Derived.Test.YtbdmkfjgnjfjbaaGreatLazyServesK43
import Derived.MapViews
import Derived.DeepKeys2
import Derived.Test.YtbdmkfjgnjfjbaaGreatLazyServesK32
import Derived.Test.YtbdmkfjgnjfjbaaGreatLazyServesK30
import Derived.OpenShut
import Derived.Test.YtbdmkfjgnjfjbaaGreatLazyServesK44
set_option linter.unusedSimpArgs false
set_option linter.unusedVariables false
set_option maxHeartbeats 4000000
set_option maxRecDepth 100000
namespace Go.Proofs.YtbdmkfjgnjfjbaaGreat
open Go.ChangeShapes Go.WideShapes Go.ChangeAt Go.RowKit
structure Rq where
 k:Int
 a:List UInt8
 m:Nat
def Rq.Ok (l:Rq):Prop:=l.a.length=8
theorem Qlz:Tryz.prog.cellsOf 51=13:=by kernel_rfl
section
variable {H:Type} {enc:TypeId × Value→H} {W:World}
theorem Q65 {fuel:Nat}{cs:List Value}{x:DataW H × List MemPlace}(h:DataW.trod enc Tryz.prog W 0 (fun _=>true) true fuel 51 cs=some x):∃ l:Rq,l.Ok∧cs=rqc l.k l.a l.m:=by
 obtain ⟨xs,n,hn,hx,hcl,hlen,hf⟩:=DataW.trod_struct Tryz.underlying51 h
 have c8:Tryz.prog.cellsOf 41=8:=by kernel_rfl
 have c4:Tryz.prog.cellsOf 24=4:=by kernel_rfl
 have c1:Tryz.prog.cellsOf 3=1:=by kernel_rfl
 have hl:xs.length=3:=hlen
 rw [Qlz] at hcl
 match xs,hl with
 | [y0,y1,y2],_ =>
  have h0:=hf 0 _ rfl
  have h1:=hf 1 _ rfl
  have h2:=hf 2 _ rfl
  change DataW.trod enc Tryz.prog W 0 (fun _=>true) true n 3 ((cs.drop 0).take (Tryz.prog.cellsOf 3))=some y0 at h0
  change DataW.trod enc Tryz.prog W 0 (fun _=>true) true n 41 ((cs.drop 1).take (Tryz.prog.cellsOf 41))=some y1 at h1
  change DataW.trod enc Tryz.prog W 0 (fun _=>true) true n 24 ((cs.drop 9).take (Tryz.prog.cellsOf 24))=some y2 at h2
  obtain ⟨k,e0,_,_⟩:=DataW.trod_int Tryz.underlying3 h0
  obtain ⟨f1,l1,e1⟩:=Qjr Tryz.underlying41 c8 h1
  obtain ⟨f2,l2,e2⟩:=Q2w h2
  rw [c1] at e0
  rw [c8] at e1
  rw [c4] at e2
  refine ⟨⟨k,f1,f2⟩,l1,?_⟩
  have q0:cs.drop 0=cs:=rfl
  have q13:cs.drop 13=[]:=List.drop_eq_nil_of_le (by omega)
  rw [←q0,piece cs 0 1,e0,piece cs (0+1) 8,e1,piece cs (0+1+8) 4,e2,q13,List.append_nil]
  rfl
theorem Qa0 {r:Reach}{b0:Nat}{v:Value}{d:DataW H}{p:List MemPlace}(hv:Value.okWide Tryz.prog W r b0 51 v)(h:DataW.Trod enc Tryz.prog W 0 (fun _=>true) true 51 v d p):∃ l:Rq,v=.agg (rqc l.k l.a l.m).toArray∧l.Ok:=by
 obtain ⟨cs,rfl,_⟩:=okWide_struct Tryz.underlying51 hv
 obtain ⟨fuel,hf⟩:=h
 obtain ⟨l,h1,h2⟩:=Q65 hf
 have h3:cs.toList=rqc l.k l.a l.m:=h2
 exact ⟨l,congrArg Value.agg (by rw [←h3]),h1⟩
end
section
variable {H:Type} {enc:TypeId × Value→H} {W:World}
theorem Qa2 {fuel:Nat}{cs:List Value}{x:DataW H × List MemPlace}(h:DataW.trod enc Tryz.prog W 0 (fun _=>true) true fuel 41 cs=some x):∃ A:List UInt8,A.length=8∧cs=by8 A:=by
 obtain ⟨xs,e1,e2,e3⟩:=Q80 Tryz.underlying41 Tryz.underlying5 (by kernel_rfl) (by kernel_rfl) h
 refine ⟨xs.map fun z=>UInt8.ofNat z.toNat,by rw [List.length_map,e2],?_⟩
 rw [e1]
 unfold by8
 rw [List.map_map]
 exact List.map_congr_left (fun z hz=>by show _=u8v (UInt8.ofNat z.toNat);rw [u8v_of _ (Qc9 (e3 z hz))])
theorem Q9z {fuel:Nat}{cs:List Value}{x:DataW H × List MemPlace}(h:DataW.trod enc Tryz.prog W 0 (fun _=>true) true fuel 102 cs=some x):∃ p:Nat × Nat,cs=spc p∧(p.1<W256∧p.2<W256):=by
 obtain ⟨xs,n,hn,hx,hcl,hlen,hf⟩:=DataW.trod_struct Tryz.underlying102 h
 have c8:Tryz.prog.cellsOf 102=8:=by kernel_rfl
 have c4:Tryz.prog.cellsOf 24=4:=by kernel_rfl
 have hl:xs.length=2:=hlen
 rw [c8] at hcl
 match xs,hl with
 | [y0,y1],_ =>
  have h0:=hf 0 _ rfl
  have h1:=hf 1 _ rfl
  change DataW.trod enc Tryz.prog W 0 (fun _=>true) true n 24 ((cs.drop 0).take (Tryz.prog.cellsOf 24))=some y0 at h0
  change DataW.trod enc Tryz.prog W 0 (fun _=>true) true n 24 ((cs.drop 4).take (Tryz.prog.cellsOf 24))=some y1 at h1
  obtain ⟨A,hA,e0⟩:=Q2w h0
  obtain ⟨B,hB,e1⟩:=Q2w h1
  rw [c4] at e0 e1
  refine ⟨(A,B),?_,hA,hB⟩
  have q0:cs.drop 0=cs:=rfl
  have q8:cs.drop 8=[]:=List.drop_eq_nil_of_le (by omega)
  rw [←q0,piece cs 0 4,e0,piece cs (0+4) 4,e1,q8]
  simp [spc]
def SzA (d:DataW H)(a:Acc):Prop:=∃ y0 y1 y2 y3,d=.agg [y0,y1,y2,y3]∧Sz y2 a.c.length∧Sz y3 a.s.length
theorem Qbc {fuel:Nat}{cs:List Value}{x:DataW H × List MemPlace}(h:DataW.trod enc Tryz.prog W 0 (fun _=>true) true fuel 28 cs=some x):∃ a:Acc,cs=accs a∧a.Ok∧a.In W∧SzA x.1 a:=by
 obtain ⟨xs,n,hn,hx,hcl,hlen,hf⟩:=DataW.trod_struct Tryz.underlying28 h
 have c7:Tryz.prog.cellsOf 28=7:=by kernel_rfl
 have c4:Tryz.prog.cellsOf 24=4:=by kernel_rfl
 have c1:Tryz.prog.cellsOf 22=1:=by kernel_rfl
 have c2:Tryz.prog.cellsOf 25=1:=by kernel_rfl
 have c3:Tryz.prog.cellsOf 26=1:=by kernel_rfl
 have hl:xs.length=4:=hlen
 rw [c7] at hcl
 match xs,hl with
 | [y0,y1,y2,y3],_ =>
  have h0:=hf 0 _ rfl
  have h1:=hf 1 _ rfl
  have h2:=hf 2 _ rfl
  have h3:=hf 3 _ rfl
  change DataW.trod enc Tryz.prog W 0 (fun _=>true) true n 22 ((cs.drop 0).take (Tryz.prog.cellsOf 22))=some y0 at h0
  change DataW.trod enc Tryz.prog W 0 (fun _=>true) true n 24 ((cs.drop 1).take (Tryz.prog.cellsOf 24))=some y1 at h1
  change DataW.trod enc Tryz.prog W 0 (fun _=>true) true n 25 ((cs.drop 5).take (Tryz.prog.cellsOf 25))=some y2 at h2
  change DataW.trod enc Tryz.prog W 0 (fun _=>true) true n 26 ((cs.drop 6).take (Tryz.prog.cellsOf 26))=some y3 at h3
  obtain ⟨z,e0,_,hw⟩:=DataW.trod_int Tryz.underlying22 h0
  obtain ⟨m,hm,e1⟩:=Q2w h1
  obtain ⟨cv,C,e2,r2,z2⟩:=Q8h elU8.ht Tryz.underlying5 (by kernel_rfl) h2
  obtain ⟨sv,S,e3,r3,g3,z3⟩:=Q64 (f:=spc) (good:=fun p=>p.1<W256∧p.2<W256) (sz:=fun _ _=>True) (size:=8) Tryz.underlying26 (by kernel_rfl) (by omega) Q26 h3 (fun n _ cs' x' hx=>by
   obtain ⟨p,g1,g2⟩:=Q9z hx
   exact ⟨p,g1,g2,trivial⟩)
  have hb:=bounds_u64 hw
  obtain ⟨z',rfl⟩:=Int.eq_ofNat_of_zero_le hb.1
  rw [c1] at e0
  rw [c4] at e1
  rw [c2] at e2
  rw [c3] at e3
  refine ⟨⟨z',m,cv,C,sv,S⟩,?_,⟨by show z'<_;omega,hm,g3⟩,⟨r2,r3⟩,y0.1,y1.1,y2.1,y3.1,by rw [hx];rfl,z2,z3.sz⟩
  have q0:cs.drop 0=cs:=rfl
  have q7:cs.drop 7=[]:=List.drop_eq_nil_of_le (by omega)
  rw [←q0,piece cs 0 1,e0,piece cs (0+1) 4,e1,piece cs (0+1+4) 1,e2,piece cs (0+1+4+1) 1,e3,q7]
  rfl
def SzH (d:DataW H)(p:Hol):Prop:=∃ y0 y1,d=.agg [y0,y1]∧SzA y1 p.a
theorem Qbb {fuel:Nat}{cs:List Value}{x:DataW H × List MemPlace}(h:DataW.trod enc Tryz.prog W 0 (fun _=>true) true fuel 123 cs=some x):∃ p:Hol,cs=hols p∧(p.a.Ok∧p.a.In W)∧SzH x.1 p:=by
 obtain ⟨xs,n,hn,hx,hcl,hlen,hf⟩:=DataW.trod_struct Tryz.underlying123 h
 have c15:Tryz.prog.cellsOf 123=15:=by kernel_rfl
 have c7:Tryz.prog.cellsOf 28=7:=by kernel_rfl
 have c8:Tryz.prog.cellsOf 41=8:=by kernel_rfl
 have hl:xs.length=2:=hlen
 rw [c15] at hcl
 match xs,hl with
 | [y0,y1],_ =>
  have h0:=hf 0 _ rfl
  have h1:=hf 1 _ rfl
  change DataW.trod enc Tryz.prog W 0 (fun _=>true) true n 41 ((cs.drop 0).take (Tryz.prog.cellsOf 41))=some y0 at h0
  change DataW.trod enc Tryz.prog W 0 (fun _=>true) true n 28 ((cs.drop 8).take (Tryz.prog.cellsOf 28))=some y1 at h1
  obtain ⟨A,hA,e0⟩:=Qa2 h0
  obtain ⟨a,e1,k1,i1,s1⟩:=Qbc h1
  rw [c8] at e0
  rw [c7] at e1
  refine ⟨⟨A,a,hA⟩,?_,⟨k1,i1⟩,y0.1,y1.1,by rw [hx];rfl,s1⟩
  have q0:cs.drop 0=cs:=rfl
  have q15:cs.drop 15=[]:=List.drop_eq_nil_of_le (by omega)
  rw [←q0,piece cs 0 8,e0,piece cs (0+8) 7,e1,q15,List.append_nil]
  rfl
theorem Qa1 {r:Reach}{b0:Nat}{v:Value}{d:DataW H}{p:List MemPlace}
  (hv:Value.okWide Tryz.prog W r b0 39 v) (h:DataW.Trod enc Tryz.prog W 0 (fun _=>true) true 39 v d p) :
  ∃ l:List Hol,RowOf hols 15 W v l∧(∀ q∈l,q.a.Ok∧q.a.In W)∧SzL SzH d l:=by
 obtain ⟨fuel,hf⟩:=h
 obtain ⟨v',l,h1,h2,h3,h4⟩:=Q64 (f:=hols) (good:=fun q=>q.a.Ok∧q.a.In W) (sz:=SzH) (size:=15) Tryz.underlying39 (by kernel_rfl) (by omega) Q10 hf (fun n _ cs' x' hx=>Qbb hx)
 obtain rfl:v=v':=Qle h1 (by obtain ⟨a,len,cap,hh⟩:=okWide_slice Tryz.underlying39 hv;exact ⟨a,len,cap,hh⟩)
 exact ⟨l,h2,h3,h4⟩
theorem SzA.upto {d:DataW H}{a:Acc}(h:SzA d a):1+a.c.length+a.s.length≤Rows.uptoBulk d:=by
 obtain ⟨y0,y1,y2,y3,rfl,z2,z3⟩:=h
 have h2:=Qar z2
 have h3:=Qar z3
 simp only [Rows.uptoBulk,Rows.uptoBulkAll]
 omega
theorem SzH.upto {d:DataW H}{p:Hol}(h:SzH d p):1+p.a.c.length+p.a.s.length≤Rows.uptoBulk d:=by
 obtain ⟨y0,y1,rfl,z⟩:=h
 have h2:=z.upto
 simp only [Rows.uptoBulk,Rows.uptoBulkAll]
 omega
end
end Go.Proofs.YtbdmkfjgnjfjbaaGreat
namespace Go.Proofs.YtbdmkfjgnjfjbaaGreat
open Go.RowKit
theorem Q77 {H:Type}{d:DataW H}{l:List Hol}(h:SzL SzH d l)(hm:Rows.uptoBulk d≤1048576):l.length≤1048576∧∀ q∈l,q.a.s.length≤1048576∧q.a.c.length≤1048576:=by
 have h1:=Qfa (m:=fun q:Hol=>1+q.a.c.length+q.a.s.length) (fun _ _=>SzH.upto) h
 have h2:=Qar h.sz
 refine ⟨by omega,fun q hq=>?_⟩
 have:∀ (l:List Hol),q∈l→1+q.a.c.length+q.a.s.length≤(l.map fun q:Hol=>1+q.a.c.length+q.a.s.length).sum:=by
  intro l
  induction l with
  | nil=>intro h;simp at h
  | cons p l ih =>
   intro h
   simp only [List.map_cons,List.sum_cons]
   rcases List.mem_cons.1 h with rfl|h
   ·omega
   ·have:=ih h;omega
 have:=this l hq
 omega
theorem Qjm (S:List (Nat × Nat))(E:Nat){SB:List UInt8}(h:SB.length=32):(psV S E SB).1.length≤130:=by
 unfold psV
 split
 ·exact Qf0 _ h
 ·simp
theorem SvR.len {H:List Hol}{A SB:List UInt8}{k:Int}{P:List (List UInt8)}{C:List UInt8}{E:Int}(hSB:SB.length=32)(h:SvR H A SB k P C E):P.length≤130:=by
 rcases h with ⟨_,rfl,_⟩|⟨_,_,V,e,_,rfl,_⟩|⟨_,rfl,_⟩|⟨_,rfl,_⟩
 ·exact Ql6 H A
 ·exact Qjm _ _ hSB
 ·simp
 ·simp
theorem Q6a (a:Option Addr)(n c:Nat)(H:List Hol)(hn:H.length=n)(hN:n≤1048576)(hs:∀ h∈H,h.a.s.length≤1048576∧h.a.c.length≤1048576)(q:Rq)(hq:q.Ok)(w:World)(h:RowOf hols 15 w (.slice a n c) H)(hki:∀ h∈H,h.a.Ok∧h.a.In w) :
  Calls Tryz.prog 5 #[.slice a n c,.agg (rqc q.k q.a q.m).toArray] w fun e w'=>e=.returned (.bool true)∧Below w.heap.size w w':=by
 obtain ⟨k,A,K⟩:=q
 have hA:A.length=8:=hq
 dsimp only
 have hk:=fun p hp=>(hki p hp).1
 have hi:=fun p hp=>(hki p hp).2
 obtain ⟨w1,hw1⟩:∃ w1,w1=w.alloc (.cells (rqc k A K).toArray 51):=⟨_,rfl⟩
 have hr:Blk 51 w1 w.heap.size (rqc k A K):=by rw [hw1];exact Blk.new w _ _
 have hbel:Below w.heap.size w w1:=by rw [hw1];exact Qba _ _
 have c1:=fun u (hu:Below w1.heap.size w1 u)=>Qfz a n c H hn hN hk hs k A hA K u ((h.below hbel).below hu) (fun p hp=>((hi p hp).below hbel).below hu)
 have c2:=fun u (hu:Below w1.heap.size w1 u)=>Qds a n c H hn hN hk hs k A hA K u ((h.below hbel).below hu) (fun p hp=>((hi p hp).below hbel).below hu)
 have hS32:(sumB (wb K)).length=32:=Q0i _
 have hone:=fun (P P':List (List UInt8)) (C C':List UInt8) (E E':Int) (h1:SvR H A (sumB (wb K)) k P C E) (h2:SvR H A (sumB (wb K)) k P' C' E')=>SvR.one h1 h2
 have hlen:=fun (P:List (List UInt8)) (C:List UInt8) (E:Int) (h1:SvR H A (sumB (wb K)) k P C E)=>SvR.len hS32 h1
 obtain ⟨R,hR⟩:∃ R,R=SvR H A (sumB (wb K)) k:=⟨_,rfl⟩
 simp only [←hR] at c1 c2 hone hlen
 have hRl:=Ql2 k hA K
 obtain ⟨RC,hRC⟩:∃ C,C=rqc k A K:=⟨_,rfl⟩
 rw [←hRC] at hw1 hr hRl ⊢
 simp only [←hRC] at c1 c2
 unfold SvPost at c1 c2
 have HWe:=Qhd hw1
 have HRl:=Qhd hRl
 have C1:=Qhd c1
 have C2:=Qhd c2
 have Hone:=Qhd hone
 have Hlen:=Qhd hlen
 have r1:=hr.all0
 have hzl:z2v.length=2:=rfl
 have hznew:∀ u:World,Blk 53 (u.alloc (.cells #[.slice none 0 0,.slice none 0 0] 53)) u.heap.size z2v:=fun u=>Blk.new u _ z2v
 have Hz2:=Qhd hznew
 clear hw1 c1 c2 hR hRC hRl hone hlen hk hki hi hs hn hN h hA hq hS32 hznew
 go_enter Tryz.func5,Tryz.ntmps5
 go_wp2_with (first
  |(rw [←HWe.out])
  |((with_reducible refine Qgl 11 ?_);refine Qlw 51 3 w.heap.size 0 aggReq HRl.out r1 ?_)
  |(go_at_call 21;(with_reducible refine (C1.out _ (Below.refl _ _)).mono ?_);rintro e w2 ⟨P,C,E,xa,xn,xc,ps,ya,yn,yc,rfl,hR2,t2,l2,y2,b2⟩;have one2:=Q27 xa xn xc ya yn yc)
  |((with_reducible refine Qgs 13 ?_);refine Qsa 53 5 13 w2.heap.size [.slice xa xn xc,.slice ya yn yc] aggRep (Hz2.out w2) rfl hzl one2 (Qba w2 _) (Nat.le_refl _) ?_;intro w3 h3 b23 _;have b3:=Below.then b2 b23;have r3:=(hr.kept b3).all0;have T3:=t2.below b23;have Y3:=RowOf.kept (f:=b8) (size:=1) y2 b23)
  |((with_reducible refine Qgl 17 ?_);refine Qlw 51 3 w.heap.size 0 aggReq HRl.out r3 ?_)
  |(go_at_call 22;(with_reducible refine (C2.out _ b3).mono ?_);rintro e w4 ⟨P',C',E',ua,un,uc,qs,va,vn,vc,rfl,hR4,t4,l4,y4,b34⟩;have one4:=Q27 ua un uc va vn vc;obtain ⟨eP,eC,eE⟩:=Hone.out _ _ _ _ _ _ hR2 hR4;clear Hone hR4;subst eP;subst eC;subst eE;have b4:=Below.then b3 b34)
  |((with_reducible refine Qgs 19 ?_);refine Qsa 53 7 19 w4.heap.size [.slice ua un uc,.slice va vn vc] aggRep (Hz2.out w4) rfl hzl one4 (Qba w4 _) (Nat.le_refl _) ?_;intro w5 h5 b45 _;have b5:=Below.then b4 b45;have b35:=Below.then b34 b45;have x5:=(h3.kept b35).all0;have z5:=h5.all0;have T5:=T3.below b35;have Y5:=RowOf.kept (f:=b8) (size:=1) Y3 b35;have U5:=t4.below b45;have V5:=RowOf.kept (f:=b8) (size:=1) y4 b45;have hEE:(E==E)=true:=beq_self_eq_true E;have hl:=Hlen.out _ _ _ hR2;obtain rfl:un=xn:=(by rw [T5.1.fits.1,U5.1.fits.1];have e1:=congrArg List.length l2;have e2:=congrArg List.length l4;rw [List.length_map] at e1 e2;omega);obtain rfl:vn=yn:=(by rw [Y5.fits.1,V5.fits.1]);have hxn:un≤1048576:=(by rw [T5.1.fits.1];have e1:=congrArg List.length l2;rw [List.length_map] at e1;omega);have cs:=Qhd (Q72 xa ua un xc uc ps qs ya va vn yc vc C hxn (by rw [l2,l4]) w5 T5 U5 Y5 V5);clear hl hR2 l2 l4)
  |((with_reducible refine Qgl 25 ?_);refine Qlw 53 5 w2.heap.size 0 aggRep (by rfl) x5 ?_)
  |((with_reducible refine Qgl 26 ?_);refine Qlw 53 7 w4.heap.size 0 aggRep (by rfl) z5 ?_)
  |(go_at_call 23;(with_reducible refine cs.out.mono ?_);rintro e w6 ⟨rfl,b56⟩))
 go_ret
 exact ⟨rfl,Below.then hbel (Below.then b5 b56)⟩
end Go.Proofs.YtbdmkfjgnjfjbaaGreat
