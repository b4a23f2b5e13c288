/- The walk of the law WorldLeaves. | How an account, a slice of holders, an address that come in are read; their bulks. -/
import Derived.Test.YtcgpjceopnfahaaGreatWorldLeavesK42
import Derived.Test.YtcgpjceopnfahaaGreatWorldLeavesK43
import Derived.Test.YtcgpjceopnfahaaGreatWorldLeavesK38
import Derived.Test.YtcgpjceopnfahaaGreatWorldLeavesK36
import Derived.OpenShut
set_option linter.unusedSimpArgs false
set_option linter.unusedVariables false
set_option maxHeartbeats 4000000
set_option maxRecDepth 100000
namespace Go.Proofs.YtcgpjceopnfahaaGreat
open Go.RowKit
theorem Q5b (A:Acc)(kA:A.Ok)(hN:A.s.length≤1048576)(hC:A.c.length≤1048576)(l:Lf)(kl:l.Ok)(ba:Option Addr)(bc:Nat)(b:List UInt8)(hbl:b.length≤1048576)(w:World)(hI:A.In w)(hB:Bytes w (.slice ba b.length bc) b) :
  Calls Tryz.prog 3 #[.agg (accs A).toArray,.agg (lfcs l).toArray,.slice ba b.length bc] w fun e w'=>e=.returned (.bool true)∧Below w.heap.size w w':=by
 obtain ⟨bn,hbn⟩:∃ n,n=b.length:=⟨_,rfl⟩
 rw [←hbn] at hB ⊢
 obtain ⟨w1,hw1⟩:∃ w1,w1=(w.alloc (.cells (accs A).toArray 28)).alloc (.cells (lfcs l).toArray 32):=⟨_,rfl⟩
 have hza:Blk 28 w1 w.heap.size (accs A):=by rw [hw1];exact (Blk.new w _ _).alloc _
 have hzl:Blk 32 w1 (w.heap.size+1) (lfcs l):=by
  have:=Blk.new (w.alloc (.cells (accs A).toArray 28)) 32 (lfcs l)
  simp only [World.size_alloc] at this
  rw [hw1];exact this
 have hbel:Below w.heap.size w w1:=by rw [hw1];exact ((Below.refl _ _).alloc (Nat.le_refl _) _).alloc (by simp) _
 have hzn:∀ u:World,Blk 32 (u.alloc (.cells Tryz.zeroCells32 32)) u.heap.size (lfcs zL):=fun u=>by rw [zcLf];exact Blk.new u _ _
 have hl69:=Q0v zL_ok
 have c1:=fun u (hu:Below w1.heap.size w1 u)=>Qkp A kA hN u ((hI.below hbel).below hu)
 have c2:=fun u (hu:Below w1.heap.size w1 u)=>Qhh A kA hN hC u ((hI.below hbel).below hu)
 have c3:=fun u (hu:Below w1.heap.size w1 u)=>Qgu ba bn bc b hbn.symm (by omega) u ((hB.below hbel).below hu)
 have c4:=fun u (hu:Below w1.heap.size w1 u)=>Qf9 ba bn bc b hbn.symm (by omega) u ((hB.below hbel).below hu)
 have c5:=fun u=>Q9o l kl u
 have c6:=fun u=>Q7o l kl u
 have kX:=lfA_ok kA
 obtain ⟨R,hR⟩:∃ R,R=lfA A:=⟨_,rfl⟩
 simp only [←hR] at c1 c2 kX
 obtain ⟨X,E⟩:=R
 have g1:∀ o1 o2 w1,(eqGuard .eql 32 o1 o2 (.agg (lfcs X).toArray) (.agg (lfcs X).toArray)).run Tryz.prog w1=.ok () w1:=fun o1 o2 w1=>Q7u X X o1 o2 w1
 have q1:∀ w1:World,(binOp .eql 32 (.agg (lfcs X).toArray) (.agg (lfcs X).toArray)).run Tryz.prog w1=.ok (.bool true) w1:=fun w1=>Qd1 kX w1
 have hXl:(lfcs X).length=69:=Q0v kX
 have hXo:=Q0z X
 obtain ⟨XC,hXC⟩:∃ C,C=lfcs X:=⟨_,rfl⟩
 unfold LfPost at c1 c2
 simp only [←hXC] at c1 c2 g1 q1 hXl hXo
 obtain ⟨WB,hWB⟩:∃ B,B=wL l:=⟨_,rfl⟩
 simp only [←hWB] at c5 c6
 have hLl:=Q0v kl
 obtain ⟨LC,hLC⟩:∃ C,C=lfcs l:=⟨_,rfl⟩
 rw [←hLC] at hLl hzl hw1 ⊢
 simp only [←hLC] at c5 c6
 have hAl:(accs A).length=7:=rfl
 obtain ⟨AC,hAC⟩:∃ C,C=accs A:=⟨_,rfl⟩
 rw [←hAC] at hAl hza hw1 ⊢
 simp only [←hAC] at c1 c2
 have r1:=hza.all0
 have HAl:=Lib.hid hAl
 have HXl:=Lib.hid hXl
 have HXo:=Lib.hid hXo
 have HLl:=Lib.hid hLl
 have G1:=Lib.hid g1
 have Q1:=Lib.hid q1
 have C1:=Lib.hid c1
 have C2:=Lib.hid c2
 have C3:=Lib.hid c3
 have C4:=Lib.hid c4
 have C5:=Lib.hid c5
 have C6:=Lib.hid c6
 have HzN:=Lib.hid hzn
 have HWe:=Lib.hid hw1
 have hEE:(E==E)=true:=beq_self_eq_true E
 clear hw1 hzn c1 c2 c3 c4 c5 c6 kX g1 q1 hXl hXo hXC hWB hLl hLC hAl hAC hR hI hB kA kl hN hC hbl hbn
 go_enter Tryz.func3,Tryz.ntmps3
 go_upto_region 5 with (first
  |(rw [←HWe.out])
  |((with_reducible show wpList _ _ _ (⟨some 16,_,_,_,_,_⟩::_) _ _);refine Q07 (o:=⟨some 16,_,_,_,_,_⟩) 28 (.tmp 3) (by rfl) w.heap.size 0 (by rfl) aggAcc HAl.out r1 (by rfl) ?_)
  |(go_at_call 8;(with_reducible refine (C1.out _ (Below.refl _ _)).mono ?_);rintro e w2 ⟨rfl,b2⟩)
  |((with_reducible show wpList _ _ _ (⟨none,.store _ _ (.tmp 18),_,_,_,_⟩::_) _ _);refine Q00 (o:=⟨none,_,_,_,_,_⟩) (by rfl) 32 (.tmp 7) (.tmp 18) (by rfl) w2.heap.size XC (by rfl) (by rfl) aggLf (HzN.out w2) HXl.out hl69 HXo.out ((Below.refl w2.heap.size w2).alloc (Nat.le_refl _) _) (Nat.le_refl _) ?_;intro w3 h3 b3 _;have b13:=Below.then b2 b3;have r3:=(hza.kept b13).all0)
  |((with_reducible show wpList _ _ _ (⟨some 21,_,_,_,_,_⟩::_) _ _);refine Q07 (o:=⟨some 21,_,_,_,_,_⟩) 28 (.tmp 3) (by rfl) w.heap.size 0 (by rfl) aggAcc HAl.out r3 (by rfl) ?_)
  |(go_at_call 9;(with_reducible refine (C2.out _ b13).mono ?_);rintro e w4 ⟨rfl,b4⟩)
  |((with_reducible show wpList _ _ _ (⟨none,.store _ _ (.tmp 23),_,_,_,_⟩::_) _ _);refine Q00 (o:=⟨none,_,_,_,_,_⟩) (by rfl) 32 (.tmp 9) (.tmp 23) (by rfl) w4.heap.size XC (by rfl) (by rfl) aggLf (HzN.out w4) HXl.out hl69 HXo.out ((Below.refl w4.heap.size w4).alloc (Nat.le_refl _) _) (Nat.le_refl _) ?_;intro w5 h5 b5 _;have b15:=Below.then b13 (Below.then b4 b5);have h35:=h3.kept (Below.then b4 b5))
  |(go_at_call 10;(with_reducible refine (C3.out _ b15).mono ?_);rintro e w6 ⟨H,EH,rfl,kH,rH,b6⟩;have hHl:=Q0v kH;have hHo:=Q0z H)
  |((with_reducible show wpList _ _ _ (⟨none,.store _ _ (.tmp 28),_,_,_,_⟩::_) _ _);refine Q00 (o:=⟨none,_,_,_,_,_⟩) (by rfl) 32 (.tmp 11) (.tmp 28) (by rfl) w6.heap.size (lfcs H) (by rfl) (by rfl) aggLf (HzN.out w6) hHl hl69 hHo ((Below.refl w6.heap.size w6).alloc (Nat.le_refl _) _) (Nat.le_refl _) ?_;intro w7 h7 b7 _;have b17:=Below.then b15 (Below.then b6 b7);have h57:=h5.kept (Below.then b6 b7);have h37:=h35.kept (Below.then b6 b7))
  |(go_at_call 11;(with_reducible refine (C4.out _ b17).mono ?_);rintro e w8 ⟨H',EH',rfl,kH',rH',b8⟩;obtain ⟨rfl,rfl⟩:=RdL.one kH kH' rH rH')
  |((with_reducible show wpList _ _ _ (⟨none,.store _ _ (.tmp 33),_,_,_,_⟩::_) _ _);refine Q00 (o:=⟨none,_,_,_,_,_⟩) (by rfl) 32 (.tmp 13) (.tmp 33) (by rfl) w8.heap.size (lfcs H) (by rfl) (by rfl) aggLf (HzN.out w8) hHl hl69 hHo ((Below.refl w8.heap.size w8).alloc (Nat.le_refl _) _) (Nat.le_refl _) ?_;intro w9 h9 b9 _;have b89:=Below.then b8 b9;have b19:=Below.then b17 b89;have h79:=h7.kept b89;have h59:=h57.kept b89;have h39:=h37.kept b89))
 have g2:∀ o1 o2 w1,(eqGuard .eql 32 o1 o2 (.agg (lfcs H).toArray) (.agg (lfcs H).toArray)).run Tryz.prog w1=.ok () w1:=fun o1 o2 w1=>Q7u H H o1 o2 w1
 have q2:∀ w1:World,(binOp .eql 32 (.agg (lfcs H).toArray) (.agg (lfcs H).toArray)).run Tryz.prog w1=.ok (.bool true) w1:=fun w1=>Qd1 kH w1
 obtain ⟨HC,hHC⟩:∃ C,C=lfcs H:=⟨_,rfl⟩
 rw [←hHC] at hHl h79 h9
 simp only [←hHC] at g2 q2 ⊢
 have G2:=Lib.hid g2
 have Q2:=Lib.hid q2
 have HHl:=Lib.hid hHl
 have S3:=Lib.hid h39.all0
 have S5:=Lib.hid h59.all0
 have S7:=Lib.hid h79.all0
 have S9:=Lib.hid h9.all0
 have SL:=Lib.hid (hzl.kept b19).all0
 have hHH:(EH==EH)=true:=beq_self_eq_true EH
 have bel9:=Below.then hbel b19
 clear g2 q2 hHl hHo hHC rH rH' kH kH' h3 h5 h7 h9 h35 h57 h37 h79 h59 h39 b2 b3 b4 b5 b6 b7 b8 b9 b13 b15 b17 b89 r1 r3 hza hzl
 refine Q03 w9 28 (by kernel_rfl) (by kernel_rfl) (Below.refl _ _) ?_;simp only [List.take_succ_cons,List.take_zero,List.take_nil]
 iterate 4 (refine Q02 (by rfl) (fun K hK=>?_);go_simp;first|(refine hK _ ?_;clear hK K)|(apply Exists.intro;refine ⟨fun _=>?_,hK _ ?_⟩;fail;clear hK K))
 (refine Q02 (by rfl) (fun K hK=>?_);rw [if_pos (by rfl)];refine ⟨_,fun u=>Q0d _ (.tmp 7) (by rfl) _ _ (by rfl) aggLf HXl.out (rangeAt.ext S3.out u),hK _ ?_⟩;clear hK K;simp only [Act.put,List.setIfInBounds_toArray,List.set_cons_zero,List.set_cons_succ])
 (refine Q02 (by rfl) (fun K hK=>?_);rw [if_pos (by rfl)];refine ⟨_,fun u=>Q0d _ (.tmp 9) (by rfl) _ _ (by rfl) aggLf HXl.out (rangeAt.ext S5.out u),hK _ ?_⟩;clear hK K;simp only [Act.put,List.setIfInBounds_toArray,List.set_cons_zero,List.set_cons_succ])
 (refine Q02 (by rfl) (fun K hK=>?_);rw [if_pos (by rfl)];refine ⟨_,fun u=>Q1h _ _ _ _ (by rfl) (by rfl) (by rfl) (fun o1 o2 w1=>G1.out o1 o2 w1) (fun w1=>Q1.out w1),hK _ ?_⟩;clear hK K;simp only [Act.put,List.setIfInBounds_toArray,List.set_cons_zero,List.set_cons_succ])
 iterate 7 (refine Q02 (by rfl) (fun K hK=>?_);go_simp;first|(refine hK _ ?_;clear hK K)|(apply Exists.intro;refine ⟨fun _=>?_,hK _ ?_⟩;fail;clear hK K))
 (refine Q02 (by rfl) (fun K hK=>?_);rw [if_pos (by rfl)];refine ⟨_,fun u=>Q0d _ (.tmp 11) (by rfl) _ _ (by rfl) aggLf HHl.out (rangeAt.ext S7.out u),hK _ ?_⟩;clear hK K;simp only [Act.put,List.setIfInBounds_toArray,List.set_cons_zero,List.set_cons_succ])
 (refine Q02 (by rfl) (fun K hK=>?_);rw [if_pos (by rfl)];refine ⟨_,fun u=>Q0d _ (.tmp 13) (by rfl) _ _ (by rfl) aggLf HHl.out (rangeAt.ext S9.out u),hK _ ?_⟩;clear hK K;simp only [Act.put,List.setIfInBounds_toArray,List.set_cons_zero,List.set_cons_succ])
 (refine Q02 (by rfl) (fun K hK=>?_);rw [if_pos (by rfl)];refine ⟨_,fun u=>Q1h _ _ _ _ (by rfl) (by rfl) (by rfl) (fun o1 o2 w1=>G2.out o1 o2 w1) (fun w1=>Q2.out w1),hK _ ?_⟩;clear hK K;simp only [Act.put,List.setIfInBounds_toArray,List.set_cons_zero,List.set_cons_succ])
 iterate 2 (refine Q02 (by rfl) (fun K hK=>?_);go_simp;first|(refine hK _ ?_;clear hK K)|(apply Exists.intro;refine ⟨fun _=>?_,hK _ ?_⟩;fail;clear hK K))
 (refine Q02 (by rfl) (fun K hK=>?_);rw [if_pos (by rfl)];refine ⟨_,fun u=>Q0d _ (.tmp 4) (by rfl) _ _ (by rfl) aggLf HLl.out (rangeAt.ext SL.out u),hK _ ?_⟩;clear hK K;simp only [Act.put,List.setIfInBounds_toArray,List.set_cons_zero,List.set_cons_succ])
 refine Q0b 55 (TxB 0 WB) rfl (of_decide_eq_true rfl) (TxB.mono _ _) (fun w2 hw2=>?_) ?_
 ·change Q01 w2 [] _ _
  simp only [Q01]
  refine ⟨rfl,?_⟩
  go_simp
  refine (C5.out w2).mono ?_
  rintro e w3 ⟨v,rfl,o3,b3⟩
  exact ⟨v,rfl,⟨o3.1,fun _ _=>Nat.zero_le _⟩,b3⟩
 refine wpX_eq (str WB) (fun w2 hw2=>?_) ?_
 ·change Q01 w2 [(55,_)] _ _
  intro v22 h22
  simp only [Q01]
  refine ⟨rfl,?_⟩
  have c22:=Q0n (P:=Tryz.prog) (src:=25) (dst:=9) elU8.ht (by kernel_rfl) (by kernel_rfl) h22.1
  go_simp
  exact Below.refl _ _
 (refine Q02 (by rfl) (fun K hK=>?_);rw [if_pos (by rfl)];refine ⟨_,fun u=>Q0d _ (.tmp 4) (by rfl) _ _ (by rfl) aggLf HLl.out (rangeAt.ext SL.out u),hK _ ?_⟩;clear hK K;simp only [Act.put,List.setIfInBounds_toArray,List.set_cons_zero,List.set_cons_succ])
 refine Q0b 58 (TxB 0 WB) rfl (of_decide_eq_true rfl) (TxB.mono _ _) (fun w2 hw2=>?_) ?_
 ·change Q01 w2 [] _ _
  simp only [Q01]
  refine ⟨rfl,?_⟩
  go_simp
  refine (C6.out w2).mono ?_
  rintro e w3 ⟨v,rfl,o3,b3⟩
  exact ⟨v,rfl,⟨o3.1,fun _ _=>Nat.zero_le _⟩,b3⟩
 refine wpX_eq (str WB) (fun w2 hw2=>?_) ?_
 ·change Q01 w2 [(58,_)] _ _
  intro v22 h22
  simp only [Q01]
  refine ⟨rfl,?_⟩
  have c22:=Q0n (P:=Tryz.prog) (src:=25) (dst:=9) elU8.ht (by kernel_rfl) (by kernel_rfl) h22.1
  go_simp
  exact Below.refl _ _
 iterate 3 (refine Q02 (by rfl) (fun K hK=>?_);go_simp;first|(refine hK _ ?_;clear hK K)|(apply Exists.intro;refine ⟨fun _=>?_,hK _ ?_⟩;fail;clear hK K))
 refine Q0e ?_
 intro u2 hb2 v55 _ v58 _
 change Q01 u2 [] _ _
 simp only [Q01,List.drop_succ_cons,List.drop_zero,List.drop_nil]
 try simp only [Act.put,List.setIfInBounds_toArray,List.set_cons_zero,List.set_cons_succ]
 go_wp2_with fail
 go_ret
 exact ⟨rfl,Below.then bel9 hb2⟩
end Go.Proofs.YtcgpjceopnfahaaGreat
namespace Go.Proofs.YtcgpjceopnfahaaGreat
open Go.ChangeShapes Go.WideShapes Go.ChangeAt Go.RowKit
section
variable {H:Type} {enc:TypeId × Value→H} {W:World}
theorem Qaf {fuel:Nat}{cs:List Value}{x:DataW H × List MemPlace}(h:DataW.trod enc Tryz.prog W 0 (fun _=>true) true fuel 102 cs=some x):∃ p:Nat × Nat,cs=spc p∧(p.1<W256∧p.2<W256):=by
 obtain ⟨xs,n,hn,hx,hcl,hlen,hf⟩:=DataW.trod_struct Tryz.underlying102 h
 have c8:Tryz.prog.cellsOf 102=8:=by kernel_rfl
 have c4:Tryz.prog.cellsOf 24=4:=by kernel_rfl
 have hl:xs.length=2:=hlen
 rw [c8] at hcl
 match xs,hl with
 | [y0,y1],_ =>
  have h0:=hf 0 _ rfl
  have h1:=hf 1 _ rfl
  change DataW.trod enc Tryz.prog W 0 (fun _=>true) true n 24 ((cs.drop 0).take (Tryz.prog.cellsOf 24))=some y0 at h0
  change DataW.trod enc Tryz.prog W 0 (fun _=>true) true n 24 ((cs.drop 4).take (Tryz.prog.cellsOf 24))=some y1 at h1
  obtain ⟨A,hA,e0⟩:=Q2x h0
  obtain ⟨B,hB,e1⟩:=Q2x h1
  rw [c4] at e0 e1
  refine ⟨(A,B),?_,hA,hB⟩
  have q0:cs.drop 0=cs:=rfl
  have q8:cs.drop 8=[]:=List.drop_eq_nil_of_le (by omega)
  rw [←q0,piece cs 0 4,e0,piece cs (0+4) 4,e1,q8]
  simp [spc]
def SzA (d:DataW H)(a:Acc):Prop:=∃ y0 y1 y2 y3,d=.agg [y0,y1,y2,y3]∧Sz y2 a.c.length∧Sz y3 a.s.length
theorem Qbz {fuel:Nat}{cs:List Value}{x:DataW H × List MemPlace}(h:DataW.trod enc Tryz.prog W 0 (fun _=>true) true fuel 28 cs=some x):∃ a:Acc,cs=accs a∧a.Ok∧a.In W∧SzA x.1 a:=by
 obtain ⟨xs,n,hn,hx,hcl,hlen,hf⟩:=DataW.trod_struct Tryz.underlying28 h
 have c7:Tryz.prog.cellsOf 28=7:=by kernel_rfl
 have c4:Tryz.prog.cellsOf 24=4:=by kernel_rfl
 have c1:Tryz.prog.cellsOf 22=1:=by kernel_rfl
 have c2:Tryz.prog.cellsOf 25=1:=by kernel_rfl
 have c3:Tryz.prog.cellsOf 26=1:=by kernel_rfl
 have hl:xs.length=4:=hlen
 rw [c7] at hcl
 match xs,hl with
 | [y0,y1,y2,y3],_ =>
  have h0:=hf 0 _ rfl
  have h1:=hf 1 _ rfl
  have h2:=hf 2 _ rfl
  have h3:=hf 3 _ rfl
  change DataW.trod enc Tryz.prog W 0 (fun _=>true) true n 22 ((cs.drop 0).take (Tryz.prog.cellsOf 22))=some y0 at h0
  change DataW.trod enc Tryz.prog W 0 (fun _=>true) true n 24 ((cs.drop 1).take (Tryz.prog.cellsOf 24))=some y1 at h1
  change DataW.trod enc Tryz.prog W 0 (fun _=>true) true n 25 ((cs.drop 5).take (Tryz.prog.cellsOf 25))=some y2 at h2
  change DataW.trod enc Tryz.prog W 0 (fun _=>true) true n 26 ((cs.drop 6).take (Tryz.prog.cellsOf 26))=some y3 at h3
  obtain ⟨z,e0,_,hw⟩:=DataW.trod_int Tryz.underlying22 h0
  obtain ⟨m,hm,e1⟩:=Q2x h1
  obtain ⟨cv,C,e2,r2,z2⟩:=Q8m elU8.ht Tryz.underlying5 (by kernel_rfl) h2
  obtain ⟨sv,S,e3,r3,g3,z3⟩:=Qag (f:=spc) (good:=fun p=>p.1<W256∧p.2<W256) (sz:=fun _ _=>True) (size:=8) Tryz.underlying26 (by kernel_rfl) (by omega) Q42 h3 (fun n _ cs' x' hx=>by
   obtain ⟨p,g1,g2⟩:=Qaf hx
   exact ⟨p,g1,g2,trivial⟩)
  have hb:=bounds_u64 hw
  obtain ⟨z',rfl⟩:=Int.eq_ofNat_of_zero_le hb.1
  rw [c1] at e0
  rw [c4] at e1
  rw [c2] at e2
  rw [c3] at e3
  refine ⟨⟨z',m,cv,C,sv,S⟩,?_,⟨by show z'<_;omega,hm,g3⟩,⟨r2,r3⟩,y0.1,y1.1,y2.1,y3.1,by rw [hx];rfl,z2,z3.sz⟩
  have q0:cs.drop 0=cs:=rfl
  have q7:cs.drop 7=[]:=List.drop_eq_nil_of_le (by omega)
  rw [←q0,piece cs 0 1,e0,piece cs (0+1) 4,e1,piece cs (0+1+4) 1,e2,piece cs (0+1+4+1) 1,e3,q7]
  rfl
theorem Q7e {r:Reach}{b0:Nat}{v:Value}{d:DataW H}{p:List MemPlace}(hv:Value.okWide Tryz.prog W r b0 28 v)(h:DataW.Trod enc Tryz.prog W 0 (fun _=>true) true 28 v d p) :
  ∃ a:Acc,v=.agg (accs a).toArray∧(a.Ok∧a.In W)∧SzA d a:=by
 obtain ⟨cs,rfl,_⟩:=okWide_struct Tryz.underlying28 hv
 obtain ⟨fuel,hf⟩:=h
 obtain ⟨l⟩:=cs
 change DataW.trod enc Tryz.prog W 0 (fun _=>true) true fuel 28 l=some (d,p) at hf
 obtain ⟨a,rfl,k,i,z⟩:=Qbz hf
 exact ⟨a,rfl,⟨k,i⟩,z⟩
theorem SzA.upto {d:DataW H}{a:Acc}(h:SzA d a):1+a.c.length+a.s.length≤Rows.uptoBulk d:=by
 obtain ⟨y0,y1,y2,y3,rfl,z2,z3⟩:=h
 have h2:=Qb7 z2
 have h3:=Qb7 z3
 simp only [Rows.uptoBulk,Rows.uptoBulkAll]
 omega
end
end Go.Proofs.YtcgpjceopnfahaaGreat
