/- The reference's shapeItem: of nothing, of no kind. | The reference's shapeItem of a leaf. | The reference's shapeItem of a road. | The reference's shapeItem of  -/
import Derived.Test.YtbdmkfjgnjfjbaaGreatBlockListsK16
set_option linter.unusedSimpArgs false
set_option linter.unusedVariables false
set_option maxHeartbeats 4000000
set_option maxRecDepth 100000
open List (filter_nil length_append map_append mem_append mem_cons mem_map mem_singleton nil_append take_nil take_of_length_le take_succ_cons take_zero)
open Nat (le_of_eq le_refl le_trans)
namespace Go.Proofs.YtbdmkfjgnjfjbaaGreat
open Go.RowKit
theorem Q41 (p:List UInt8)(k:Nat)(h:k<p.length):(!Q0r (p.take (k+1)))=((!Q0r (p.take k)) && decide ((p[k]).toNat<16)):=by
 rw [List.take_succ_eq_append_getElem h,Q8f];unfold Q0r;simp only [List.any_cons,List.any_nil,Bool.or_false];cases ((p.take k).any fun x=>decide (15<x.toNat)) with
 | true=>simp
 | false =>
  rw [Bool.false_or,Bool.not_false,Bool.true_and,Bool.eq_iff_iff];simp;omega
theorem Qj2 (y H D:Option Addr)(h z J I G E:Nat)(p:List UInt8)(ae:p.length=h)(w:World)(hp:Q02 w (.slice y h z) p)(hP:h<=4194304) :
  Calls Tryz.prog 160 #[.agg #[.int .i64 0,.slice y h z,.slice H J I,.slice D G E]] w (Q1y true (Q1q []) w):=by
 have K:Blk 134 ((w.alloc (.cells #[.int .i64 0,.slice y h z,.slice H J I,.slice D G E] 134)).alloc (.cells #[.bool false,.slice none 0 0,.slice none 0 0] 77)) w.heap.size [.int .i64 0,.slice y h z,.slice H J I,.slice D G E]:=(D01 w 134 _).alloc _;have a4:Blk 77 ((w.alloc (.cells #[.int .i64 0,.slice y h z,.slice H J I,.slice D G E] 134)).alloc (.cells #[.bool false,.slice none 0 0,.slice none 0 0] 77)) (w.heap.size+1) [.bool false,.slice none 0 0,.slice none 0 0]:=by
  have:=D01 (w.alloc (.cells #[.int .i64 0,.slice y h z,.slice H J I,.slice D G E] 134)) 77 [.bool false,.slice none 0 0,.slice none 0 0];simpa using this
 have S:Below w.heap.size w ((w.alloc (.cells #[.int .i64 0,.slice y h z,.slice H J I,.slice D G E] 134)).alloc (.cells #[.bool false,.slice none 0 0,.slice none 0 0] 77)):=(Qba _ _).alloc (by simp) _;obtain ⟨w1,T⟩:=Qe ((w.alloc (.cells #[.int .i64 0,.slice y h z,.slice H J I,.slice D G E] 134)).alloc (.cells #[.bool false,.slice none 0 0,.slice none 0 0] 77));rw [<-T] at K a4 S;have a0:=hp.below S;have a7:=Qhd T;have M:=Qhd ae;clear T;go_enter Tryz.func160,Tryz.ntmps160
 go_wp2_with fail
 rw [<-a7.out];have c0:=(K.cell 0).trans (show _=some (Value.int .i64 0) from rfl);have c1:=(K.cell 1).trans (show _=some (Value.slice y h z) from rfl);have c2:=(K.cell 2).trans (show _=some (Value.slice H J I) from rfl);have c3:=(K.cell 3).trans (show _=some (Value.slice D G E) from rfl)
 go_loopw [4,20] (fun t4 U wr=>∃ k:Nat,k<=h/\U=.int .i64 (k:Int)/\t4=.bool (!Q0r (p.take k))/\wr=w1) (fun _ U _=>h - (intOf U).toNat)
 case atStart=>exact ⟨0,by omega,rfl,by simp [Q0r],rfl⟩
 case round =>
  obtain ⟨k,aq,rfl,rfl,rfl⟩:=hrel;by_cases hlt:k<h
  ·have ar:(k:Int)<(h:Int):=by omega
   obtain ⟨b,off,rfl,hc⟩:=Q02.at a0 k (by rw [M.out];exact hlt);have L:=Q41 p k (by rw [M.out];exact hlt);obtain ⟨x,hx⟩:=Qe (p[k]'(by rw [M.out];exact hlt));rw [<-hx] at hc L;obtain ⟨b0,N⟩:=Qe ((!Q0r (p.take k)));obtain ⟨b1,O⟩:=Qe ((!Q0r (p.take (k+1))));rw [<-N,<-O] at L;rw [<-N];have a5:=Qhd O;have af:decide ((x.toNat:Int)<16)=decide (x.toNat<16):=by
    rw [Bool.eq_iff_iff];simp only [decide_eq_true_eq];omega
   obtain ⟨bx,Z⟩:=Qe (decide (x.toNat<16));rw [<-Z] at af L;have a6:=Qhd L;clear L N O hx Z;cases b0
   all_goals
    go_wp2
    go_roundw
    case rel=>exact ⟨k+1,by omega,by go_num,by rw [<-a5.out,a6.out];rfl,by first|trivial|rfl⟩
    case measure=>simp [intOf];omega
  obtain rfl:k=h:=by omega
  have a1:p.take k=p:=take_of_length_le (by rw [M.out];omega);rw [a1];clear a1 a0
  go_wp2_with (first
   |(go_at_call 55;(with_reducible refine (Q3c _ _ _ _).mono ?_);rintro e w3 ⟨rfl,V⟩;have ag:=a4.kept V;have W:=D00 S V)
   |((with_reducible refine Qgs 34 ?_);refine Qsa 77 2 34 (w.heap.size+1) [.bool false,.slice none 0 0,.slice none 0 0] Q09 ag (by rfl) (by rfl) (by intro u hu;simp at hu;rcases hu with rfl|rfl<;>rfl) (Below.refl _ _) (le_refl _) ?_;intro w5 ab _ aa;have a9:=W.grown aa W.size (fun j hj=>by cases hj;omega)))
  exact bodyPost_ret (Q01 rfl _ _ (w.heap.size+1) Q09 ab rfl rfl rfl) rfl ⟨false,none,0,0,[],none,0,0,[],rfl,fun _=>⟨Q17.txt (Q05.nil b8 1 w5),Qcw _ _,by rw [show Q1z (.mk false (.slice none 0 0) [] (.slice none 0 0) [])=Q1z (txt (.slice none 0 0) []) from rfl,Qd6];simp⟩,a9⟩
theorem Qj5 (kd:Int)(W:kd≠0)(Z:kd≠1)(h2:kd≠2)(h3:kd≠3)(z I E:Option Addr)(y D K J H G:Nat)(p:List UInt8)(ah:p.length=y)(w:World)(hp:Q02 w (.slice z y D) p)(hP:y<=4194304) :
  Calls Tryz.prog 160 #[.agg #[.int .i64 kd,.slice z y D,.slice I K J,.slice E H G]] w (Q1y false [] w):=by
 have L:Blk 134 ((w.alloc (.cells #[.int .i64 kd,.slice z y D,.slice I K J,.slice E H G] 134)).alloc (.cells #[.bool false,.slice none 0 0,.slice none 0 0] 77)) w.heap.size [.int .i64 kd,.slice z y D,.slice I K J,.slice E H G]:=(D01 w 134 _).alloc _;have a7:Blk 77 ((w.alloc (.cells #[.int .i64 kd,.slice z y D,.slice I K J,.slice E H G] 134)).alloc (.cells #[.bool false,.slice none 0 0,.slice none 0 0] 77)) (w.heap.size+1) [.bool false,.slice none 0 0,.slice none 0 0]:=by
  have:=D01 (w.alloc (.cells #[.int .i64 kd,.slice z y D,.slice I K J,.slice E H G] 134)) 77 [.bool false,.slice none 0 0,.slice none 0 0];simpa using this
 have O:Below w.heap.size w ((w.alloc (.cells #[.int .i64 kd,.slice z y D,.slice I K J,.slice E H G] 134)).alloc (.cells #[.bool false,.slice none 0 0,.slice none 0 0] 77)):=(Qba _ _).alloc (by simp) _;obtain ⟨w1,U⟩:=Qe ((w.alloc (.cells #[.int .i64 kd,.slice z y D,.slice I K J,.slice E H G] 134)).alloc (.cells #[.bool false,.slice none 0 0,.slice none 0 0] 77));rw [<-U] at L a7 O;have a3:=hp.below O;have a':=Qhd U;have N:=Qhd ah;clear U;have e0:(kd==0)=false:=by rw [beq_eq_false_iff_ne];exact W
 have e1:(kd==1)=false:=by rw [beq_eq_false_iff_ne];exact Z
 have e2:(kd==2)=false:=by rw [beq_eq_false_iff_ne];exact h2
 have e3:(kd==3)=false:=by rw [beq_eq_false_iff_ne];exact h3
 clear W Z h2 h3;go_enter Tryz.func160,Tryz.ntmps160
 go_wp2_with fail
 rw [<-a'.out];have c0:=(L.cell 0).trans (show _=some (Value.int .i64 kd) from rfl);have c1:=(L.cell 1).trans (show _=some (Value.slice z y D) from rfl);have c2:=(L.cell 2).trans (show _=some (Value.slice I K J) from rfl);have c3:=(L.cell 3).trans (show _=some (Value.slice E H G) from rfl)
 go_loopw [4,20] (fun t4 V wr=>∃ k:Nat,k<=y/\V=.int .i64 (k:Int)/\t4=.bool (!Q0r (p.take k))/\wr=w1) (fun _ V _=>y - (intOf V).toNat)
 case atStart=>exact ⟨0,by omega,rfl,by simp [Q0r],rfl⟩
 case round =>
  obtain ⟨k,ax,rfl,rfl,rfl⟩:=hrel;by_cases hlt:k<y
  ·have ay:(k:Int)<(y:Int):=by omega
   obtain ⟨b,off,rfl,hc⟩:=Q02.at a3 k (by rw [N.out];exact hlt);have M:=Q41 p k (by rw [N.out];exact hlt);obtain ⟨x,hx⟩:=Qe (p[k]'(by rw [N.out];exact hlt));rw [<-hx] at hc M;obtain ⟨b0,S⟩:=Qe ((!Q0r (p.take k)));obtain ⟨b1,T⟩:=Qe ((!Q0r (p.take (k+1))));rw [<-S,<-T] at M;rw [<-S];have a8:=Qhd T;have ai:decide ((x.toNat:Int)<16)=decide (x.toNat<16):=by
    rw [Bool.eq_iff_iff];simp only [decide_eq_true_eq];omega
   obtain ⟨bx,a2⟩:=Qe (decide (x.toNat<16));rw [<-a2] at ai M;have a9:=Qhd M;clear M S T hx a2;cases b0
   all_goals
    go_wp2
    go_roundw
    case rel=>exact ⟨k+1,by omega,by go_num,by rw [<-a8.out,a9.out];rfl,by first|trivial|rfl⟩
    case measure=>simp [intOf];omega
  obtain rfl:k=y:=by omega
  have a4:p.take k=p:=take_of_length_le (by rw [N.out];omega);rw [a4];clear a4 a3
  go_wp2_with ((with_reducible refine Qgs 172 ?_);refine Qsa 77 2 172 (w.heap.size+1) [.bool false,.slice none 0 0,.slice none 0 0] Q09 a7 (by rfl) (by rfl) (by intro u hu;simp at hu;rcases hu with rfl|rfl<;>rfl) (Below.refl _ _) (le_refl _) ?_;intro w5 ae _ ad;have ab:=O.grown ad O.size (fun j hj=>by cases hj;omega))
  exact bodyPost_ret (Q01 rfl _ _ (w.heap.size+1) Q09 ae rfl rfl rfl) rfl ⟨false,none,0,0,[],none,0,0,[],rfl,fun h=>by simp at h,ab⟩
theorem Qj3 (L z W:Option Addr)(G M y D kn Z:Nat)(p v:List UInt8)(aG:p.length=G)(aL:v.length=y)(w:World)(hp:Q02 w (.slice L G M) p)(hv:Q02 w (.slice z y D) v)(hP:G<=4194304)(hV:y<=1048576) :
  Calls Tryz.prog 160 #[.agg #[.int .i64 1,.slice L G M,.slice z y D,.slice W kn Z]] w (Q1y (!Q0r p&&decide (1<=y)&&decide (y<=1024)) (lsB [Q2d (tagL p true),v]) w):=by
 have ct:=fun x h=>Qc9 L G M p true aG x h (by omega);have ay:=Q6p p true;obtain ⟨T,hT⟩:=Qe (Q2d (tagL p true));obtain ⟨E,hE⟩:=Qe (Q3z (tagL p true));rw [<-hT] at ay |-;simp only [<-hT,<-hE] at ct;obtain ⟨ok,al⟩:=Qe ((!Q0r p&&decide (1<=y)&&decide (y<=1024)));rw [<-al];have aE:T.length<=4194310:=by omega
 obtain ⟨O,aJ⟩:=Qe (T.length);have aW:=Qhd aJ;have Ct:=Qhd ct;have aa:=Qhd al;have aU:=Qhd aE;have aY:=Qhd aL;clear ct hT aJ ay hE al aE aL;have a3:Blk 134 ((w.alloc (.cells #[.int .i64 1,.slice L G M,.slice z y D,.slice W kn Z] 134)).alloc (.cells #[.bool false,.slice none 0 0,.slice none 0 0] 77)) w.heap.size [.int .i64 1,.slice L G M,.slice z y D,.slice W kn Z]:=(D01 w 134 _).alloc _;have a9:Blk 77 ((w.alloc (.cells #[.int .i64 1,.slice L G M,.slice z y D,.slice W kn Z] 134)).alloc (.cells #[.bool false,.slice none 0 0,.slice none 0 0] 77)) (w.heap.size+1) [.bool false,.slice none 0 0,.slice none 0 0]:=by
  have:=D01 (w.alloc (.cells #[.int .i64 1,.slice L G M,.slice z y D,.slice W kn Z] 134)) 77 [.bool false,.slice none 0 0,.slice none 0 0];simpa using this
 have J:Below w.heap.size w ((w.alloc (.cells #[.int .i64 1,.slice L G M,.slice z y D,.slice W kn Z] 134)).alloc (.cells #[.bool false,.slice none 0 0,.slice none 0 0] 77)):=(Qba _ _).alloc (by simp) _;obtain ⟨w1,ao⟩:=Qe ((w.alloc (.cells #[.int .i64 1,.slice L G M,.slice z y D,.slice W kn Z] 134)).alloc (.cells #[.bool false,.slice none 0 0,.slice none 0 0] 77));rw [<-ao] at a3 a9 J;have aF:=hp.below J;have aZ:=Qhd ao;have ab:=Qhd aG;clear ao;go_enter Tryz.func160,Tryz.ntmps160
 go_wp2_with fail
 rw [<-aZ.out];have c0:=(a3.cell 0).trans (show _=some (Value.int .i64 1) from rfl);have c1:=(a3.cell 1).trans (show _=some (Value.slice L G M) from rfl);have c2:=(a3.cell 2).trans (show _=some (Value.slice z y D) from rfl);have c3:=(a3.cell 3).trans (show _=some (Value.slice W kn Z) from rfl)
 go_loopw [4,20] (fun t4 ix wr=>∃ k:Nat,k<=G/\ix=.int .i64 (k:Int)/\t4=.bool (!Q0r (p.take k))/\wr=w1) (fun _ ix _=>G - (intOf ix).toNat)
 case atStart=>exact ⟨0,by omega,rfl,by simp [Q0r],rfl⟩
 case round =>
  obtain ⟨k,bs,rfl,rfl,rfl⟩:=hrel;by_cases hlt:k<G
  ·have bt:(k:Int)<(G:Int):=by omega
   obtain ⟨b,off,rfl,hc⟩:=Q02.at aF k (by rw [ab.out];exact hlt);have a7:=Q41 p k (by rw [ab.out];exact hlt);obtain ⟨x,hx⟩:=Qe (p[k]'(by rw [ab.out];exact hlt));rw [<-hx] at hc a7;obtain ⟨b0,ah⟩:=Qe ((!Q0r (p.take k)));obtain ⟨b1,ai⟩:=Qe ((!Q0r (p.take (k+1))));rw [<-ah,<-ai] at a7;rw [<-ah];have aT:=Qhd ai;have bf:decide ((x.toNat:Int)<16)=decide (x.toNat<16):=by
    rw [Bool.eq_iff_iff];simp only [decide_eq_true_eq];omega
   obtain ⟨bx,aB⟩:=Qe (decide (x.toNat<16));rw [<-aB] at bf a7;have aV:=Qhd a7;clear a7 ah ai hx aB;cases b0
   all_goals
    go_wp2
    go_roundw
    case rel=>exact ⟨k+1,by omega,by go_num,by rw [<-aT.out,aV.out];rfl,by first|trivial|rfl⟩
    case measure=>simp [intOf];omega
  obtain rfl:k=G:=by omega
  have aI:p.take k=p:=take_of_length_le (by rw [ab.out];omega);rw [aI];clear aI aF;obtain ⟨bo,ak⟩:=Qe ((!Q0r p));rw [<-ak];have ar:=Qhd ak;clear ak;have h3:bo=false∨(bo=true/\y=0)∨(bo=true/\0<y/\¬ y<=1024)∨(bo=true/\0<y/\y<=1024):=by cases bo<;>simp;omega
  rcases h3 with rfl|⟨rfl,a8⟩|⟨rfl,a8,an⟩|⟨rfl,a8,an⟩
  ·go_wp2_with ((with_reducible refine Qgs 172 ?_);refine Qsa 77 2 172 (w.heap.size+1) [.bool false,.slice none 0 0,.slice none 0 0] Q09 a9 (by rfl) (by rfl) (by intro u I;simp at I;rcases I with rfl|rfl<;>rfl) (Below.refl _ _) (le_refl _) ?_;intro w5 a1 _ N;have V:=J.grown N J.size (fun j hj=>by cases hj;omega))
   have a5:ok=false:=by rw [aa.out,<-ar.out];simp
   subst a5;exact bodyPost_ret (Q01 rfl _ _ (w.heap.size+1) Q09 a1 rfl rfl rfl) rfl ⟨false,none,0,0,[],none,0,0,[],rfl,fun h=>by simp at h,V⟩
  ·have aD:decide ((1:Int)<=(y:Int))=false:=by rw [decide_eq_false_iff_not];omega
   have br:¬ 1<=y:=by omega
   have aX:=Qhd a8;clear a8
   go_wp2_with ((with_reducible refine Qgs 172 ?_);refine Qsa 77 2 172 (w.heap.size+1) [.bool false,.slice none 0 0,.slice none 0 0] Q09 a9 (by rfl) (by rfl) (by intro u I;simp at I;rcases I with rfl|rfl<;>rfl) (Below.refl _ _) (le_refl _) ?_;intro w5 a1 _ N;have V:=J.grown N J.size (fun j hj=>by cases hj;omega))
   have a5:ok=false:=by rw [aa.out,aX.out];simp
   subst a5;exact bodyPost_ret (Q01 rfl _ _ (w.heap.size+1) Q09 a1 rfl rfl rfl) rfl ⟨false,none,0,0,[],none,0,0,[],rfl,fun h=>by simp at h,V⟩
  ·have aD:(1:Int)<=(y:Int):=by omega
   have b9:decide ((y:Int)<=1024)=false:=by rw [decide_eq_false_iff_not];omega
   go_wp2_with ((with_reducible refine Qgs 172 ?_);refine Qsa 77 2 172 (w.heap.size+1) [.bool false,.slice none 0 0,.slice none 0 0] Q09 a9 (by rfl) (by rfl) (by intro u I;simp at I;rcases I with rfl|rfl<;>rfl) (Below.refl _ _) (le_refl _) ?_;intro w5 a1 _ N;have V:=J.grown N J.size (fun j hj=>by cases hj;omega))
   have a5:ok=false:=by rw [aa.out];simp [an]
   subst a5;exact bodyPost_ret (Q01 rfl _ _ (w.heap.size+1) Q09 a1 rfl rfl rfl) rfl ⟨false,none,0,0,[],none,0,0,[],rfl,fun h=>by simp at h,V⟩
  have aD:(1:Int)<=(y:Int):=by omega
  have b9:(y:Int)<=1024:=by omega
  go_wp2_with (go_at_call 167;refine (Ct.out _ (hp.below J)).mono ?_;rintro e w2 ⟨tv,rfl,aH,b2⟩;have bb:=a3.kept b2;have aO:=a9.kept b2;have az:=D00 J b2;obtain ⟨S,U,rfl,_⟩:=aH.form' O aW.out.symm)
  have bu:=hv.below az;have d1:=fun x=>Q3c S O U x;have d2:=fun x=>Q3c z y D x;have D1:=Qhd d1;have D2:=Qhd d2;clear d1 d2;have k2:=fun u:Ext w2=>u.cell ((bb.cell 2).trans (show _=some (Value.slice z y D) from rfl));refine Q03 w2 7 (by kernel_rfl) (by kernel_rfl) (Below.refl _ _) ?_;simp only [take_succ_cons,take_zero,take_nil]
  (refine Q06 (by rfl) (fun K H=>?_);go_simp;refine H _ ?_;clear H K)
  (refine Q06 (by rfl) (fun K H=>?_);go_simp;first|(refine H _ ?_;clear H K)|(apply Exists.intro;refine ⟨fun _=>?_,H _ ?_⟩;exact D1.out _;clear H K))
  iterate 2 (refine Q06 (by rfl) (fun K H=>?_);go_simp;refine H _ ?_;clear H K)
  (refine Q06 (by rfl) (fun K H=>?_);go_simp;first|(refine H _ ?_;clear H K)|(apply Exists.intro;refine ⟨fun _=>?_,H _ ?_⟩;exact D2.out _;clear H K))
  refine Q0e 65 (Qey w2.heap.size (.slice S O U) (.slice z y D) T v) rfl (of_decide_eq_true rfl) (Qey.mono _ _ _ _ _) (fun w3 aM=>?_) ?_
  ·simp only [Q18,filter_nil,Q00];refine ⟨rfl,?_⟩;go_simp;exact ⟨Qba _ _,w3.heap.size,rfl,aM.size,D02 Q0k w3 77 [txt (.slice S O U) T,txt (.slice z y D) v] 2 rfl (by unfold maxLen;omega)⟩
  refine Q0e 66 (Q7r w2.heap.size (.slice S O U) (.slice z y D) T v) rfl (of_decide_eq_true rfl) (Q7r.mono _ _ _ _ _) (fun w3 aM=>?_) ?_
  ·change Q00 w3 [(65,_)] _ _;rintro bw ⟨g,rfl,aC,hr⟩;simp only [Q00];refine ⟨rfl,?_⟩;go_simp;refine (Q6i _ 2 2 w3).mono ?_;rintro e w4 ⟨rfl,b4⟩;exact ⟨_,rfl,⟨g,rfl,aC,Q05.kept hr b4⟩,b4⟩
  refine Q0i ?_;intro u2 aj vA _ vB b6;change wpList _ _ _ [_,_] _ _;obtain ⟨g,rfl,aC,hr⟩:=b6;have aP:=aO.kept aj;have aA:=D00 az aj;have bc:=aH.below aj;clear k2
  go_wp2_with ((with_reducible show wpList _ _ _ (⟨none,.store _ _ _,_,_,_,_⟩::_) _ _);refine Qsa 77 2 66 (w.heap.size+1) [.bool true,.slice none 0 0,.slice (some ⟨g,0,none⟩) 2 2] Q09 aP (by rfl) (by rfl) (by intro u I;simp at I;rcases I with rfl|rfl|rfl<;>rfl) (Below.refl _ _) (le_refl _) ?_;intro w5 a1 _ N;have V:=aA.grown N aA.size (fun j hj=>by cases hj;omega))
  have bd:=Q02.off bc aP (by intro u I k;simp at I;rcases I with rfl|rfl|rfl<;>simp) N;have be:=hv.below V;have ba:=Q05.grownNe hr N (by have:=aO.lt;omega);have b':ok=true:=by rw [aa.out,<-ar.out];simp [show 1<=y from a8,an]
  subst b';refine bodyPost_ret (Q01 rfl _ _ (w.heap.size+1) Q09 a1 rfl rfl rfl) rfl ⟨true,none,0,0,[],some ⟨g,0,none⟩,2,2,[txt (.slice S O U) T,txt (.slice z y D) v],rfl,fun _=>⟨?_,?_,?_⟩,V⟩
  ·exact Q17.lst ba (Q76 (ps:=[(.slice S O U,T),(.slice z y D,v)]) (by intro p hp;simp at hp;rcases hp with rfl|rfl;exact bd;exact be))
  ·exact Q29 _ [(.slice S O U,T),(.slice z y D,v)]
  refine le_trans (le_of_eq (Q5m _ (txts [(.slice S O U,T),(.slice z y D,v)]))) ?_;rw [Q38];have:=aU.out;have:=aY.out;simp;omega
theorem Qj1 (O va W:Option Addr)(y S vn vc G N:Nat)(p:List UInt8)(ps:List (Value × List UInt8))(aZ:p.length=y)(aV:ps.length=G)(w:World)(hp:Q02 w (.slice O y S) p)(hk:Q12 w (.slice W G N) ps)(hP:y<=4194304)(D:G<=1048576)(a':∀ q∈ps,q.2.length<=1048576) :
  Calls Tryz.prog 160 #[.agg #[.int .i64 2,.slice O y S,.slice va vn vc,.slice W G N]] w (Q1y (!Q0r p&&decide (1<=y)&&decide (G=1)&&decide (((ps.map (·.2))[0]?.getD []).length=32)) (lsB [Q2d (tagL p false),(ps.map (·.2))[0]?.getD []]) w):=by
 have ct:=fun x h=>Qc9 O y S p false aZ x h (by omega);have aQ:=Q6p p false;obtain ⟨T,hT⟩:=Qe (Q2d (tagL p false));obtain ⟨E,hE⟩:=Qe (Q3z (tagL p false));rw [<-hT] at aQ |-;simp only [<-hT,<-hE] at ct;obtain ⟨ok,aF⟩:=Qe ((!Q0r p&&decide (1<=y)&&decide (G=1)&&decide (((ps.map (·.2))[0]?.getD []).length=32)));rw [<-aF];obtain ⟨B,hB⟩:=Qe (lsB [T,(ps.map (·.2))[0]?.getD []]);rw [<-hB];have aW:T.length<=4194310:=by omega
 obtain ⟨tn,b6⟩:=Qe (T.length);have bp:=Qhd b6;have Ct:=Qhd ct;have ao:=Qhd aF;have bk:=Qhd aW;have bj:=Qhd aV;have HB:=Qhd hB;clear ct hT b6 aQ hE aF aW aV hB;have ac:Blk 134 ((w.alloc (.cells #[.int .i64 2,.slice O y S,.slice va vn vc,.slice W G N] 134)).alloc (.cells #[.bool false,.slice none 0 0,.slice none 0 0] 77)) w.heap.size [.int .i64 2,.slice O y S,.slice va vn vc,.slice W G N]:=(D01 w 134 _).alloc _;have ad:Blk 77 ((w.alloc (.cells #[.int .i64 2,.slice O y S,.slice va vn vc,.slice W G N] 134)).alloc (.cells #[.bool false,.slice none 0 0,.slice none 0 0] 77)) (w.heap.size+1) [.bool false,.slice none 0 0,.slice none 0 0]:=by
  have:=D01 (w.alloc (.cells #[.int .i64 2,.slice O y S,.slice va vn vc,.slice W G N] 134)) 77 [.bool false,.slice none 0 0,.slice none 0 0];simpa using this
 have H:Below w.heap.size w ((w.alloc (.cells #[.int .i64 2,.slice O y S,.slice va vn vc,.slice W G N] 134)).alloc (.cells #[.bool false,.slice none 0 0,.slice none 0 0] 77)):=(Qba _ _).alloc (by simp) _;obtain ⟨w1,aH⟩:=Qe ((w.alloc (.cells #[.int .i64 2,.slice O y S,.slice va vn vc,.slice W G N] 134)).alloc (.cells #[.bool false,.slice none 0 0,.slice none 0 0] 77));rw [<-aH] at ac ad H;have aY:=hp.below H;have bq:=Qhd aH;have ap:=Qhd aZ;clear aH;go_enter Tryz.func160,Tryz.ntmps160
 go_wp2_with fail
 rw [<-bq.out];have c0:=(ac.cell 0).trans (show _=some (Value.int .i64 2) from rfl);have c1:=(ac.cell 1).trans (show _=some (Value.slice O y S) from rfl);have c2:=(ac.cell 2).trans (show _=some (Value.slice va vn vc) from rfl);have c3:=(ac.cell 3).trans (show _=some (Value.slice W G N) from rfl)
 go_loopw [4,20] (fun t4 ix wr=>∃ k:Nat,k<=y/\ix=.int .i64 (k:Int)/\t4=.bool (!Q0r (p.take k))/\wr=w1) (fun _ ix _=>y - (intOf ix).toNat)
 case atStart=>exact ⟨0,by omega,rfl,by simp [Q0r],rfl⟩
 case round =>
  obtain ⟨k,bV,rfl,rfl,rfl⟩:=hrel;by_cases hlt:k<y
  ·have bY:(k:Int)<(y:Int):=by omega
   obtain ⟨b,off,rfl,hc⟩:=Q02.at aY k (by rw [ap.out];exact hlt);have al:=Q41 p k (by rw [ap.out];exact hlt);obtain ⟨x,hx⟩:=Qe (p[k]'(by rw [ap.out];exact hlt));rw [<-hx] at hc al;obtain ⟨b0,aA⟩:=Qe ((!Q0r (p.take k)));obtain ⟨b1,aB⟩:=Qe ((!Q0r (p.take (k+1))));rw [<-aA,<-aB] at al;rw [<-aA];have bh:=Qhd aB;have bH:decide ((x.toNat:Int)<16)=decide (x.toNat<16):=by
    rw [Bool.eq_iff_iff];simp only [decide_eq_true_eq];omega
   obtain ⟨bx,aS⟩:=Qe (decide (x.toNat<16));rw [<-aS] at bH al;have bn:=Qhd al;clear al aA aB hx aS;cases b0
   all_goals
    go_wp2
    go_roundw
    case rel=>exact ⟨k+1,by omega,by go_num,by rw [<-bh.out,bn.out];rfl,by first|trivial|rfl⟩
    case measure=>simp [intOf];omega
  ·obtain rfl:y=k:=by omega
   have b5:p.take y=p:=take_of_length_le (by rw [ap.out];omega);rw [b5];clear b5 aY;obtain ⟨bo,aE⟩:=Qe ((!Q0r p));rw [<-aE];have aL:=Qhd aE;clear aE;have h3:bo=false∨(bo=true/\y=0)∨(bo=true/\0<y/\G≠1)∨(bo=true/\0<y/\G=1):=by cases bo<;>simp;omega
   rcases h3 with rfl|⟨rfl,a8⟩|⟨rfl,a8,af⟩|⟨rfl,a8,af⟩
   ·clear hk a'
    go_wp2_with ((with_reducible refine Qgs 172 ?_);refine Qsa 77 2 172 (w.heap.size+1) [.bool false,.slice none 0 0,.slice none 0 0] Q09 ad (by rfl) (by rfl) (by intro u z;simp at z;rcases z with rfl|rfl<;>rfl) (Below.refl _ _) (le_refl _) ?_;intro w5 U _ J;have M:=H.grown J H.size (fun j V=>by cases V;omega))
    have a7:ok=false:=by rw [ao.out,<-aL.out];simp
    subst a7;exact bodyPost_ret (Q01 rfl _ _ (w.heap.size+1) Q09 U rfl rfl rfl) rfl ⟨false,none,0,0,[],none,0,0,[],rfl,fun h=>by simp at h,M⟩
   ·have aU:decide ((1:Int)<=(y:Int))=false:=by rw [decide_eq_false_iff_not];omega
    have bU:¬ 1<=y:=by omega
    have bl:=Qhd a8;clear a8 hk a'
    go_wp2_with ((with_reducible refine Qgs 172 ?_);refine Qsa 77 2 172 (w.heap.size+1) [.bool false,.slice none 0 0,.slice none 0 0] Q09 ad (by rfl) (by rfl) (by intro u z;simp at z;rcases z with rfl|rfl<;>rfl) (Below.refl _ _) (le_refl _) ?_;intro w5 U _ J;have M:=H.grown J H.size (fun j V=>by cases V;omega))
    have a7:ok=false:=by rw [ao.out,bl.out];simp
    subst a7;exact bodyPost_ret (Q01 rfl _ _ (w.heap.size+1) Q09 U rfl rfl rfl) rfl ⟨false,none,0,0,[],none,0,0,[],rfl,fun h=>by simp at h,M⟩
   ·have aU:(1:Int)<=(y:Int):=by omega
    have bX:((G:Int)==1)=false:=by rw [beq_eq_false_iff_ne];omega
    have bi:=Qhd af;clear af hk a'
    go_wp2_with ((with_reducible refine Qgs 172 ?_);refine Qsa 77 2 172 (w.heap.size+1) [.bool false,.slice none 0 0,.slice none 0 0] Q09 ad (by rfl) (by rfl) (by intro u z;simp at z;rcases z with rfl|rfl<;>rfl) (Below.refl _ _) (le_refl _) ?_;intro w5 U _ J;have M:=H.grown J H.size (fun j V=>by cases V;omega))
    have a7:ok=false:=by rw [ao.out];simp [bi.out]
    subst a7;exact bodyPost_ret (Q01 rfl _ _ (w.heap.size+1) Q09 U rfl rfl rfl) rfl ⟨false,none,0,0,[],none,0,0,[],rfl,fun h=>by simp at h,M⟩
   ·have aU:(1:Int)<=(y:Int):=by omega
    obtain ⟨q,hq⟩:∃ q,ps=[q]:=List.length_eq_one_iff.1 (bj.out.trans af);subst hq;subst af;obtain ⟨kb,aK,q',rfl,bz,ab,ag⟩:=Q12.at hk 0 (by simp);obtain rfl:q=q':=by simpa using bz
    obtain ⟨qv,I⟩:=q;simp only at ab ag;obtain ⟨Z,qc,rfl,_,bZ⟩:=ag.form;have bB:I.length<=1048576:=a' (.slice Z I.length qc,I) (by simp);obtain ⟨L,ak⟩:=Qe (I.length);rw [<-ak] at ab ag bB;rw [Nat.add_zero] at ab;have aX:=World.block_lt_of_cell? w _ ab;have bW:=(H.cell (p:=⟨kb,aK,none⟩) aX).trans ab;have ar:∀ qv:Value,((List.map (fun p:Value × List UInt8=>p.2) [(qv,I)])[0]?.getD [])=I:=fun _=>rfl;have aq:=HB.out;have ah:=ao.out;rw [ar,<-aL.out,<-ak] at ah;rw [ar] at aq;have bm:=Qhd ak;have bg:=Qhd aq;by_cases h32:L=32
    ·have ai:ok=true:=by rw [ah];simp [h32,show 1<=y from a8]
     have av:=Qhd ai;have bA:((L:Int)==32)=true:=by rw [beq_iff_eq];omega
     clear hk a' ah ai ar aq ak h32 a8
     go_wp2_with (go_at_call 167;refine (Ct.out _ (hp.below H)).mono ?_;rintro e w2 ⟨tv,rfl,b3,b2⟩;have bD:=ac.kept b2;have b':=ad.kept b2;have aD:=D00 H b2;obtain ⟨ga,gc,rfl,_⟩:=b3.form' tn bp.out.symm)
     have c4:=ag.below aD;have d1:=fun x=>Q3c ga tn gc x;have d2:=fun x=>Q3c Z L qc x;have D1:=Qhd d1;have D2:=Qhd d2;clear d1 d2;have k3:=fun u:Ext w2=>u.cell ((bD.cell 3).trans (show _=some (Value.slice (some ⟨kb,aK,none⟩) 1 N) from rfl));have k4:=fun u:Ext w2=>u.cell ((aD.cell (p:=⟨kb,aK,none⟩) aX).trans ab);refine Q03 w2 9 (by kernel_rfl) (by kernel_rfl) (Below.refl _ _) ?_;simp only [take_succ_cons,take_zero,take_nil]
     (refine Q06 (by rfl) (fun K D=>?_);go_simp;refine D _ ?_;clear D K)
     (refine Q06 (by rfl) (fun K D=>?_);go_simp;first|(refine D _ ?_;clear D K)|(apply Exists.intro;refine ⟨fun _=>?_,D _ ?_⟩;exact D1.out _;clear D K))
     iterate 4 (refine Q06 (by rfl) (fun K D=>?_);go_simp;refine D _ ?_;clear D K)
     (refine Q06 (by rfl) (fun K D=>?_);go_simp;first|(refine D _ ?_;clear D K)|(apply Exists.intro;refine ⟨fun _=>?_,D _ ?_⟩;exact D2.out _;clear D K))
     refine Q0e 107 (Qey w2.heap.size (.slice ga tn gc) (.slice Z L qc) T I) rfl (of_decide_eq_true rfl) (Qey.mono _ _ _ _ _) (fun w3 b7=>?_) ?_
     ·simp only [Q18,filter_nil,Q00];refine ⟨rfl,?_⟩;go_simp;exact ⟨Qba _ _,w3.heap.size,rfl,b7.size,D02 Q0k w3 77 [txt (.slice ga tn gc) T,txt (.slice Z L qc) I] 2 rfl (by unfold maxLen;omega)⟩
     refine Q0e 108 (Q7r w2.heap.size (.slice ga tn gc) (.slice Z L qc) T I) rfl (of_decide_eq_true rfl) (Q7r.mono _ _ _ _ _) (fun w3 b7=>?_) ?_
     ·change Q00 w3 [(107,_)] _ _;rintro c6 ⟨g,rfl,aT,hr⟩;simp only [Q00];refine ⟨rfl,?_⟩;go_simp;refine (Q6i _ 2 2 w3).mono ?_;rintro e w4 ⟨rfl,b4⟩;exact ⟨_,rfl,⟨g,rfl,aT,Q05.kept hr b4⟩,b4⟩
     refine Q0i ?_;intro u2 aC vA _ vB bt;change wpList _ _ _ [_,_] _ _;obtain ⟨g,rfl,aT,hr⟩:=bt;have ba:=b'.kept aC;have aR:=D00 aD aC;have bE:=b3.below aC;clear k3 k4
     go_wp2_with ((with_reducible show wpList _ _ _ (⟨none,.store _ _ _,_,_,_,_⟩::_) _ _);refine Qsa 77 2 108 (w.heap.size+1) [.bool true,.slice none 0 0,.slice (some ⟨g,0,none⟩) 2 2] Q09 ba (by rfl) (by rfl) (by intro u z;simp at z;rcases z with rfl|rfl|rfl<;>rfl) (Below.refl _ _) (le_refl _) ?_;intro w5 U _ J;have M:=aR.grown J aR.size (fun j V=>by cases V;omega))
     have bF:=Q02.off bE ba (by intro u z k;simp at z;rcases z with rfl|rfl|rfl<;>simp) J;have bG:=ag.below M;have bC:=Q05.grownNe hr J (by have:=b'.lt;omega);have bv:ok=true:=av.out;subst bv;refine bodyPost_ret (Q01 rfl _ _ (w.heap.size+1) Q09 U rfl rfl rfl) rfl ⟨true,none,0,0,[],some ⟨g,0,none⟩,2,2,[txt (.slice ga tn gc) T,txt (.slice Z L qc) I],rfl,fun _=>⟨?_,?_,?_⟩,M⟩
     ·exact Q17.lst bC (Q76 (ps:=[(.slice ga tn gc,T),(.slice Z L qc,I)]) (by intro p hp;simp at hp;rcases hp with rfl|rfl;exact bF;exact bG))
     ·rw [bg.out];exact Q29 _ [(.slice ga tn gc,T),(.slice Z L qc,I)]
     ·refine le_trans (le_of_eq (Q5m _ (txts [(.slice ga tn gc,T),(.slice Z L qc,I)]))) ?_;rw [Q38];have:=bk.out;have:=bm.out;simp;omega

    ·have ai:ok=false:=by rw [ah];simp [h32]
     have av:=Qhd ai;have bA:((L:Int)==32)=false:=by rw [beq_eq_false_iff_ne];omega
     clear hk a' ah ai ar aq ak h32 a8
     go_wp2_with ((with_reducible refine Qgs 172 ?_);refine Qsa 77 2 172 (w.heap.size+1) [.bool false,.slice none 0 0,.slice none 0 0] Q09 ad (by rfl) (by rfl) (by intro u z;simp at z;rcases z with rfl|rfl<;>rfl) (Below.refl _ _) (le_refl _) ?_;intro w5 U _ J;have M:=H.grown J H.size (fun j V=>by cases V;omega))
     have a7:ok=false:=av.out;subst a7;exact bodyPost_ret (Q01 rfl _ _ (w.heap.size+1) Q09 U rfl rfl rfl) rfl ⟨false,none,0,0,[],none,0,0,[],rfl,fun h=>by simp at h,M⟩
theorem Q05.grownO {α:Type}{f:α->List Value}{size:Nat}{w w':World}{b off n c:Nat}{s:Option Nat}{row:Option Nat}{l:List α}(h:Q05 f size w (.slice (some ⟨b,off,s⟩) n c) l)(hg:w.grownBy w' row)(hne:row≠some b):Q05 f size w' (.slice (some ⟨b,off,s⟩) n c) l:=by
 obtain ⟨E,a,T,D,G,H,I⟩:=h;simp only [Value.slice.injEq] at D;obtain ⟨rfl,M,rfl⟩:=D;refine ⟨E,_,_,by rw [M],G,H,?_⟩;rcases I with ⟨J,_⟩|⟨S,U,V,z,N,K⟩
 ·simp at J
 simp only [Option.some.injEq,Addr.mk.injEq] at z;obtain ⟨rfl,rfl,rfl⟩:=z;refine .inr ⟨_,_,_,rfl,N,fun j u O=>?_⟩;have y:=K j u O;have L:=World.block_lt_of_cell? w _ y;rw [<-y];exact World.cell?_of_block (w:=w) (hg.block b L (fun e=>hne e.symm))
theorem Q2v {α:Type}{f:α->List Value}{P:Program}{w:World}{ops:Array Oper}{o:Oper}{a:Act}{K:Act->World->Prop}{Q:Exit->Act->World->Prop}{E:Prop}(hgd:o.guard=none)(s x:Operand)(t:TypeId)
  (ho:o.op=.call { callee:=.builtin .append,args:=#[s,x],argTypes:=#[t,t] })
  {e:TypeId} {z:Value} {size bytes:Nat}(el:El0 P t e z size bytes f) {B:Nat}
  {v:Value} {l m:List α}(h1:∀ u∈m.flatMap f,u.oneCell'=true) (hs:a.eval s=v) (hown:Q08 f size e w B v l)
  {u:Value}(hx:a.eval x=u) (hrow:Q05 f size w u m) (hB:B<=w.heap.size)
  (hbytes:(l.length+m.length)*bytes<=140737488355328) (h63:l.length+m.length<=maxLen)
  (h:∀ G w',Q08 f size e w' B G (l++m)->w.grownBy w' v.ownBlock->K (a.put o.dst G) w'):if Region.wanted o (yielded ops a.tmps) then o.wp P a w K Q else E:=by
 have hw:Region.wanted o (yielded ops a.tmps)=true:=by simp [Region.wanted,hgd]
 rw [if_pos hw];obtain ⟨i,J,hz,W,O⟩:=el.info;obtain ⟨M,ad,c,rfl,_,_,H⟩:=hrow;rcases H with ⟨rfl,D,rfl⟩|⟨b,off,I,rfl,Z,H⟩
 ·obtain rfl:m=[]:=List.eq_nil_of_length_eq_zero D;have V:=run_append_owned_none (P:=P) (w:=w) B t o.type e i size el.ht J v _ _ hown;have S:=h v w (by simpa using hown) ⟨rfl,rfl,rfl,le_refl _,fun _ _ _=>rfl⟩;unfold Oper.wp;simp only [List.length_nil] at hx;simp [execOp,ho,resolve,invoke,builtin,hs,hx,V,Result.andThen];exact S
 have T:∀ j y,(m.flatMap f)[j]?=some y->w.cell? ((⟨b,off,I⟩:Addr).add j)=some y:=by
  intro j y L;by_cases D:m.length=0
  ·obtain rfl:m=[]:=List.eq_nil_of_length_eq_zero D;simp at L
  obtain rfl:I=none:=Z.resolve_right D;have N:(⟨b,off,none⟩:Addr).add j=⟨b,off+j,none⟩:=by unfold Addr.add;split<;>simp_all
  rw [N];exact H j y L
 obtain ⟨G,w',U,k1,k2,_,_⟩:=run_append_own_at (P:=P) w B t o.type e i z size bytes el.ht J hz W O el.hzs el.hsz v _ _ hown ⟨b,off,I⟩ _ c _ M T h1 h63 hbytes hB;unfold Oper.wp execOp;simp only [ho,resolve,invoke,builtin,Sem.run_bind,Sem.run_pure,Result.andThen_ok,List.map_toArray,List.map_cons,List.map_nil,hs,hx,U];exact h G w' (by unfold Q08;rw [length_append,List.flatMap_append];exact k1) k2
theorem Q1i:El0 Tryz.prog 44 25 (.slice none 0 0) 1 24 Q0p:=⟨by kernel_rfl,by kernel_rfl,rfl,by omega,fun _=>rfl⟩
theorem Q1h {w:World}{ps:List (Value × List UInt8)}(h:∀ p∈ps,Q02 w p.1 p.2):∀ u∈ps.flatMap Q0p,u.oneCell'=true:=by
 intro u y;obtain ⟨p,D,y⟩:=List.mem_flatMap.1 y;obtain ⟨a,c,z,_,_⟩:=Q05.form (h p D);simp only [Q0p,mem_singleton] at y;rw [y,z];rfl
def Q7j (p q:Addr)(v x:Value)(u:World):Prop:=Q0l p v u/\Q0l q x u
theorem Q7j.below {p q:Addr}{v x:Value}{u u':World}(h:Q7j p q v x u)(y:Below u.heap.size u u'):Q7j p q v x u':=⟨h.1.below y,h.2.below y⟩
theorem Q0l.grownO {p:Addr}{v:Value}{u u':World}{row:Option Nat}(h:Q0l p v u)(y:u.grownBy u' row)(D:row≠some p.block):Q0l p v u':=by
 unfold Q0l at h |-;have z:=World.block_lt_of_cell? u _ h;rw [<-h];exact World.cell?_of_block (w:=u) (y.block p.block z (fun e=>D e.symm))
structure FkX (w:World)(g4 Bs gq cq:Nat)(box:List Value)(qs:List (Value × List UInt8))(kv:Value)(its:List Itm)(u:World):Prop where
 hs:Blk 134 u w.heap.size box
 hz:Blk 77 u (w.heap.size+1) [.bool false,.slice none 0 0,.slice none 0 0]
 hi:Blk 77 u g4 [.bool true,.slice none 0 0,kv]
 hO:Q08 Q0j 3 77 u Bs kv its
 hb:Below w.heap.size w u
 hg:w.heap.size+1<g4
 hB:g4<Bs
 hr:Q05 Q0p 1 u (.slice (some ⟨gq,0,none⟩) 17 cq) qs
 hq:gq<Bs
 hq4:gq≠g4
theorem FkX.kept {w u u':World}{G z H E:Nat}{D:List Value}{K:List (Value × List UInt8)}{J:Value}{I:List Itm}(h:FkX w G z H E D K J I u)(y:Below u.heap.size u u'):FkX w G z H E D K J I u' :=
 ⟨h.hs.kept y,h.hz.kept y,h.hi.kept y,h.hO.kept y,D00 h.hb y,h.hg,h.hB,h.hr.kept y,h.hq,h.hq4⟩
theorem FkX.grew {w u u':World}{E D L K:Nat}{J:List Value}{U:List (Value × List UInt8)}{I y:Value}{a1 T:List Itm}(h:FkX w E D L K J U I a1 u)(z:u.grownBy u' I.ownBlock)(N:Q08 Q0j 3 77 u' D y T) :
  FkX w E D L K J U y T (u'.setCell ⟨E,2,none⟩ y):=by
 have V:=h.hg;have M:=h.hB;have S:=h.hq;have G:∀ b,b<D->I.ownBlock≠some b:=fun b O e=>by have:=(World.ownsRow.lt h.hO b e).1;omega
 have Z:=h.hs.grown z (G _ (by omega));have hz:=h.hz.grown z (G _ (by omega));have W:=h.hi.grown z (G _ M);have O:=h.hb.grown z h.hb.size (fun k H=>by have:=(World.ownsRow.lt h.hO k H).1;omega);refine ⟨Z.other _ (by simp;omega) _,hz.other _ (by simp;omega) _,W.set 2 y,N.grown (Q0s 2 y) (fun k H e=>?_),O.setCell (by show w.heap.size<=E;omega) _,V,M,Q05.grownNe (Q05.grownO h.hr z (G _ S)) (Q0s 2 y) h.hq4,S,h.hq4⟩;cases H;have:=(World.ownsRow.lt N _ e).1;omega
theorem Qso {w:World}{B g:Nat}{c:Nat}(h:Q08 Q0p 1 25 w B (.slice (some ⟨g,0,none⟩) 0 c) []):g<w.heap.size:=(World.ownsRow.lt h g rfl).2
theorem Qpo {α:Type}{f:α->List Value}{size:Nat}{e:TypeId}{w:World}{B n c:Nat}{a:Option Addr}{l:List α}(h:Q08 f size e w B (.slice a n c) l)(hn:0<n):∃ g,a=some ⟨g,0,none⟩/\B<=g/\g<w.heap.size:=by
 rcases h.2 with ⟨y,_⟩|⟨g,cap,E,y,z,D,_⟩
 ·simp at y;omega
 simp only [Value.slice.injEq] at y;exact ⟨g,y.1,z,(Array.getElem?_eq_some_iff.1 D).1⟩
theorem Qj4 (pa D H:Option Addr)(W pc z E kn I:Nat)(p v:List UInt8)(ps:List (Value × List UInt8))(d7:p.length=W)(cz:v.length=z)(cn:ps.length=kn)(w:World)(hp:Q02 w (.slice pa W pc) p)(hv:Q02 w (.slice D z E) v)(hk:Q12 w (.slice H kn I) ps)(hP:W<=4194304)(hV:z<=1048576)(b3:∀ q∈ps,q.2.length<=1048576) :
  Calls Tryz.prog 160 #[.agg #[.int .i64 3,.slice pa W pc,.slice D z E,.slice H kn I]] w (Q1y (decide (kn=16)&&decide (z<=1024)&&((ps.map (·.2)).all fun t=>Q2j t.length true)&&decide (2<=Q65 v (ps.map (·.2)))) (lsB (ps.map (·.2)++[v])) w):=by
 obtain ⟨ok,bN⟩:=Qe ((decide (kn=16)&&decide (z<=1024)&&((ps.map (·.2)).all fun t=>Q2j t.length true)&&decide (2<=Q65 v (ps.map (·.2)))));rw [<-bN];have bg:=Qhd bN;have cM:=Qhd cz;have Z:=Qhd cn;clear bN cz cn;have aH:Blk 134 ((w.alloc (.cells #[.int .i64 3,.slice pa W pc,.slice D z E,.slice H kn I] 134)).alloc (.cells #[.bool false,.slice none 0 0,.slice none 0 0] 77)) w.heap.size [.int .i64 3,.slice pa W pc,.slice D z E,.slice H kn I]:=(D01 w 134 _).alloc _;have aC:Blk 77 ((w.alloc (.cells #[.int .i64 3,.slice pa W pc,.slice D z E,.slice H kn I] 134)).alloc (.cells #[.bool false,.slice none 0 0,.slice none 0 0] 77)) (w.heap.size+1) [.bool false,.slice none 0 0,.slice none 0 0]:=by
  have:=D01 (w.alloc (.cells #[.int .i64 3,.slice pa W pc,.slice D z E,.slice H kn I] 134)) 77 [.bool false,.slice none 0 0,.slice none 0 0];simpa using this
 have a':Below w.heap.size w ((w.alloc (.cells #[.int .i64 3,.slice pa W pc,.slice D z E,.slice H kn I] 134)).alloc (.cells #[.bool false,.slice none 0 0,.slice none 0 0] 77)):=(Qba _ _).alloc (by simp) _;obtain ⟨w1,bT⟩:=Qe ((w.alloc (.cells #[.int .i64 3,.slice pa W pc,.slice D z E,.slice H kn I] 134)).alloc (.cells #[.bool false,.slice none 0 0,.slice none 0 0] 77));rw [<-bT] at aH aC a';have aU:=hp.below a';have cN:=Qhd bT;have bh:=Qhd d7;clear bT;go_enter Tryz.func160,Tryz.ntmps160
 go_wp2_with fail
 rw [<-cN.out];have c0:=(aH.cell 0).trans (show _=some (Value.int .i64 3) from rfl);have c1:=(aH.cell 1).trans (show _=some (Value.slice pa W pc) from rfl);have c2:=(aH.cell 2).trans (show _=some (Value.slice D z E) from rfl);have c3:=(aH.cell 3).trans (show _=some (Value.slice H kn I) from rfl)
 go_loopw [4,20] (fun t4 ix wr=>∃ k:Nat,k<=W/\ix=.int .i64 (k:Int)/\t4=.bool (!Q0r (p.take k))/\wr=w1) (fun _ ix _=>W - (intOf ix).toNat)
 case atStart=>exact ⟨0,by omega,rfl,by simp [Q0r],rfl⟩
 case round =>
  obtain ⟨k,d1,rfl,rfl,rfl⟩:=hrel;by_cases hlt:k<W
  ·have d3:(k:Int)<(W:Int):=by omega
   obtain ⟨b,off,rfl,hc⟩:=Q02.at aU k (by rw [bh.out];exact hlt);have az:=Q41 p k (by rw [bh.out];exact hlt);obtain ⟨x,hx⟩:=Qe (p[k]'(by rw [bh.out];exact hlt));rw [<-hx] at hc az;obtain ⟨b0,aw⟩:=Qe ((!Q0r (p.take k)));obtain ⟨b1,a1⟩:=Qe ((!Q0r (p.take (k+1))));rw [<-aw,<-a1] at az;rw [<-aw];have cH:=Qhd a1;have dd:decide ((x.toNat:Int)<16)=decide (x.toNat<16):=by
    rw [Bool.eq_iff_iff];simp only [decide_eq_true_eq];omega
   obtain ⟨bx,cj⟩:=Qe (decide (x.toNat<16));rw [<-cj] at dd az;have aY:=Qhd az;clear az aw a1 hx cj;cases b0
   all_goals
    go_wp2
    go_roundw
    case rel=>exact ⟨k+1,by omega,by go_num,by rw [<-cH.out,aY.out];rfl,by first|trivial|rfl⟩
    case measure=>simp [intOf];omega
  ·obtain rfl:W=k:=by omega
   have aA:p.take W=p:=take_of_length_le (by rw [bh.out];omega);rw [aA];clear aA aU;have h3:(kn≠16)∨(kn=16/\¬ z<=1024)∨(kn=16/\z<=1024):=by omega
   rcases h3 with aT|⟨aT,br⟩|⟨aT,br⟩
   ·have d2:((kn:Int)==16)=false:=by rw [beq_eq_false_iff_ne];omega
    have cI:=Qhd aT;clear aT hk b3 hv
    go_wp2_with ((with_reducible refine Qgs 172 ?_);refine Qsa 77 2 172 (w.heap.size+1) [.bool false,.slice none 0 0,.slice none 0 0] Q09 aC (by rfl) (by rfl) (by intro u hu;simp at hu;rcases hu with rfl|rfl<;>rfl) (Below.refl _ _) (le_refl _) ?_;intro w5 b' _ a2;have b9:=a'.grown a2 a'.size (fun j T=>by cases T;omega))
    have bb:ok=false:=by rw [bg.out];simp [cI.out]
    subst bb;exact bodyPost_ret (Q01 rfl _ _ (w.heap.size+1) Q09 b' rfl rfl rfl) rfl ⟨false,none,0,0,[],none,0,0,[],rfl,fun h=>by simp at h,b9⟩
   ·have d2:((kn:Int)==16)=true:=by rw [beq_iff_eq];omega
    have d0:decide ((z:Int)<=1024)=false:=by rw [decide_eq_false_iff_not];omega
    have cL:=Qhd br;clear aT br hk b3 hv
    go_wp2_with ((with_reducible refine Qgs 172 ?_);refine Qsa 77 2 172 (w.heap.size+1) [.bool false,.slice none 0 0,.slice none 0 0] Q09 aC (by rfl) (by rfl) (by intro u hu;simp at hu;rcases hu with rfl|rfl<;>rfl) (Below.refl _ _) (le_refl _) ?_;intro w5 b' _ a2;have b9:=a'.grown a2 a'.size (fun j T=>by cases T;omega))
    have bb:ok=false:=by rw [bg.out];simp [cL.out]
    subst bb;exact bodyPost_ret (Q01 rfl _ _ (w.heap.size+1) Q09 b' rfl rfl rfl) rfl ⟨false,none,0,0,[],none,0,0,[],rfl,fun h=>by simp at h,b9⟩
   ·subst aT;have d0:(z:Int)<=1024:=by omega
    have da:z<=1024:=br
    go_wp2_with (go_at_call 52;(with_reducible refine (Q6i _ _ _ _).mono ?_);rintro e w2 ⟨rfl,b2⟩;have aq:=(aH.kept b2).alloc (.cells #[.bool true,.slice none 0 0,.slice none 0 0] 77);have bV:=(aC.kept b2).alloc (.cells #[.bool true,.slice none 0 0,.slice none 0 0] 77);have aS:=(D00 a' b2).alloc (D00 a' b2).size (.cells #[.bool true,.slice none 0 0,.slice none 0 0] 77);have bm:=D01 w2 77 [.bool true,.slice none 0 0,.slice none 0 0];have cB:=(aC.kept b2).lt)
    obtain ⟨g4,bl⟩:=Qe (w2.heap.size);obtain ⟨wA,bs⟩:=Qe (w2.alloc (.cells #[.bool true,.slice none 0 0,.slice none 0 0] 77));have dc:wA.heap.size=g4+1:=by rw [bs,bl];simp
    rw [<-bs] at aq bV aS bm;rw [<-bl] at bm cB;rw [<-bs,<-bl];clear bs bl;have cf:∀ x∈ps++[(Value.slice D z E,v)],Q02 w x.1 x.2:=fun x hx=>by
     rcases mem_append.1 hx with hx|hx
     ·exact hk.2 x hx
     rw [mem_singleton] at hx;rw [hx];exact hv
    have aR:∀ x,Below wA.heap.size wA x->∀ q∈ps,Q02 x q.1 q.2:=fun x hb q G=>(hk.2 q G).below (D00 aS hb);have cv:∀ x,Below wA.heap.size wA x->Q05 Q0p 1 x (.slice H 16 I) ps:=fun x hb=>hk.1.below (D00 aS hb);have cA:∀ x,Below wA.heap.size wA x->Q02 x (.slice D z E) v:=fun x hb=>hv.below (D00 aS hb);have bw:=Qhd aR;have bA:=Qhd cv;have Hv:=Qhd cA;have cG:=Qhd cf;have a4:Q7j ⟨w.heap.size,3,none⟩ ⟨w.heap.size,2,none⟩ (.slice H 16 I) (.slice D z E) wA:=⟨(aq.cell 3).trans rfl,(aq.cell 2).trans rfl⟩;have k3:∀ u:In (Q7j ⟨w.heap.size,3,none⟩ ⟨w.heap.size,2,none⟩ (.slice H 16 I) (.slice D z E)),u.val.cell? ⟨w.heap.size,3,none⟩=some (.slice H 16 I):=fun u=>u.held.1;have k2:∀ u:In (Q7j ⟨w.heap.size,3,none⟩ ⟨w.heap.size,2,none⟩ (.slice H 16 I) (.slice D z E)),u.val.cell? ⟨w.heap.size,2,none⟩=some (.slice D z E):=fun u=>u.held.2;clear aR cv cA cf c0 c1 c2 c3 b2 aH aC a';refine Q1g (fun a b w'=>∃ (u126 u129 u132:Value) (an:Option Addr) (a7:Nat),b=((((((((((a.put (some 126) u126).put (some 127) (.pointer (some ⟨w.heap.size,3,none⟩))).put (some 128) (.slice H 16 I)).put (some 129) u129).put (some 130) (.pointer (some ⟨w.heap.size,2,none⟩))).put (some 131) (.slice D z E)).put (some 132) u132).put (some 133) (.slice an 17 a7)).put (some 134) (.int .i64 17)).put (some 135) (.int .i64 0))/\Q08 Q0p 1 25 w' wA.heap.size (.slice an 17 a7) (ps++[(Value.slice D z E,v)])/\Below wA.heap.size wA w') ?_ ?_
    ·refine Q0w (Q7j ⟨w.heap.size,3,none⟩ ⟨w.heap.size,2,none⟩ (.slice H 16 I) (.slice D z E)) (by kernel_rfl) ?_;intro u0 cy;simp only [List.length_cons,List.length_nil,Nat.reduceAdd,List.replicate_succ,List.replicate_zero];have aw:Below wA.heap.size wA u0:=by rw [cy];exact (Below.refl _ _).drew
     have cd:=a4.below aw;clear cy a4;refine Qtk 1 (fun K y=>?_);simp only [Qzs] at y;go_simp;(first|refine y _ ?_|refine ⟨_,fun _=>rfl,y _ ?_⟩);clear y K;refine Qtk 2 (fun K y=>?_);simp only [Qzs] at y;go_simp;(first|refine y _ ?_|refine ⟨_,fun _=>rfl,y _ ?_⟩);clear y K;refine Qtk 4 (fun K y=>?_);simp only [Qzs] at y;go_simp;(first|refine y _ ?_|refine ⟨_,fun _=>rfl,y _ ?_⟩);clear y K;refine Qtk 5 (fun K y=>?_);simp only [Qzs] at y;go_simp;(first|refine y _ ?_|refine ⟨_,fun _=>rfl,y _ ?_⟩);clear y K;refine Qtk 9 (fun K y=>?_);simp only [Qzs] at y;go_simp;(first|refine y _ ?_|refine ⟨_,fun _=>rfl,y _ ?_⟩);clear y K;refine Q4q [0,6] (by kernel_rfl) (by simp) ?_;intro i hi;simp only [mem_cons,List.not_mem_nil,or_false] at hi;rcases hi with rfl|rfl
     ·(refine Q31 (i:=0) (by rfl) (fun K y=>?_);simp only [Qzs] at y;go_simp)
      have N:=Q08.empty Q0p 1 25 u0 wA.heap.size aw.size;have au:Below u0.heap.size u0 (u0.alloc (.cells #[] 25)):=Qba _ _;have a4:=cd.below au;refine y _ _ a4 ?_;clear y K;have a1:=D00 aw au;obtain ⟨bF,aF⟩:=Qe (u0.heap.size);obtain ⟨u1,aB⟩:=Qe (u0.alloc (.cells #[] 25));rw [<-aB] at a4 a1 au N;rw [<-aF] at N;rw [<-aF,<-aB];clear aB aF;refine Q4q [3,6] (by kernel_rfl) (by simp) ?_;intro i hi;simp only [mem_cons,List.not_mem_nil,or_false] at hi;rcases hi with rfl|rfl
      ·refine Q31 (i:=3) (by rfl) (fun K y=>?_);simp only [Qzs] at y;have d6:=bw.out _ a1;refine Q2v (by rfl) (.tmp 126) (.tmp 128) 44 (by rfl) Q1i (Q1h d6) (by rfl) N (by rfl) (bA.out _ a1) a1.size (by rw [Z.out];simp) (by rw [Z.out];unfold maxLen;simp) (fun cD u2 U bG=>?_);have O:=a1.grown bG a1.size (fun j T=>(World.ownsRow.lt N j T).1);have a8:Q7j ⟨w.heap.size,3,none⟩ ⟨w.heap.size,2,none⟩ (.slice H 16 I) (.slice D z E) u2:=⟨a4.1.grownO bG (fun e=>by have:=(World.ownsRow.lt N _ e).1;simp at this;omega),a4.2.grownO bG (fun e=>by have:=(World.ownsRow.lt N _ e).1;simp at this;omega)⟩;refine y _ _ a8 ?_;clear y K;rw [nil_append] at U;simp only [Act.put,Qzs]
       (refine Q0f 6 (by rfl) (by kernel_rfl) (fun K y=>?_);simp only [Qzs] at y;go_simp)
       have V:=Row.made u2 1 [Value.slice D z E] 25 1 rfl (by unfold maxLen;omega);change Q05 Q0p 1 _ _ [(Value.slice D z E,v)] at V;have bj:Below u2.heap.size u2 (u2.alloc (.cells #[Value.slice D z E] 25)):=Qba _ _;have a9:=a8.below bj;refine y _ _ a9 ?_;clear y K;have L:=D00 O bj;replace U:=U.kept bj;obtain ⟨aQ,aa⟩:=Qe (u2.heap.size);obtain ⟨u3,bS⟩:=Qe (u2.alloc (.cells #[Value.slice D z E] 25));rw [<-bS] at a9 L bj V U;rw [<-aa] at V;rw [<-aa,<-bS];clear bS aa;refine Q0f 7 (by rfl) (by kernel_rfl) (fun K y=>?_);have be:=Hv.out _ L;refine Q2v (by rfl) (.tmp 129) (.tmp 132) 44 (by rfl) Q1i (Q1h (ps:=[(Value.slice D z E,v)]) (fun p hp=>by rw [mem_singleton] at hp;rw [hp];exact be)) (by rfl) U (by rfl) V L.size (by rw [Z.out];simp) (by rw [Z.out];unfold maxLen;simp) (fun cE u4 ad ae=>?_);have b7:=L.grown ae L.size (fun j T=>(World.ownsRow.lt U j T).1);have b5:Q7j ⟨w.heap.size,3,none⟩ ⟨w.heap.size,2,none⟩ (.slice H 16 I) (.slice D z E) u4:=⟨a9.1.grownO ae (fun e=>by have:=(World.ownsRow.lt U _ e).1;simp at this;omega),a9.2.grownO ae (fun e=>by have:=(World.ownsRow.lt U _ e).1;simp at this;omega)⟩;refine y _ _ b5 ?_;clear y K;simp only [Act.put,Qzs];obtain ⟨an,a7,rfl,_⟩:=ad.form' 17 (by rw [length_append,Z.out];rfl);clear k2 k3;refine Qtk 8 (fun K y=>?_);simp only [Qzs] at y;go_simp;(first|refine y _ ?_|refine ⟨_,fun _=>rfl,y _ ?_⟩);clear y K;exact Q11 (by kernel_rfl) ⟨rfl,_,_,_,an,a7,rfl,ad,b7⟩
      (refine Q31 (i:=6) (by rfl) (fun K y=>?_);simp only [Qzs] at y;go_simp)
      have V:=Row.made u1 1 [Value.slice D z E] 25 1 rfl (by unfold maxLen;omega);change Q05 Q0p 1 _ _ [(Value.slice D z E,v)] at V;have ao:Below u1.heap.size u1 (u1.alloc (.cells #[Value.slice D z E] 25)):=Qba _ _;have a8:=a4.below ao;refine y _ _ a8 ?_;clear y K;have O:=D00 a1 ao;have dv:=Qso N;replace N:=N.kept ao;obtain ⟨aQ,aa⟩:=Qe (u1.heap.size);obtain ⟨u2,aI⟩:=Qe (u1.alloc (.cells #[Value.slice D z E] 25));rw [<-aI] at a8 O ao V N;rw [<-aa] at V;rw [<-aa,<-aI];have bM:bF≠aQ:=by omega
      clear aI aa;refine Q0f 3 (by rfl) (by kernel_rfl) (fun K y=>?_);have bO:=bw.out _ O;refine Q2v (by rfl) (.tmp 126) (.tmp 128) 44 (by rfl) Q1i (Q1h bO) (by rfl) N (by rfl) (bA.out _ O) O.size (by rw [Z.out];simp) (by rw [Z.out];unfold maxLen;simp) (fun cD u3 U ap=>?_);have L:=O.grown ap O.size (fun j T=>(World.ownsRow.lt N j T).1);have a9:Q7j ⟨w.heap.size,3,none⟩ ⟨w.heap.size,2,none⟩ (.slice H 16 I) (.slice D z E) u3:=⟨a8.1.grownO ap (fun e=>by have:=(World.ownsRow.lt N _ e).1;simp at this;omega),a8.2.grownO ap (fun e=>by have:=(World.ownsRow.lt N _ e).1;simp at this;omega)⟩;replace V:=Q05.grownO V ap (fun e=>bM (Option.some.inj e));refine y _ _ a9 ?_;clear y K;rw [nil_append] at U;simp only [Act.put,Qzs];refine Q0f 7 (by rfl) (by kernel_rfl) (fun K y=>?_);have be:=Hv.out _ L;refine Q2v (by rfl) (.tmp 129) (.tmp 132) 44 (by rfl) Q1i (Q1h (ps:=[(Value.slice D z E,v)]) (fun p hp=>by rw [mem_singleton] at hp;rw [hp];exact be)) (by rfl) U (by rfl) V L.size (by rw [Z.out];simp) (by rw [Z.out];unfold maxLen;simp) (fun cE u4 ad ae=>?_);have b7:=L.grown ae L.size (fun j T=>(World.ownsRow.lt U j T).1);have b5:Q7j ⟨w.heap.size,3,none⟩ ⟨w.heap.size,2,none⟩ (.slice H 16 I) (.slice D z E) u4:=⟨a9.1.grownO ae (fun e=>by have:=(World.ownsRow.lt U _ e).1;simp at this;omega),a9.2.grownO ae (fun e=>by have:=(World.ownsRow.lt U _ e).1;simp at this;omega)⟩;refine y _ _ b5 ?_;clear y K;simp only [Act.put,Qzs];obtain ⟨an,a7,rfl,_⟩:=ad.form' 17 (by rw [length_append,Z.out];rfl);clear k2 k3;refine Qtk 8 (fun K y=>?_);simp only [Qzs] at y;go_simp;(first|refine y _ ?_|refine ⟨_,fun _=>rfl,y _ ?_⟩);clear y K;exact Q11 (by kernel_rfl) ⟨rfl,_,_,_,an,a7,rfl,ad,b7⟩
     (refine Q31 (i:=6) (by rfl) (fun K y=>?_);simp only [Qzs] at y;go_simp)
     have V:=Row.made u0 1 [Value.slice D z E] 25 1 rfl (by unfold maxLen;omega);change Q05 Q0p 1 _ _ [(Value.slice D z E,v)] at V;have au:Below u0.heap.size u0 (u0.alloc (.cells #[Value.slice D z E] 25)):=Qba _ _;have a4:=cd.below au;refine y _ _ a4 ?_;clear y K;have a1:=D00 aw au;obtain ⟨aQ,aa⟩:=Qe (u0.heap.size);obtain ⟨u1,aB⟩:=Qe (u0.alloc (.cells #[Value.slice D z E] 25));rw [<-aB] at a4 a1 au V;rw [<-aa] at V;rw [<-aa,<-aB];have cK:=Qhd (show u1.heap.size=aQ+1 from by rw [aB,aa];simp);clear aB aa
     (refine Q0f 0 (by rfl) (by kernel_rfl) (fun K y=>?_);simp only [Qzs] at y;go_simp)
     have N:=Q08.empty Q0p 1 25 u1 wA.heap.size a1.size;have ao:Below u1.heap.size u1 (u1.alloc (.cells #[] 25)):=Qba _ _;have a8:=a4.below ao;refine y _ _ a8 ?_;clear y K;have O:=D00 a1 ao;have dw:aQ<u1.heap.size:=by have:=au.size;have h8:=cK.out;omega
     obtain ⟨bF,aF⟩:=Qe (u1.heap.size);obtain ⟨u2,aI⟩:=Qe (u1.alloc (.cells #[] 25));rw [<-aI] at a8 O ao N;rw [<-aF] at N;rw [<-aF,<-aI];replace V:=V.kept ao;have bM:bF≠aQ:=by omega
     clear aI aF;refine Q0f 3 (by rfl) (by kernel_rfl) (fun K y=>?_);have bO:=bw.out _ O;refine Q2v (by rfl) (.tmp 126) (.tmp 128) 44 (by rfl) Q1i (Q1h bO) (by rfl) N (by rfl) (bA.out _ O) O.size (by rw [Z.out];simp) (by rw [Z.out];unfold maxLen;simp) (fun cD u3 U ap=>?_);have L:=O.grown ap O.size (fun j T=>(World.ownsRow.lt N j T).1);have a9:Q7j ⟨w.heap.size,3,none⟩ ⟨w.heap.size,2,none⟩ (.slice H 16 I) (.slice D z E) u3:=⟨a8.1.grownO ap (fun e=>by have:=(World.ownsRow.lt N _ e).1;simp at this;omega),a8.2.grownO ap (fun e=>by have:=(World.ownsRow.lt N _ e).1;simp at this;omega)⟩;replace V:=Q05.grownO V ap (fun e=>bM (Option.some.inj e));refine y _ _ a9 ?_;clear y K;rw [nil_append] at U;simp only [Act.put,Qzs];refine Q0f 7 (by rfl) (by kernel_rfl) (fun K y=>?_);have be:=Hv.out _ L;refine Q2v (by rfl) (.tmp 129) (.tmp 132) 44 (by rfl) Q1i (Q1h (ps:=[(Value.slice D z E,v)]) (fun p hp=>by rw [mem_singleton] at hp;rw [hp];exact be)) (by rfl) U (by rfl) V L.size (by rw [Z.out];simp) (by rw [Z.out];unfold maxLen;simp) (fun cE u4 ad ae=>?_);have b7:=L.grown ae L.size (fun j T=>(World.ownsRow.lt U j T).1);have b5:Q7j ⟨w.heap.size,3,none⟩ ⟨w.heap.size,2,none⟩ (.slice H 16 I) (.slice D z E) u4:=⟨a9.1.grownO ae (fun e=>by have:=(World.ownsRow.lt U _ e).1;simp at this;omega),a9.2.grownO ae (fun e=>by have:=(World.ownsRow.lt U _ e).1;simp at this;omega)⟩;refine y _ _ b5 ?_;clear y K;simp only [Act.put,Qzs];obtain ⟨an,a7,rfl,_⟩:=ad.form' 17 (by rw [length_append,Z.out];rfl);clear k2 k3;refine Qtk 8 (fun K y=>?_);simp only [Qzs] at y;go_simp;(first|refine y _ ?_|refine ⟨_,fun _=>rfl,y _ ?_⟩);clear y K;exact Q11 (by kernel_rfl) ⟨rfl,_,_,_,an,a7,rfl,ad,b7⟩
    rintro b w3 ⟨u126,u129,u132,an,a7,rfl,ad,L⟩;simp only [Act.put,Qzs];obtain ⟨gq,rfl,cX,cl⟩:=Qpo ad (by omega);have bk:FkX w g4 w3.heap.size gq a7 [.int .i64 3,.slice pa W pc,.slice D z E,.slice H 16 I] (ps++[(Value.slice D z E,v)]) (.slice none 0 0) (txts ((ps++[(Value.slice D z E,v)]).take 0)) w3:=⟨aq.kept L,bV.kept L,bm.kept L,Q08.nil Q0j 3 _ _ _,D00 aS L,cB,by have:=L.size;omega,ad.row,cl,by omega⟩;have ac:(ps++[(Value.slice D z E,v)]).length=17:=by rw [length_append,Z.out];rfl
    obtain ⟨Bs,cb⟩:=Qe (w3.heap.size);rw [<-cb] at bk;have ca:Bs<=w3.heap.size:=by omega
    obtain ⟨J,aV⟩:=Qe (ps++[(Value.slice D z E,v)]);rw [<-aV] at bk ac;have cg:∀ x∈J,Q02 w x.1 x.2:=by rw [aV];exact cG.out
    have cc:∀ q∈J,q.2.length<=1048576:=by
     rw [aV];intro q G;rcases mem_append.1 G with G|G
     ·exact b3 q G
     rw [mem_singleton] at G;rw [G];have:=cM.out;simp;omega
    have co:Q4f 0 (J.map (·.2)) 17=Q65 v (ps.map (·.2)):=by
     have e:(J.map (·.2)).take 17=ps.map (·.2)++[v]:=by
      rw [take_of_length_le (by rw [List.length_map,ac];omega),aV,map_append];rfl
     unfold Q4f Q65;rw [e,map_append,List.sum_append];simp;omega
    have c8:=Qhd aV;have bi:=Qhd ac;have c7:=Qhd co;have c4:=Qhd cg;have bZ:=Qhd cc;have cF:=Qhd b3;clear aV ac co cg cc b3 cb k2 k3 a4 aq bV bm aS L ad dc cX cl
    go_wp2_with fail
    go_loopw [12,135] (fun dg ix wr=>∃ (k:Nat) (aK:Option Addr) (aL:Nat),k<=17/\ix=.int .i64 (k:Int)/\dg=.int .i64 ((Q4f 0 (J.map (·.2)) k:Nat):Int)/\FkX w g4 Bs gq a7 [.int .i64 3,.slice pa W pc,.slice D z E,.slice H 16 I] J (.slice aK k aL) (txts (J.take k)) wr/\Bs<=wr.heap.size) (fun _ ix _=>17 - (intOf ix).toNat)
    case atStart=>exact ⟨0,none,0,by omega,rfl,by rw [Qay];rfl,bk,ca⟩
    case round =>
     clear bk ca;obtain ⟨k,aK,aL,d1,rfl,rfl,S,bJ⟩:=hrel;by_cases hlt:k<17
     ·have d3:(k:Int)<17:=by omega
      have d4:k<J.length:=by rw [bi.out];exact hlt
      have hT:Q12 wr (.slice (some ⟨gq,0,none⟩) 17 a7) J:=⟨S.hr,fun x hx=>(c4.out x hx).below S.hb⟩;obtain ⟨b,off,q,ci,G,hc,aE⟩:=Q12.at hT k d4;simp only [Option.some.injEq,Addr.mk.injEq] at ci;obtain ⟨rfl,rfl,_⟩:=ci;rw [Nat.zero_add] at hc;have bc:=bZ.out q (List.mem_of_getElem? G);have bp:=Qdi J k q G;have cq:(J.map (·.2))[k]?=some q.2:=by rw [List.getElem?_map,G];rfl
      have aG:=Qaz 0 (J.map (·.2)) k q.2 cq;have bo:=Q86 0 (J.map (·.2)) k;obtain ⟨qv,ql⟩:=q;simp only at hc aE bc bp aG;obtain ⟨qa,qc,rfl,_,d8⟩:=aE.form;obtain ⟨M,ac⟩:=Qe (ql.length);rw [<-ac] at hc aE bc aG bp;obtain ⟨m0,bn⟩:=Qe (Q4f 0 (J.map (·.2)) k);obtain ⟨m1,bL⟩:=Qe (Q4f 0 (J.map (·.2)) (k+1));rw [<-bn,<-bL] at aG;rw [<-bn] at bo;rw [<-bn];have bz:=Qhd ac;have c9:=Qhd bp;have c6:=Qhd bL;have c1:=fun x=>Q3c qa M qc x;have C1:=Qhd c1;have cx:=Qh0 J k (by rw [bi.out];omega);have aO:=Qhd cx;have k3:=fun u:Ext wr=>u.cell ((S.hi.cell 2).trans (show _=some (Value.slice aK k aL) from rfl));have c':=Qf7 qa M qc ql;have aU:M=0∨0<M:=by omega
      clear c1 bn bL bp cq G ac cx hT;rcases aU with ab|ab
      ·have cY:decide ((0:Int)<(M:Int))=false:=by rw [decide_eq_false_iff_not];omega
       have dt:¬ 0<M:=by omega
       have ak:m1=m0:=by rw [aG,ab];simp
       have aX:=Qhd ak;clear ak ab aG
       go_wp2_with fail
       refine Q03 wr 5 (by kernel_rfl) (by kernel_rfl) (Below.refl _ _) ?_;simp only [take_succ_cons,take_zero,take_nil]
       iterate 3 (refine Q06 (by rfl) (fun K y=>?_);go_simp;refine y _ ?_;clear y K)
       (refine Q06 (by rfl) (fun K y=>?_);go_simp;first|(refine y _ ?_;clear y K)|(apply Exists.intro;refine ⟨fun _=>?_,y _ ?_⟩;exact C1.out _;clear y K))
       refine Q0e 143 (OneB 0 (.slice qa M qc) ql) rfl (of_decide_eq_true rfl) (OneB.mono _ _ _) (fun w3 db=>?_) ?_
       ·simp only [Q18,filter_nil,Q00];refine ⟨rfl,?_⟩;go_simp;exact ⟨Qba _ _,w3.heap.size,rfl,D02 Q0k w3 77 [txt (.slice qa M qc) ql] 1 rfl (by unfold maxLen;omega)⟩
       refine Q0i ?_;intro u2 O di bI;change wpList _ _ _ [_,_,_] _ _;obtain ⟨cR,rfl,bP⟩:=bI;have af:=S.kept O;have aD:=af.hO;have bd:Bs<=u2.heap.size:=le_trans bJ O.size;have cT:=af.hB;clear k3 S
       go_wp2_with (refine Q0t (o:=⟨some 144,_,_,_,_,_⟩) (by rfl) (.tmp 140) (.tmp 143) 75 (by rfl) Q5t c' (by rfl) aD (by rfl) bP bd (by rw [aO.out];simp;omega) (by rw [aO.out];unfold maxLen;simp;omega) ?_;intro v5 w5 b4 a2 _;obtain ⟨a5,c5,rfl,_⟩:=b4.form' (k+1) (by rw [length_append,aO.out];rfl);have aZ:=af.grew a2 b4;have bR:=le_trans bd a2.size;have bK:=(af.hi.grown a2 (fun e=>by have:=(World.ownsRow.lt aD g4 e).1;omega)).has 2 (by simp);have cW:=(af.hi.grown a2 (fun e=>by have:=(World.ownsRow.lt aD g4 e).1;omega)).free 2;obtain ⟨y5,de⟩:=bK)
       rw [<-c9.out] at aZ
       go_roundw
       case rel=>exact ⟨k+1,a5,c5,by omega,by go_num,by rw [<-c6.out,aX.out],aZ,by simpa using bR⟩
       case measure=>simp [intOf];omega
      have cY:(0:Int)<(M:Int):=by omega
      have ak:m1=m0+1:=by rw [aG];omega
      have aX:=Qhd ak;have dy:IntKind.i64.wrap ((m0:Int)+1)=(m0:Int)+1:=IntWalk.i64_in _ (by omega);clear ak aG
      go_wp2_with fail
      refine Q03 wr 5 (by kernel_rfl) (by kernel_rfl) (Below.refl _ _) ?_;simp only [take_succ_cons,take_zero,take_nil]
      iterate 3 (refine Q06 (by rfl) (fun K y=>?_);go_simp;refine y _ ?_;clear y K)
      (refine Q06 (by rfl) (fun K y=>?_);go_simp;first|(refine y _ ?_;clear y K)|(apply Exists.intro;refine ⟨fun _=>?_,y _ ?_⟩;exact C1.out _;clear y K))
      refine Q0e 143 (OneB 0 (.slice qa M qc) ql) rfl (of_decide_eq_true rfl) (OneB.mono _ _ _) (fun w3 db=>?_) ?_
      ·simp only [Q18,filter_nil,Q00];refine ⟨rfl,?_⟩;go_simp;exact ⟨Qba _ _,w3.heap.size,rfl,D02 Q0k w3 77 [txt (.slice qa M qc) ql] 1 rfl (by unfold maxLen;omega)⟩
      refine Q0i ?_;intro u2 O di bI;change wpList _ _ _ [_,_,_] _ _;obtain ⟨cR,rfl,bP⟩:=bI;have af:=S.kept O;have aD:=af.hO;have bd:Bs<=u2.heap.size:=le_trans bJ O.size;have cT:=af.hB;clear k3 S
      go_wp2_with (refine Q0t (o:=⟨some 144,_,_,_,_,_⟩) (by rfl) (.tmp 140) (.tmp 143) 75 (by rfl) Q5t c' (by rfl) aD (by rfl) bP bd (by rw [aO.out];simp;omega) (by rw [aO.out];unfold maxLen;simp;omega) ?_;intro v5 w5 b4 a2 _;obtain ⟨a5,c5,rfl,_⟩:=b4.form' (k+1) (by rw [length_append,aO.out];rfl);have aZ:=af.grew a2 b4;have bR:=le_trans bd a2.size;have bK:=(af.hi.grown a2 (fun e=>by have:=(World.ownsRow.lt aD g4 e).1;omega)).has 2 (by simp);have cW:=(af.hi.grown a2 (fun e=>by have:=(World.ownsRow.lt aD g4 e).1;omega)).free 2;obtain ⟨y5,de⟩:=bK)
      rw [<-c9.out] at aZ
      go_roundw
      case rel=>exact ⟨k+1,a5,c5,by omega,by go_num,by rw [<-c6.out,aX.out];go_num,aZ,by simpa using bR⟩
      case measure=>simp [intOf];omega
     ·obtain rfl:k=17:=by omega
      rw [c7.out];have bo:=Q86 0 (J.map (·.2)) 17;rw [c7.out] at bo;obtain ⟨mm,ak⟩:=Qe (Q65 v (ps.map (·.2)));rw [<-ak] at bo;rw [<-ak];have aA:J.take 17=J:=take_of_length_le (by rw [bi.out];omega);rw [aA] at S;have c3:=(S.hs.cell 3).trans (show _=some (Value.slice H 16 I) from rfl);have aX:=Qhd ak;obtain ⟨wL,bU⟩:∃ x:World,x=wr:=⟨_,rfl⟩;rw [<-bU] at S bJ c3;rw [<-bU];clear ak aA bU
      go_wp2_with fail
      go_loopw [155] (fun ix wr=>∃ j:Nat,j<=16/\ix=.int .i64 (j:Int)/\Hid (∀ q∈ps.take j,Q2j q.2.length true=true)/\wr=wL) (fun ix _=>16 - (intOf ix).toNat)
      case atStart=>exact ⟨0,by omega,rfl,Qhd (fun q G=>by simp at G),rfl⟩
      case round =>
       obtain ⟨j,T,rfl,aR,rfl⟩:=hrel;by_cases hlj:j<16
       ·have du:(j:Int)<16:=by omega
        have cm:j<ps.length:=by rw [Z.out];exact hlj
        obtain ⟨b,off,q,rfl,G,hc,aE⟩:=Q12.at (hk.below S.hb) j cm;have bc:=cF.out q (List.mem_of_getElem? G);have cp:=List.mem_of_getElem? G;have aA:ps.take (j+1)=ps.take j++[q]:=by rw [List.take_succ_eq_append_getElem cm];rw [(List.getElem?_eq_some_iff.1 G).2]
        obtain ⟨qv,ql⟩:=q;simp only at hc aE bc;obtain ⟨qa,qc,rfl,_,d8⟩:=aE.form;obtain ⟨M,ac⟩:=Qe (ql.length);rw [<-ac] at hc aE bc;have bz:=Qhd ac;have cJ:=Qhd aA;have az:Q2j M true=true->Hid (∀ q∈ps.take (j+1),Q2j q.2.length true=true):=fun d9=>Qhd (fun q G=>by
         rw [cJ.out] at G;rcases mem_append.1 G with G|G
         ·exact aR.out q G
         rw [mem_singleton] at G;rw [G,<-bz.out];exact d9)
        have aY:=Qhd az;have aU:M=0∨M=32∨(M≠0/\M≠32):=by omega
        clear az ac aA G;rcases aU with ab|ab|⟨ab,cu⟩
        ·have cr:((M:Int) != 0)=false:=by rw [bne_eq_false_iff_eq];omega
         have aq:=aY.out (by unfold Q2j;simp [ab]);clear ab
         go_wp2
         go_roundw
         case rel=>exact ⟨j+1,by omega,by go_num,aq,by first|trivial|rfl⟩
         case measure=>simp [intOf];omega
        ·have cr:((M:Int) != 0)=true:=by rw [bne_iff_ne];omega
         have d5:((M:Int) != 32)=false:=by rw [bne_eq_false_iff_eq];omega
         have aq:=aY.out (by unfold Q2j;simp [ab]);clear ab
         go_wp2
         go_roundw
         case rel=>exact ⟨j+1,by omega,by go_num,aq,by first|trivial|rfl⟩
         case measure=>simp [intOf];omega
        have cr:((M:Int) != 0)=true:=by rw [bne_iff_ne];omega
        have d5:((M:Int) != 32)=true:=by rw [bne_iff_ne];omega
        have bb:ok=false:=by
         rw [bg.out];have:((ps.map (·.2)).all fun t=>Q2j t.length true)=false:=by
          rw [List.all_eq_false];exact ⟨ql,mem_map.2 ⟨_,cp,rfl⟩,by rw [<-bz.out];unfold Q2j;simp [ab,cu]⟩
         rw [this];simp
        subst bb;have aC:=S.hz;have a':=S.hb;clear ab cu cp aY
        go_wp2_with ((with_reducible refine Qgs 167 ?_);refine Qsa 77 2 167 (w.heap.size+1) [.bool false,.slice none 0 0,.slice none 0 0] Q09 aC (by rfl) (by rfl) (by intro u hu;simp at hu;rcases hu with rfl|rfl<;>rfl) (Below.refl _ _) (le_refl _) ?_;intro w5 b' _ a2;have b9:=a'.grown a2 a'.size (fun j T=>by cases T;omega))
        exact bodyPost_ret (Q01 rfl _ _ (w.heap.size+1) Q09 b' rfl rfl rfl) rfl ⟨false,none,0,0,[],none,0,0,[],rfl,fun h=>by simp at h,b9⟩
       ·obtain rfl:j=16:=by omega
        have cw:ps.take 16=ps:=take_of_length_le (by rw [Z.out];omega);have ct:ok=decide (2<=mm):=by
         rw [bg.out];have:((ps.map (·.2)).all fun t=>Q2j t.length true)=true:=by
          rw [List.all_eq_true];intro t ht;obtain ⟨q,G,rfl⟩:=mem_map.1 ht;exact aR.out q (by rw [cw];exact G)
         rw [this,aX.out];simp [da]
        have dx:decide ((1:Int)<(mm:Int))=ok:=by
         rw [ct];by_cases h2:2<=mm
         ·rw [decide_eq_true h2,decide_eq_true (by omega)]
         rw [decide_eq_false h2,decide_eq_false (by omega)]
        clear ct cw aR
        go_wp2_with (first
         |(refine Qla 77 11 g4 Q09 S.hi (by rfl) ?_)
         |((with_reducible refine Qgs 169 ?_);refine Qsa 77 2 169 (w.heap.size+1) [.bool true,.slice none 0 0,.slice aK 17 aL] Q09 S.hz (by rfl) (by rfl) (by intro u hu;simp at hu;rcases hu with rfl|rfl|rfl<;>rfl) (Below.refl _ _) (le_refl _) ?_;intro w6 cZ _ ck;have ch:=S.hb.grown ck S.hb.size (fun j T=>by cases T;omega);have cU:=S.hO.grown ck (fun k hk e=>by cases hk;have:=(World.ownsRow.lt S.hO _ e).1;have:=S.hB;omega)))
        have cV:∀ x∈J,Q02 w6 x.1 x.2:=fun x hx=>(c4.out x hx).below ch;refine bodyPost_ret (Q01 rfl _ _ (w.heap.size+1) Q09 cZ rfl rfl rfl) rfl ⟨true,none,0,0,[],aK,17,aL,txts J,rfl,fun _=>⟨?_,?_,?_⟩,ch⟩
        ·exact Q17.lst cU.row (Q76 cV)
        ·have:=Q29 (.slice aK 17 aL) J;rw [c8.out,map_append] at this;rw [c8.out];exact this
        ·refine le_trans (le_of_eq (Q5m (.slice aK 17 aL) (txts J))) ?_;rw [Q38];have:=Qqt _ 1048576 bZ.out;rw [bi.out] at this;omega

theorem Qdo (kd:Int)(H J E:Option Addr)(z I D K y G:Nat)(p v:List UInt8)(ps:List (Value × List UInt8))(L:p.length=z)(S:v.length=D)(O:ps.length=y)(w:World)(N:Q02 w (.slice H z I) p)(W:Q02 w (.slice J D K) v)(V:Q12 w (.slice E y G) ps)(M:z<=4194304)(U:D<=1048576)(Z:y<=1048576)(T:∀ q∈ps,q.2.length<=1048576) :
  Calls Tryz.prog 160 #[.agg #[.int .i64 kd,.slice H z I,.slice J D K,.slice E y G]] w (Q1y (shOk kd p v (ps.map (·.2))) (shB kd p v (ps.map (·.2))) w):=by
 unfold shOk shB;rw [List.length_map,L,S,O];by_cases h0:kd=0
 ·subst h0;rw [if_pos rfl,if_pos rfl];exact Qj2 H J E z I D K y G p L w N M
 rw [if_neg h0,if_neg h0];by_cases h1:kd=1
 ·subst h1;rw [if_pos rfl,if_pos rfl];exact Qj3 H J E z I D K y G p v L S w N W M U
 rw [if_neg h1,if_neg h1];by_cases h2:kd=2
 ·subst h2;rw [if_pos rfl,if_pos rfl];exact Qj1 H J E z I D K y G p ps L O w N V M Z T
 rw [if_neg h2,if_neg h2];by_cases h3:kd=3
 ·subst h3;rw [if_pos rfl];exact Qj4 H J E z I D K y G p v ps L S O w N W V M U T
 rw [if_neg h3];refine (Qj5 kd h0 h1 h2 h3 H J E z I D K y G p L w N M).mono ?_;rintro e w' ⟨l,ta,tn,tc,t,a1,a3,a2,ks,rfl,_,hb⟩;exact ⟨l,ta,tn,tc,t,a1,a3,a2,ks,rfl,fun h=>by simp at h,hb⟩
theorem Q6q (kd:Int)(L T G:Option Addr)(y M z U h I:Nat)(p v:List UInt8)(ps:List (Value × List UInt8))(ac:p.length=y)(af:v.length=z)(aa:ps.length=h)(w:World)(hp:Q02 w (.slice L y M) p)(hv:Q02 w (.slice T z U) v)(hk:Q12 w (.slice G h I) ps)(hP:y<=4194304)(hV:z<=1048576)(hK:h<=1048576)(a9:∀ q∈ps,q.2.length<=1048576) :
  Calls Tryz.prog 136 #[.agg #[.int .i64 kd,.slice L y M,.slice T z U,.slice G h I]] w (Q8e (shOk kd p v (ps.map (·.2))) (shB kd p v (ps.map (·.2))) w):=by
 have ad:=D01 w 134 [.int .i64 kd,.slice L y M,.slice T z U,.slice G h I];have V:Below w.heap.size w (w.alloc (.cells #[.int .i64 kd,.slice L y M,.slice T z U,.slice G h I] 134)):=Qba _ _;have Z:=fun x hb=>Qdo kd L T G y M z U h I p v ps ac af aa x (hp.below hb) (hv.below hb) (hk.below hb) hP hV hK a9;obtain ⟨ok,a4⟩:=Qe (shOk kd p v (ps.map (·.2)));obtain ⟨B,hB⟩:=Qe (shB kd p v (ps.map (·.2)));simp only [<-a4,<-hB] at Z;rw [<-a4,<-hB];have Ci:=Qhd Z;clear Z a4 hB ac af aa a9 hp hv hk;cases ok with
 | false =>
  go_enter Tryz.func136,Tryz.ntmps136
  go_wp2_with (first
   |(refine Qla 134 1 w.heap.size Q0a ad (by rfl) ?_)
   |(go_at_call 160;refine (Ci.out _ V).mono ?_;rintro e w3 ⟨E,N,S,O,t,H,K,J,ks,rfl,hI,W⟩;have D:=D00 V W;have a3:=D.alloc D.size (.cells #[.bool E,.slice N S O,.slice H K J] 77)))
  go_ret2;exact ⟨_,rfl,Q05.nil b8 1 _,a3⟩
 | true =>
  go_enter Tryz.func136,Tryz.ntmps136
  go_wp2_with (first
   |(refine Qla 134 1 w.heap.size Q0a ad (by rfl) ?_)
   |(go_at_call 160;refine (Ci.out _ V).mono ?_;rintro e w3 ⟨E,N,S,O,t,H,K,J,ks,rfl,hI,W⟩;have D:=D00 V W;have a3:=D.alloc D.size (.cells #[.bool E,.slice N S O,.slice H K J] 77);obtain ⟨a7,a8,ai⟩:=hI rfl;have aj:=a7.kept ((Below.refl w3.heap.size w3).alloc (le_refl _) (.cells #[.bool E,.slice N S O,.slice H K J] 77));have ag:=Qhd a8;clear hI a7 a8)
   |(go_at_call 56;refine (Q64 _ (.mk E (.slice N S O) t (.slice H K J) ks) _ ai (by omega) aj).mono ?_;rintro e w5 ⟨v5,rfl,o5,b5⟩;have an:=D00 a3 b5))
  go_ret2;exact ⟨_,rfl,by rw [<-ag.out];exact o5,an⟩
end Go.Proofs.YtbdmkfjgnjfjbaaGreat
