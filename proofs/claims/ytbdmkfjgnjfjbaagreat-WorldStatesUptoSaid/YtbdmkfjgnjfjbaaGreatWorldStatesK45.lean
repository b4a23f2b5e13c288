/- The walk of the law WorldStates. -/
import Derived.Test.YtbdmkfjgnjfjbaaGreatWorldStatesK44
import Derived.Test.YtbdmkfjgnjfjbaaGreatWorldStatesK38
set_option linter.unusedSimpArgs false
set_option linter.unusedVariables false
set_option maxHeartbeats 4000000
set_option maxRecDepth 100000
namespace Go.Proofs.YtbdmkfjgnjfjbaaGreat
open Go.RowKit
theorem Q9h {H:Type}{d:DataW H}{l:List Hol}(h:SzL SzH d l)(hm:Rows.uptoBulk d≤1048576):l.length≤1048576∧∀ q∈l,q.a.s.length≤1048576∧q.a.c.length≤1048576:=by
 have h1:=Qfb (m:=fun q:Hol=>1+q.a.c.length+q.a.s.length) (fun _ _=>SzH.upto) h
 have h2:=Qat h.sz
 refine ⟨by omega,fun q hq=>?_⟩
 have:∀ (l:List Hol),q∈l→1+q.a.c.length+q.a.s.length≤(l.map fun q:Hol=>1+q.a.c.length+q.a.s.length).sum:=by
  intro l
  induction l with
  | nil=>intro h;simp at h
  | cons p l ih =>
   intro h
   simp only [List.map_cons,List.sum_cons]
   rcases List.mem_cons.1 h with rfl|h
   ·omega
   ·have:=ih h;omega
 have:=this l hq
 omega
theorem Qkx (S:List (Nat × Nat))(E:Nat){SB:List UInt8}(h:SB.length=32):(psV S E SB).1.length≤130:=by
 unfold psV
 split
 ·exact Qf1 _ h
 ·simp
theorem PsPost.tx {H:List Hol}{t:Nat}{SB:List UInt8}{w w':World}{e:Ending}(h:PsPost H t SB w e w'):∃ (V:Nat × Nat × List UInt8 × List (Nat × Nat)) (E:Nat) (a:Option Addr) (n c:Nat) (ps:List (Value × List UInt8)),e=.returned (.tuple #[.slice a n c,.int .i64 (psV V.2.2.2 E SB).2])∧GetR H t V E∧Texts w' (.slice a n c) ps∧ps.map (·.2)=(psV V.2.2.2 E SB).1∧Below w.heap.size w w':=by
 obtain ⟨V,E,hg,hm⟩:=h
 obtain ⟨v,rfl,⟨a,n,c,ps,rfl,ht,hp⟩,hb⟩:=hm.tx
 exact ⟨V,E,a,n,c,ps,rfl,hg,ht,hp,hb⟩
theorem Q52 (a:Option Addr)(n c:Nat)(H:List Hol)(hn:H.length=n)(hN:n≤1048576)(hs:∀ h∈H,h.a.s.length≤1048576∧h.a.c.length≤1048576)(A:List UInt8)(hA:A.length=8)(K:Nat)(w:World)(h:RowOf hols 15 w (.slice a n c) H)(hki:∀ h∈H,h.a.Ok∧h.a.In w) :
  Calls Tryz.prog 4 #[.slice a n c,.agg (by8 A).toArray,.agg (wcs K).toArray] w fun e w'=>e=.returned (.bool true)∧Below w.heap.size w w':=by
 have hk:=fun p hp=>(hki p hp).1
 have hi:=fun p hp=>(hki p hp).2
 obtain ⟨w1,hw1⟩:∃ w1,w1=(w.alloc (.cells (by8 A).toArray 41)).alloc (.cells (wcs K).toArray 24):=⟨_,rfl⟩
 have ha:Blk 41 w1 w.heap.size (by8 A):=by rw [hw1];exact (D01 w _ _).alloc _
 have hkw:Blk 24 w1 (w.heap.size+1) (wcs K):=by
  have:=D01 (w.alloc (.cells (by8 A).toArray 41)) 24 (wcs K)
  simp only [World.size_alloc] at this
  rw [hw1];exact this
 have hbel:Below w.heap.size w w1:=by rw [hw1];exact (Qba _ _).alloc (by simp) _
 have hr:∀ u,Below w1.heap.size w1 u→RowOf hols 15 u (.slice a n c) H:=fun u hu=>(h.below hbel).below hu
 have hI:∀ u,Below w1.heap.size w1 u→∀ p∈H,p.a.In u:=fun u hu p hp=>((hi p hp).below hbel).below hu
 have c1:=fun u hu=>Qfn a n c H hn hN hk hs u (hr u hu) (hI u hu)
 have c2:=fun u hu=>Qei a n c H hn hN hk hs u (hr u hu) (hI u hu)
 have c3:=fun u hu=>Qgb a n c H hn hN hk hs A hA u (hr u hu) (hI u hu)
 have c4:=fun u hu=>Qej a n c H hn hN hk hs A hA u (hr u hu) (hI u hu)
 have c5:=fun u hu=>Q8d a n c H hn hN hk hs A hA K u (hr u hu) (hI u hu)
 have c6:=fun u hu=>Q71 a n c H hn hN hk hs A hA K u (hr u hu) (hI u hu)
 have hp1:=Qkw H A
 have hS1:=Qaw H
 have hS32:(sumB (wb K)).length=32:=Q0o _
 obtain ⟨SB,hSB⟩:∃ B,B=sumB (wb K):=⟨_,rfl⟩
 obtain ⟨P,hP⟩:∃ P,P=pvP H A:=⟨_,rfl⟩
 obtain ⟨S,hS⟩:∃ S,S=stP H:=⟨_,rfl⟩
 obtain ⟨t,ht⟩:∃ t,t=numL A:=⟨_,rfl⟩
 simp only [←hSB,←hP,←hS,←ht] at c1 c2 c3 c4 c5 c6 hp1 hS1 hS32
 obtain ⟨PL,PE⟩:=P
 obtain ⟨SL,SE⟩:=S
 dsimp only at c1 c2 c3 c4 hp1 hS1
 have g1:∀ o1 o2 w1,(eqGuard .eql 30 o1 o2 (.agg (by8 SL).toArray) (.agg (by8 SL).toArray)).run Tryz.prog w1=.ok () w1:=fun o1 o2 w1=>Qep SL SL o1 o2 w1
 have q1:∀ w1:World,(binOp .eql 30 (.agg (by8 SL).toArray) (.agg (by8 SL).toArray)).run Tryz.prog w1=.ok (.bool true) w1:=fun w1=>by have h:=Qj1 SL SL hS1 hS1 w1;rw [beq_self_eq_true] at h;exact h
 have hSl:(by8 SL).length=32:=by rw [Q0p];exact hS1
 have hSo:=u8_one SL
 change ∀ u∈by8 SL,u.oneCell'=true at hSo
 obtain ⟨SC,hSC⟩:∃ C,C=by8 SL:=⟨_,rfl⟩
 simp only [←hSC] at c1 c2 g1 q1 hSl hSo
 have hAl:(by8 A).length=8:=by rw [Q0p];exact hA
 have hKl:=Q12 K
 obtain ⟨AC,hAC⟩:∃ C,C=by8 A:=⟨_,rfl⟩
 obtain ⟨KC,hKC⟩:∃ C,C=wcs K:=⟨_,rfl⟩
 rw [←hAC] at ha hAl
 rw [←hKC] at hkw hKl
 rw [←hAC,←hKC] at hw1 ⊢
 simp only [←hAC] at c3 c4 c5 c6
 simp only [←hKC] at c5 c6
 have HWe:=Qhd hw1
 have HAl:=Qhd hAl
 have HKl:=Qhd hKl
 have HSl:=Qhd hSl
 have HSo:=Qhd hSo
 have HS32:=Qhd hS32
 have Hp1:=Qhd hp1
 have G1:=Qhd g1
 have Q1:=Qhd q1
 have C1:=Qhd c1
 have C2:=Qhd c2
 have C3:=Qhd c3
 have C4:=Qhd c4
 have C5:=Qhd c5
 have C6:=Qhd c6
 have hSE:(SE==SE)=true:=beq_self_eq_true SE
 have hPE:(PE==PE)=true:=beq_self_eq_true PE
 have hzl:zh.length=32:=rfl
 have hznew:∀ u:World,Blk 30 (u.alloc (.cells zh.toArray 30)) u.heap.size zh:=fun u=>D01 u _ zh
 have Hzh:=Qhd hznew
 clear hw1 c1 c2 c3 c4 c5 c6 g1 q1 hS1 hSl hSo hSC hAC hKC hAl hKl hP hS hSB ht hr hI hk hi hki hn hN hs h hA hp1 hS32 hznew
 go_enter Tryz.func4,Tryz.ntmps4
 go_wp2_with (first
  |(go_at_call 14;rw [←HWe.out];(with_reducible refine (C1.out _ (Below.refl _ _)).mono ?_);rintro e w2 ⟨rfl,b2⟩)
  |((with_reducible show wpList _ _ _ (⟨none,.store _ _ (.tmp 22),_,_,_,_⟩::_) _ _);refine Q00 (o:=⟨none,_,_,_,_,_⟩) (by rfl) 30 (.tmp 7) (.tmp 22) (by rfl) w2.heap.size SC (by rfl) (by rfl) Q0i (Hzh.out w2) HSl.out hzl HSo.out (Qba w2 _) (Nat.le_refl _) ?_;intro w3 h3 b3 _;have b13:=D00 b2 b3)
  |(go_at_call 15;(with_reducible refine (C2.out _ b13).mono ?_);rintro e w4 ⟨rfl,b4⟩)
  |((with_reducible show wpList _ _ _ (⟨none,.store _ _ (.tmp 27),_,_,_,_⟩::_) _ _);refine Q00 (o:=⟨none,_,_,_,_,_⟩) (by rfl) 30 (.tmp 9) (.tmp 27) (by rfl) w4.heap.size SC (by rfl) (by rfl) Q0i (Hzh.out w4) HSl.out hzl HSo.out (Qba w4 _) (Nat.le_refl _) ?_;intro w5 h5 b5 _;have b35:=D00 b4 b5;have b15:=D00 b13 b35;have h35:=h3.kept b35;have a5:=(ha.kept b15).all0)
  |((with_reducible show wpList _ _ _ (⟨some 31,_,_,_,_,_⟩::_) _ _);refine Q03 (o:=⟨some 31,_,_,_,_,_⟩) 41 (.tmp 4) (by rfl) w.heap.size 0 (by rfl) Q10 HAl.out a5 (by rfl) ?_)
  |(go_at_call 16;(with_reducible refine (C3.out _ b15).mono ?_);intro e w6 m6;obtain ⟨v6,rfl,⟨xa6,xn6,xc6,ps6,rfl,t6,l6⟩,b6⟩:=MkP.tx m6;clear m6;have b16:=D00 b15 b6;have a6:=(ha.kept b16).all0)
  |((with_reducible show wpList _ _ _ (⟨some 37,_,_,_,_,_⟩::_) _ _);refine Q03 (o:=⟨some 37,_,_,_,_,_⟩) 41 (.tmp 4) (by rfl) w.heap.size 0 (by rfl) Q10 HAl.out a6 (by rfl) ?_)
  |(go_at_call 17;(with_reducible refine (C4.out _ b16).mono ?_);intro e w7 m7;obtain ⟨v7,rfl,⟨xa7,xn7,xc7,ps7,rfl,t7,l7⟩,b7⟩:=MkP.tx m7;clear m7;have b17:=D00 b16 b7;have a7:=(ha.kept b17).all0;have k7:=(hkw.kept b17).all0)
  |((with_reducible show wpList _ _ _ (⟨some 43,_,_,_,_,_⟩::_) _ _);refine Q03 (o:=⟨some 43,_,_,_,_,_⟩) 41 (.tmp 4) (by rfl) w.heap.size 0 (by rfl) Q10 HAl.out a7 (by rfl) ?_)
  |((with_reducible show wpList _ _ _ (⟨some 44,_,_,_,_,_⟩::_) _ _);refine Q03 (o:=⟨some 44,_,_,_,_,_⟩) 24 (.tmp 5) (by rfl) (w.heap.size+1) 0 (by rfl) Q0j HKl.out k7 (by rfl) ?_)
  |(go_at_call 18;(with_reducible refine (C5.out _ b17).mono ?_);intro e w8 m8;obtain ⟨V8,E8,xa8,xn8,xc8,ps8,rfl,r8,t8,l8,b8⟩:=PsPost.tx m8;clear m8;have b18:=D00 b17 b8;have a8:=(ha.kept b18).all0;have k8:=(hkw.kept b18).all0)
  |((with_reducible show wpList _ _ _ (⟨some 50,_,_,_,_,_⟩::_) _ _);refine Q03 (o:=⟨some 50,_,_,_,_,_⟩) 41 (.tmp 4) (by rfl) w.heap.size 0 (by rfl) Q10 HAl.out a8 (by rfl) ?_)
  |((with_reducible show wpList _ _ _ (⟨some 51,_,_,_,_,_⟩::_) _ _);refine Q03 (o:=⟨some 51,_,_,_,_,_⟩) 24 (.tmp 5) (by rfl) (w.heap.size+1) 0 (by rfl) Q0j HKl.out k8 (by rfl) ?_)
  |(go_at_call 19;(with_reducible refine (C6.out _ b18).mono ?_);intro e w9 m9;obtain ⟨V9,E9,xa9,xn9,xc9,ps9,rfl,r9,t9,l9,b9⟩:=PsPost.tx m9;clear m9;obtain ⟨rfl,rfl⟩:=GetR.one r8 r9;have b19:=D00 b18 b9;have b79:=D00 b8 b9;have b59:=D00 b6 (D00 b7 b79);have y9:=(h35.kept b59).all0;have z9:=(h5.kept b59).all0;have T6:=t6.below (D00 b7 b79);have T7:=t7.below b79;have T8:=t8.below b9;obtain ⟨FE,hFE⟩:∃ F,F=(psV V8.2.2.2 E8 SB).2:=⟨_,rfl⟩;obtain ⟨FL,hFL⟩:∃ F,F=(psV V8.2.2.2 E8 SB).1:=⟨_,rfl⟩;have hFl:FL.length≤130:=(by rw [hFL];exact Qkx _ _ HS32.out);try rw [←hFE];rw [←hFL] at l8 l9;have HFl:=Qhd hFl;have hFF:(FE==FE)=true:=beq_self_eq_true FE;obtain ⟨pn,hpn⟩:∃ m,m=PL.length:=⟨_,rfl⟩;have n6:ps6.length=pn:=(by rw [hpn,←l6,List.length_map]);have n7:ps7.length=pn:=(by rw [hpn,←l7,List.length_map]);obtain ⟨qn,hqn⟩:∃ m,m=FL.length:=⟨_,rfl⟩;have n8:ps8.length=qn:=(by rw [hqn,←l8,List.length_map]);have n9:ps9.length=qn:=(by rw [hqn,←l9,List.length_map]);obtain rfl:xn6=pn:=(by rw [←n6];exact T6.1.fits.1);obtain rfl:xn7=xn6:=(by rw [←n7];exact T7.1.fits.1);obtain rfl:xn8=qn:=(by rw [←n8];exact T8.1.fits.1);obtain rfl:xn9=xn8:=(by rw [←n9];exact t9.1.fits.1);have St1:=Qhd (fun u (hu:Below w9.heap.size w9 u)=>Q45 xa6 xa7 xn7 xc6 xc7 ps6 ps7 n6 n7 (by rw [hpn];have:=Hp1.out;omega) u (T6.below hu) (T7.below hu) (by rw [l6,l7]));have St2:=Qhd (fun u (hu:Below w9.heap.size w9 u)=>Q45 xa8 xa9 xn9 xc8 xc9 ps8 ps9 n8 n9 (by rw [hqn];have:=HFl.out;omega) u (T8.below hu) (t9.below hu) (by rw [l8,l9]));clear l6 l7 l8 l9 n6 n7 n8 n9 hpn hqn T6 T7 T8 t6 t7 t8 t9 r8 r9 hFE hFL hFl)
  |((with_reducible show wpList _ _ _ (⟨some 59,_,_,_,_,_⟩::_) _ _);refine Q03 (o:=⟨some 59,_,_,_,_,_⟩) 30 (.tmp 7) (by rfl) w2.heap.size 0 (by rfl) Q0i HSl.out y9 (by rfl) ?_)
  |((with_reducible show wpList _ _ _ (⟨some 60,_,_,_,_,_⟩::_) _ _);refine Q03 (o:=⟨some 60,_,_,_,_,_⟩) 30 (.tmp 9) (by rfl) w4.heap.size 0 (by rfl) Q0i HSl.out z9 (by rfl) ?_)
  |((with_reducible show wpList _ _ _ (⟨some 61,_,_,_,_,_⟩::_) _ _);refine Q1n (o:=⟨some 61,_,_,_,_,_⟩) 30 (.tmp 59) (.tmp 60) _ (by rfl) (by rfl) (by rfl) G1.out Q1.out (by rfl) ?_)
  |(go_at_call 20;(with_reducible refine (St1.out _ (Below.refl _ _)).mono ?_);rintro e w10 ⟨rfl,b10⟩;clear St1)
  |(go_at_call 20;(with_reducible refine (St2.out _ b10).mono ?_);rintro e w11 ⟨rfl,b11⟩))
 go_ret
 exact ⟨rfl,D00 hbel (D00 b19 (D00 b10 b11))⟩
end Go.Proofs.YtbdmkfjgnjfjbaaGreat
