/- lazy.Serve. | The reference's YServe. | The reference's SameReply: two like replies. -/
import Derived.Test.YtbdmkfjgnjfjbaaGreatLazyServesK43
import Derived.Test.YtbdmkfjgnjfjbaaGreatLazyServesK37
set_option linter.unusedSimpArgs false
set_option linter.unusedVariables false
set_option maxHeartbeats 4000000
set_option maxRecDepth 100000
namespace Go.Proofs.YtbdmkfjgnjfjbaaGreat
open Go.RowKit
theorem Bytes.offZ {w w':World}{g:Nat}{v:Value}{l:List UInt8}{cs':List Value}{e:TypeId}(h:Bytes w v l)(hz:Blk e w g z7)(hz':Blk e w' g cs')(hg:w.grownBy w' (some g)):Bytes w' v l :=
 RowOf.offI (size:=1) (fun _=>rfl) (by omega) h hz hz' hg (fun x _=>fun off hh=>by
  have:=hh 0 _ rfl
  match off,this with
  | 0,h=>simp [z7,u8v] at h
  | 1,h=>simp [z7,u8v] at h
  | 2,h=>simp [z7,u8v] at h
  | 3,h=>simp [z7,u8v] at h
  | 4,h=>simp [z7,u8v] at h
  | 5,h=>simp [z7,u8v] at h
  | 6,h=>simp [z7,u8v] at h
  | n+7,h=>simp [z7] at h)
structure RpW (g:Nat)(P:List (List UInt8))(C:List UInt8)(a:Option Addr)(n c:Nat)(ca:Option Addr)(cn cc:Nat)(u:World):Prop where
 hz:Blk 53 u g [.slice a n c,.slice ca cn cc]
 ht:∃ ps,Texts u (.slice a n c) ps∧ps.map (·.2)=P
 hc:Bytes u (.slice ca cn cc) C
theorem RpW.texts {g:Nat}{P:List (List UInt8)}{a:Option Addr}{n c:Nat}{ps:List (Value × List UInt8)}{u:World}(hz:Blk 53 u g z2v)(ht:Texts u (.slice a n c) ps)(hP:ps.map (·.2)=P)(hne:∀ x∈P,x≠[]):RpW g P [] a n c none 0 0 (u.setCell ⟨g,0,none⟩ (.slice a n c)):=by
 have hz':Blk 53 (u.setCell ⟨g,0,none⟩ (.slice a n c)) g [.slice a n c,.slice none 0 0]:=hz.set 0 (.slice a n c)
 exact ⟨hz',⟨ps,ht.offR (by rw [hP];exact hne) hz hz' (Q0r 0 _),hP⟩,RowOf.nil b8 1 _⟩
theorem RpW.code {g:Nat}{C:List UInt8}{ca:Option Addr}{cn cc:Nat}{u:World}(hz:Blk 53 u g z2v)(hc:Bytes u (.slice ca cn cc) C):RpW g [] C none 0 0 ca cn cc (u.setCell ⟨g,1,none⟩ (.slice ca cn cc)):=by
 have hz':Blk 53 (u.setCell ⟨g,1,none⟩ (.slice ca cn cc)) g [.slice none 0 0,.slice ca cn cc]:=hz.set 1 (.slice ca cn cc)
 exact ⟨hz',⟨[],Texts.nil _,rfl⟩,hc.offR hz hz' (Q0r 1 _)⟩
theorem RpW.none {g:Nat}{u:World}(hz:Blk 53 u g z2v):RpW g [] [] .none 0 0 .none 0 0 u:=⟨hz,⟨[],Texts.nil _,rfl⟩,RowOf.nil b8 1 _⟩
theorem RpW.done {R:List (List UInt8)→List UInt8→Int→Prop}{g f:Nat}{P:List (List UInt8)}{C:List UInt8}{a:Option Addr}{n c:Nat}{ca:Option Addr}{cn cc:Nat}{u u' w:World}{E:Int}(h:RpW g P C a n c ca cn cc u)(hne:∀ x∈P,x≠[])(hf:Blk 53 u f z2v){cs:List Value}(hf':Blk 53 u' f cs)(hg:u.grownBy u' (some f))(hR:R P C E)(hb:Below w.heap.size w u'):SvPost R w (.returned (.tuple #[.agg #[.slice a n c,.slice ca cn cc],.int .i64 E])) u':=by
 obtain ⟨ps,ht,hP⟩:=h.ht
 exact ⟨P,C,E,a,n,c,ps,ca,cn,cc,rfl,hR,ht.offR (by rw [hP];exact hne) hf hf' hg,hP,h.hc.offR hf hf' hg,hb⟩
theorem Q27 (a:Option Addr)(n c:Nat)(ca:Option Addr)(cn cc:Nat):∀ u∈[Value.slice a n c,.slice ca cn cc],u.oneCell'=true:=by
 intro u hu
 simp only [List.mem_cons,List.not_mem_nil,or_false] at hu
 rcases hu with rfl|rfl<;>rfl
theorem ranges (k:Int){A:List UInt8}(hA:A.length=8)(K:Nat){e:TypeId}{u:World}{g:Nat}(h:Blk e u g (rqc k A K)):u.rangeAt g 1 (by8 A)∧u.rangeAt g 9 (wcs K):=by
 have h1:=h.range 1 8
 have h2:=h.range 9 4
 rw [rqc_a k hA K] at h1
 rw [rqc_k k hA K] at h2
 exact ⟨h1,h2⟩
theorem Qfz (a:Option Addr)(n c:Nat)(H:List Hol)(hn:H.length=n)(hN:n≤1048576)(hk:∀ h∈H,h.a.Ok)(hs:∀ h∈H,h.a.s.length≤1048576∧h.a.c.length≤1048576)(k:Int)(A:List UInt8)(hA:A.length=8)(K:Nat)(w:World)(h:RowOf hols 15 w (.slice a n c) H)(hi:∀ h∈H,h.a.In w) :
  Calls Tryz.prog 21 #[.slice a n c,.agg (rqc k A K).toArray] w (SvPost (SvR H A (sumB (wb K)) k) w):=by
 obtain ⟨w1,hw1⟩:∃ w1,w1=((w.alloc (.cells (rqc k A K).toArray 51)).alloc (.cells z2v.toArray 53)).alloc (.cells z2v.toArray 53):=⟨_,rfl⟩
 have hq:Blk 51 w1 w.heap.size (rqc k A K):=by rw [hw1];exact ((Blk.new w _ _).alloc _).alloc _
 have z4:Blk 53 w1 (w.heap.size+1) z2v:=by
  have:=(Blk.new (w.alloc (.cells (rqc k A K).toArray 51)) 53 z2v).alloc (.cells z2v.toArray 53)
  simp only [World.size_alloc] at this
  rw [hw1];exact this
 have z6:Blk 53 w1 (w.heap.size+1+1) z2v:=by
  have:=Blk.new ((w.alloc (.cells (rqc k A K).toArray 51)).alloc (.cells z2v.toArray 53)) 53 z2v
  simp only [World.size_alloc] at this
  rw [hw1];exact this
 have hbel:Below w.heap.size w w1:=by rw [hw1];exact ((Qba _ _).alloc (by simp) _).alloc (by simp;omega) _
 have hr:∀ u,Below w1.heap.size w1 u→RowOf hols 15 u (.slice a n c) H:=fun u hu=>(h.below hbel).below hu
 have hI:∀ u,Below w1.heap.size w1 u→∀ p∈H,p.a.In u:=fun u hu p hp=>((hi p hp).below hbel).below hu
 have c1:=Qgd a n c H hn hN hk hs A hA w1 (hr _ (Below.refl _ _)) (hI _ (Below.refl _ _))
 have c2:=Q8e a n c H hn hN hk hs A hA K w1 (hr _ (Below.refl _ _)) (hI _ (Below.refl _ _))
 have c3:=fun u hu=>Qc8 a n c H hn hk (fun h hh=>⟨by have:=(hs h hh).2;omega,by have:=(hs h hh).1;omega⟩) A hA (by omega) u (hr u hu) (hI u hu)
 have c4:=Q4n a n c H hn hk w1 (hr _ (Below.refl _ _)) (hI _ (Below.refl _ _))
 have n1:=Qcs H A
 have n2:=fun S E SB=>Qcv S E SB
 have ck:w1.cell? ⟨w.heap.size,0,none⟩=some (.int .i64 k):=hq.cell 0
 obtain ⟨r1,r9⟩:=ranges k hA K hq
 obtain ⟨SB,hSB⟩:∃ B,B=sumB (wb K):=⟨_,rfl⟩
 have hv1:k=1→SvR H A SB k (pvP H A).1 [] (pvP H A).2:=fun e=>.inl ⟨e,rfl,rfl,rfl⟩
 have hv2:k=2→∀ V e,GetR H (numL A) V e→SvR H A SB k (psV V.2.2.2 e SB).1 [] (psV V.2.2.2 e SB).2:=fun e V x g=>.inr (.inl ⟨e,rfl,V,x,g,rfl,rfl⟩)
 have hv3:k=3→∀ V (e:Nat),GetR H (numL A) V e→SvR H A SB k [] V.2.2.1 (e:Int):=fun e V x g=>.inr (.inr (.inl ⟨e,rfl,V,x,g,rfl,rfl⟩))
 have hv4:k≠1→k≠2→k≠3→SvR H A SB k [] [] (if rightB H=true then 30 else 1):=fun e1 e2 e3=>.inr (.inr (.inr ⟨⟨e1,e2,e3⟩,rfl,rfl,rfl⟩))
 rw [←hSB]
 obtain ⟨R,hR⟩:∃ R,R=SvR H A SB k:=⟨_,rfl⟩
 obtain ⟨P,hP⟩:∃ P,P=pvP H A:=⟨_,rfl⟩
 obtain ⟨q,hq'⟩:∃ q,q=rightB H:=⟨_,rfl⟩
 simp only [←hSB] at c2
 unfold Q52 at c3
 unfold PsPost at c2
 obtain ⟨G,hG⟩:∃ G,G=GetR H (numL A):=⟨_,rfl⟩
 simp only [←hG] at c2 c3 hv2 hv3
 simp only [←hR] at hv1 hv2 hv3 hv4 ⊢
 simp only [←hP] at c1 n1 hv1
 simp only [←hq'] at c4 hv4
 obtain ⟨PL,PE⟩:=P
 dsimp only at c1 n1 hv1
 have hAl:(by8 A).length=8:=by rw [Q0n];exact hA
 have hKl:=Q0u K
 obtain ⟨AC,hAC⟩:∃ C,C=by8 A:=⟨_,rfl⟩
 obtain ⟨KC,hKC⟩:∃ C,C=wcs K:=⟨_,rfl⟩
 obtain ⟨RT,hRC⟩:∃ C,C=by8 A++wcs K:=⟨_,rfl⟩
 have hRe:rqc k A K=Value.int .i64 k::RT:=by rw [hRC];rfl
 rw [←hAC] at r1 hAl
 simp only [←hAC] at c1 c2 c3
 rw [←hKC] at r9 hKl
 simp only [←hKC] at c2
 rw [hRe] at hw1 hq ⊢
 have hwe:w1=((w.alloc (.cells (Value.int .i64 k::RT).toArray 51)).alloc (.cells #[.slice none 0 0,.slice none 0 0] 53)).alloc (.cells #[.slice none 0 0,.slice none 0 0] 53):=hw1
 have HWe:=Qhd hwe
 have HAl:=Qhd hAl
 have HKl:=Qhd hKl
 have C1:=Qhd c1
 have C2:=Qhd c2
 have C3:=Qhd c3
 have C4:=Qhd c4
 have V1:=Qhd hv1
 have V2:=Qhd hv2
 have V3:=Qhd hv3
 have V4:=Qhd hv4
 have N1:=Qhd n1
 have N2:=Qhd n2
 have hznew:∀ u:World,Blk 28 (u.alloc (.cells #[.int .u64 0,.int .u64 0,.int .u64 0,.int .u64 0,.int .u64 0,.slice none 0 0,.slice none 0 0] 28)) u.heap.size z7:=fun u=>Blk.new u _ z7
 have Hz7:=Qhd hznew
 clear hw1 hwe c1 c2 c3 c4 hv1 hv2 hv3 hv4 n1 n2 hR hP hq' hG hAC hKC hRC hRe hSB hAl hKl hk hs h hi hN hn hr hI hA hznew hq
 by_cases e1:k=1
 ·subst e1
  have hv1:=V1.out rfl
  go_enter Tryz.func21,Tryz.ntmps21
  go_upto_region 3 with fail
  rw [←HWe.out]
  go_upto_region 15 with (first
   |((with_reducible refine Qgl 19 ?_);refine Qlw 41 18 w.heap.size 1 Q0v HAl.out r1 ?_)
   |(go_at_call 16;(with_reducible refine C1.out.mono ?_);intro e w2 m;obtain ⟨v,rfl,⟨xa,xn,xc,ps,rfl,t2,l2⟩,b2⟩:=MkP.tx m;clear m;have z62:=z6.kept b2;have yz4:=z4.kept b2;have f0:=z62.free 0;have q0:w2.cell? ⟨w.heap.size+1+1,0,none⟩=some (.slice none 0 0):=z62.cell 0;have ybb:=Below.then hbel b2))
  have rp:=RpW.texts z62 t2 l2 N1.out
  have bb3:=ybb.setCell (p:=⟨w.heap.size+1+1,0,none⟩) (by show w.heap.size≤w.heap.size+1+1;omega) (.slice xa xn xc)
  have z43:=yz4.other ⟨w.heap.size+1+1,0,none⟩ (by show w.heap.size+1+1≠w.heap.size+1;omega) (.slice xa xn xc)
  obtain ⟨w3,hw3⟩:∃ x,x=w2.setCell ⟨w.heap.size+1+1,0,none⟩ (.slice xa xn xc):=⟨_,rfl⟩
  rw [←hw3] at rp bb3 z43
  rw [←hw3]
  clear hw3 f0 q0 z62 yz4 t2 l2 b2
  have zg:=rp.hz
  go_wp2_with (first
   |((with_reducible refine Qgl 48 ?_);refine Qla 53 6 (w.heap.size+1+1) aggRep zg rfl ?_)
   |((with_reducible refine Qgs 48 ?_);refine Qsa 53 4 48 (w.heap.size+1) [.slice xa xn xc,.slice none 0 0] aggRep z43 rfl rfl (Q27 _ _ _ _ _ _) bb3 (Nat.le_succ _) ?_;intro w9 h9 b9 g9))
  refine bodyPost_ret (Q04 rfl _ _ (w.heap.size+1) aggRep h9 rfl rfl rfl) rfl ?_
  exact RpW.done rp N1.out z43 h9 g9 hv1 b9
 by_cases e2:k=2
 ·subst e2
  go_enter Tryz.func21,Tryz.ntmps21
  go_upto_region 3 with fail
  rw [←HWe.out]
  go_upto_region 15 with (first
   |((with_reducible refine Qgl 29 ?_);refine Qlw 41 28 w.heap.size 1 Q0v HAl.out r1 ?_)
   |((with_reducible refine Qgl 31 ?_);refine Qlw 24 30 w.heap.size 9 Q0f HKl.out r9 ?_)
   |(go_at_call 18;(with_reducible refine C2.out.mono ?_);intro e w2 m;obtain ⟨V,x,gV,m2⟩:=m;obtain ⟨v,rfl,⟨xa,xn,xc,ps,rfl,t2,l2⟩,b2⟩:=MkP.tx m2;clear m2;have hv:=V2.out rfl V x gV;have hne:=N2.out V.2.2.2 x SB;obtain ⟨F,hF⟩:∃ F,F=psV V.2.2.2 x SB:=⟨_,rfl⟩;rw [←hF] at hv hne l2;rw [←hF];clear hF gV;obtain ⟨FL,FE⟩:=F;(dsimp only at hv hne l2 ⊢);have z62:=z6.kept b2;have yz4:=z4.kept b2;have f0:=z62.free 0;have q0:w2.cell? ⟨w.heap.size+1+1,0,none⟩=some (.slice none 0 0):=z62.cell 0;have ybb:=Below.then hbel b2))
  have rp:=RpW.texts z62 t2 l2 hne
  have bb3:=ybb.setCell (p:=⟨w.heap.size+1+1,0,none⟩) (by show w.heap.size≤w.heap.size+1+1;omega) (.slice xa xn xc)
  have z43:=yz4.other ⟨w.heap.size+1+1,0,none⟩ (by show w.heap.size+1+1≠w.heap.size+1;omega) (.slice xa xn xc)
  obtain ⟨w3,hw3⟩:∃ x,x=w2.setCell ⟨w.heap.size+1+1,0,none⟩ (.slice xa xn xc):=⟨_,rfl⟩
  rw [←hw3] at rp bb3 z43
  rw [←hw3]
  clear hw3 f0 q0 z62 yz4 t2 l2 b2
  have zg:=rp.hz
  go_wp2_with (first
   |((with_reducible refine Qgl 48 ?_);refine Qla 53 6 (w.heap.size+1+1) aggRep zg rfl ?_)
   |((with_reducible refine Qgs 48 ?_);refine Qsa 53 4 48 (w.heap.size+1) [.slice xa xn xc,.slice none 0 0] aggRep z43 rfl rfl (Q27 _ _ _ _ _ _) bb3 (Nat.le_succ _) ?_;intro w9 h9 b9 g9))
  refine bodyPost_ret (Q04 rfl _ _ (w.heap.size+1) aggRep h9 rfl rfl rfl) rfl ?_
  exact RpW.done rp hne z43 h9 g9 hv b9
 by_cases e3:k=3
 ·subst e3
  have hv3:=V3.out rfl
  go_enter Tryz.func21,Tryz.ntmps21
  go_upto_region 3 with fail
  rw [←HWe.out]
  go_upto_region 13 with fail
  have za:=Hz7.out w1
  have b12:Below w1.heap.size w1 (w1.alloc (.cells #[.int .u64 0,.int .u64 0,.int .u64 0,.int .u64 0,.int .u64 0,.slice none 0 0,.slice none 0 0] 28)):=Qba _ _
  obtain ⟨w2,hw2⟩:∃ x,x=w1.alloc (.cells #[.int .u64 0,.int .u64 0,.int .u64 0,.int .u64 0,.int .u64 0,.slice none 0 0,.slice none 0 0] 28):=⟨_,rfl⟩
  rw [←hw2] at za b12
  rw [←hw2]
  have r2:w2.rangeAt w.heap.size 1 AC:=fun j v hv=>(b12.cell (World.block_lt_of_cell? w1 _ (r1 j v hv))).trans (r1 j v hv)
  have Cg:=Qhd (C3.out w2 b12)
  have hgw:w.heap.size+1+1<w1.heap.size:=z6.lt
  have z62:=z6.kept b12
  have z42:=z4.kept b12
  have bb2:=Below.then hbel b12
  clear hw2 C3
  go_upto_region 14 with (first
   |((with_reducible refine Qgl 41 ?_);refine Qlw 41 40 w.heap.size 1 Q0v HAl.out r2 ?_)
   |(go_at_call 63;(with_reducible refine Cg.out.mono ?_);rintro e w3 ⟨B,E,rfl,gG,hIn,b3⟩;have hBl:(accs B).length=7:=rfl;have hBo:=Q3s hIn;have za3:=za.kept b3;have bb3:=Below.then bb2 b3)
   |((with_reducible refine Qgs 43 ?_);refine Qsa 28 8 43 w1.heap.size (accs B) aggAcc za3 hBl rfl hBo bb3 (by omega) ?_;intro w4 h4 ybb g4))
  have z64:=(z62.kept b3).grown g4 (fun e=>by injection e with e;omega)
  have yz4:=(z42.kept b3).grown g4 (fun e=>by injection e with e;omega)
  obtain ⟨ca,cc,sa,sc,hcv,hsv⟩:=Q0w hIn
  have hC:Bytes w4 B.cv B.c:=Bytes.offZ hIn.1 za3 h4 g4
  rw [hcv] at hC
  have q5:w4.cell? ⟨w1.heap.size,5,none⟩=some (.slice ca B.c.length cc):=by rw [←hcv];exact h4.cell 5
  have hv:=hv3 B.val E gG
  change R [] B.c _ at hv
  have f1:=z64.free 1
  have q1:w4.cell? ⟨w.heap.size+1+1,1,none⟩=some (.slice none 0 0):=z64.cell 1
  clear hIn hcv hsv za3 za h4 g4 b3 b12 hBo gG hBl z62 z42
  go_upto_region 15 with fail
  have rp:=RpW.code z64 hC
  have bb3:=ybb.setCell (p:=⟨w.heap.size+1+1,1,none⟩) (by show w.heap.size≤w.heap.size+1+1;omega) (.slice ca B.c.length cc)
  have z43:=yz4.other ⟨w.heap.size+1+1,1,none⟩ (by show w.heap.size+1+1≠w.heap.size+1;omega) (.slice ca B.c.length cc)
  obtain ⟨w5,hw5⟩:∃ x,x=w4.setCell ⟨w.heap.size+1+1,1,none⟩ (.slice ca B.c.length cc):=⟨_,rfl⟩
  rw [←hw5] at rp bb3 z43
  rw [←hw5]
  clear hw5 f1 q1 z64 yz4 q5 hC
  have zg:=rp.hz
  go_wp2_with (first
   |((with_reducible refine Qgl 48 ?_);refine Qla 53 6 (w.heap.size+1+1) aggRep zg rfl ?_)
   |((with_reducible refine Qgs 48 ?_);refine Qsa 53 4 48 (w.heap.size+1) [.slice none 0 0,.slice ca B.c.length cc] aggRep z43 rfl rfl (Q27 _ _ _ _ _ _) bb3 (Nat.le_succ _) ?_;intro w9 h9 b9 g9))
  refine bodyPost_ret (Q04 rfl _ _ (w.heap.size+1) aggRep h9 rfl rfl rfl) rfl ?_
  exact RpW.done rp (by simp) z43 h9 g9 hv b9

 have k1:(k==1)=false:=beq_eq_false_iff_ne.2 e1
 have k2:(k==2)=false:=beq_eq_false_iff_ne.2 e2
 have k3:(k==3)=false:=beq_eq_false_iff_ne.2 e3
 have hv:=V4.out e1 e2 e3
 cases q with
 | false =>
  rw [if_neg (by simp)] at hv
  go_enter Tryz.func21,Tryz.ntmps21
  go_upto_region 3 with fail
  rw [←HWe.out]
  go_upto_region 15 with (first
   |(go_at_call 67;(with_reducible refine C4.out.mono ?_);rintro e w2 ⟨rfl,b2⟩;have rp:=RpW.none (z6.kept b2);have z43:=z4.kept b2;have bb3:=Below.then hbel b2))
  have zg:=rp.hz
  go_wp2_with (first
   |((with_reducible refine Qgl 48 ?_);refine Qla 53 6 (w.heap.size+1+1) aggRep zg rfl ?_)
   |((with_reducible refine Qgs 48 ?_);refine Qsa 53 4 48 (w.heap.size+1) [.slice none 0 0,.slice none 0 0] aggRep z43 rfl rfl (Q27 _ _ _ _ _ _) bb3 (Nat.le_succ _) ?_;intro w9 h9 b9 g9))
  refine bodyPost_ret (Q04 rfl _ _ (w.heap.size+1) aggRep h9 rfl rfl rfl) rfl ?_
  exact RpW.done rp (by simp) z43 h9 g9 hv b9
 | true =>
  rw [if_pos rfl] at hv
  go_enter Tryz.func21,Tryz.ntmps21
  go_upto_region 3 with fail
  rw [←HWe.out]
  go_upto_region 15 with (first
   |(go_at_call 67;(with_reducible refine C4.out.mono ?_);rintro e w2 ⟨rfl,b2⟩;have rp:=RpW.none (z6.kept b2);have z43:=z4.kept b2;have bb3:=Below.then hbel b2))
  have zg:=rp.hz
  go_wp2_with (first
   |((with_reducible refine Qgl 48 ?_);refine Qla 53 6 (w.heap.size+1+1) aggRep zg rfl ?_)
   |((with_reducible refine Qgs 48 ?_);refine Qsa 53 4 48 (w.heap.size+1) [.slice none 0 0,.slice none 0 0] aggRep z43 rfl rfl (Q27 _ _ _ _ _ _) bb3 (Nat.le_succ _) ?_;intro w9 h9 b9 g9))
  refine bodyPost_ret (Q04 rfl _ _ (w.heap.size+1) aggRep h9 rfl rfl rfl) rfl ?_
  exact RpW.done rp (by simp) z43 h9 g9 hv b9
theorem Qds (a:Option Addr)(n c:Nat)(H:List Hol)(hn:H.length=n)(hN:n≤1048576)(hk:∀ h∈H,h.a.Ok)(hs:∀ h∈H,h.a.s.length≤1048576∧h.a.c.length≤1048576)(k:Int)(A:List UInt8)(hA:A.length=8)(K:Nat)(w:World)(h:RowOf hols 15 w (.slice a n c) H)(hi:∀ h∈H,h.a.In w) :
  Calls Tryz.prog 22 #[.slice a n c,.agg (rqc k A K).toArray] w (SvPost (SvR H A (sumB (wb K)) k) w):=by
 obtain ⟨w1,hw1⟩:∃ w1,w1=(w.alloc (.cells (rqc k A K).toArray 51)).alloc (.cells z2v.toArray 53):=⟨_,rfl⟩
 have hq:Blk 51 w1 w.heap.size (rqc k A K):=by rw [hw1];exact (Blk.new w _ _).alloc _
 have z4:Blk 53 w1 (w.heap.size+1) z2v:=by
  have:=Blk.new (w.alloc (.cells (rqc k A K).toArray 51)) 53 z2v
  simp only [World.size_alloc] at this
  rw [hw1];exact this
 have hbel:Below w.heap.size w w1:=by rw [hw1];exact (Qba _ _).alloc (by simp) _
 have hr:∀ u,Below w1.heap.size w1 u→RowOf hols 15 u (.slice a n c) H:=fun u hu=>(h.below hbel).below hu
 have hI:∀ u,Below w1.heap.size w1 u→∀ p∈H,p.a.In u:=fun u hu p hp=>((hi p hp).below hbel).below hu
 have c1:=fun u hu=>Qej a n c H hn hN hk hs A hA u (hr u hu) (hI u hu)
 have c2:=fun u hu=>Q73 a n c H hn hN hk hs A hA K u (hr u hu) (hI u hu)
 have c3:=Qd0 a n c H hn hk A hA w1 (hr _ (Below.refl _ _)) (hI _ (Below.refl _ _))
 have hbad:=fun V (e:Nat) (g:GetR H (numL A) V e) (he:e≠0)=>SvR.bad (SB:=sumB (wb K)) k g he
 have hrt:=fun V (g:GetR H (numL A) V 0)=>GetR.right g
 have n1:=Qcs H A
 have n2:=fun S E SB=>Qcv S E SB
 have ck:w1.cell? ⟨w.heap.size,0,none⟩=some (.int .i64 k):=hq.cell 0
 obtain ⟨r1,r9⟩:=ranges k hA K hq
 obtain ⟨SB,hSB⟩:∃ B,B=sumB (wb K):=⟨_,rfl⟩
 have hv1:k=1→SvR H A SB k (pvP H A).1 [] (pvP H A).2:=fun e=>.inl ⟨e,rfl,rfl,rfl⟩
 have hv2:k=2→∀ V e,GetR H (numL A) V e→SvR H A SB k (psV V.2.2.2 e SB).1 [] (psV V.2.2.2 e SB).2:=fun e V x g=>.inr (.inl ⟨e,rfl,V,x,g,rfl,rfl⟩)
 have hv3:k=3→∀ V (e:Nat),GetR H (numL A) V e→SvR H A SB k [] V.2.2.1 (e:Int):=fun e V x g=>.inr (.inr (.inl ⟨e,rfl,V,x,g,rfl,rfl⟩))
 have hv4:k≠1→k≠2→k≠3→SvR H A SB k [] [] (if rightB H=true then 30 else 1):=fun e1 e2 e3=>.inr (.inr (.inr ⟨⟨e1,e2,e3⟩,rfl,rfl,rfl⟩))
 rw [←hSB]
 obtain ⟨R,hR⟩:∃ R,R=SvR H A SB k:=⟨_,rfl⟩
 obtain ⟨P,hP⟩:∃ P,P=pvP H A:=⟨_,rfl⟩
 obtain ⟨q,hq'⟩:∃ q,q=rightB H:=⟨_,rfl⟩
 simp only [←hSB] at c2 hbad
 unfold Q52 at c3
 unfold PsPost at c2
 obtain ⟨G,hG⟩:∃ G,G=GetR H (numL A):=⟨_,rfl⟩
 simp only [←hG] at c2 c3 hv2 hv3 hbad hrt
 simp only [←hR] at hv1 hv2 hv3 hv4 hbad ⊢
 simp only [←hP] at c1 n1 hv1
 simp only [←hq'] at hrt hv4
 obtain ⟨PL,PE⟩:=P
 dsimp only at c1 n1 hv1
 have hAl:(by8 A).length=8:=by rw [Q0n];exact hA
 have hKl:=Q0u K
 obtain ⟨AC,hAC⟩:∃ C,C=by8 A:=⟨_,rfl⟩
 obtain ⟨KC,hKC⟩:∃ C,C=wcs K:=⟨_,rfl⟩
 obtain ⟨RT,hRC⟩:∃ C,C=by8 A++wcs K:=⟨_,rfl⟩
 have hRe:rqc k A K=Value.int .i64 k::RT:=by rw [hRC];rfl
 rw [←hAC] at r1 hAl
 simp only [←hAC] at c1 c2 c3
 rw [←hKC] at r9 hKl
 simp only [←hKC] at c2
 rw [hRe] at hw1 hq ⊢
 have hwe:w1=(w.alloc (.cells (Value.int .i64 k::RT).toArray 51)).alloc (.cells #[.slice none 0 0,.slice none 0 0] 53):=hw1
 have HWe:=Qhd hwe
 have HAl:=Qhd hAl
 have HKl:=Qhd hKl
 have C1:=Qhd c1
 have C2:=Qhd c2
 have C3:=Qhd c3
 have Hbad:=Qhd hbad
 have Hrt:=Qhd hrt
 have V1:=Qhd hv1
 have V2:=Qhd hv2
 have V3:=Qhd hv3
 have V4:=Qhd hv4
 have N1:=Qhd n1
 have N2:=Qhd n2
 have hznew:∀ u:World,Blk 28 (u.alloc (.cells #[.int .u64 0,.int .u64 0,.int .u64 0,.int .u64 0,.int .u64 0,.slice none 0 0,.slice none 0 0] 28)) u.heap.size z7:=fun u=>Blk.new u _ z7
 have Hz7:=Qhd hznew
 clear hw1 hwe c1 c2 c3 hbad hrt hv1 hv2 hv3 hv4 n1 n2 hR hP hq' hG hAC hKC hRC hRe hSB hAl hKl hk hs h hi hN hn hr hI hA hznew hq
 go_enter Tryz.func22,Tryz.ntmps22
 go_upto_region 1 with fail
 rw [←HWe.out]
 go_upto_region 2 with (first
  |((with_reducible refine Qgl 12 ?_);refine Qlw 41 11 w.heap.size 1 Q0v HAl.out r1 ?_)
  |(go_at_call 65;(with_reducible refine C3.out.mono ?_);rintro e w2 ⟨B,E,rfl,gG,hIn,b2⟩;have hBl:(accs B).length=7:=rfl;have hBo:=Q3s hIn)
  |((with_reducible refine Qgs 14 ?_);refine Qsa 28 6 14 w2.heap.size (accs B) aggAcc (Hz7.out w2) hBl rfl hBo (Qba w2 _) (Nat.le_refl _) ?_;intro w3 h3 b3 _))
 have b13:=Below.then b2 b3
 have bb3:=Below.then hbel b13
 have z43:=z4.kept b13
 by_cases hE:E=0
 ·subst hE
  obtain ⟨ca,cc,sa,sc,hcv,hsv⟩:=Q0w hIn
  have hC:Bytes w3 B.cv B.c:=(hIn.below b3).1
  rw [hcv] at hC
  have q5:w3.cell? ⟨w2.heap.size,5,none⟩=some (.slice ca B.c.length cc):=by rw [←hcv];exact h3.cell 5
  have hq1:=Hrt.out _ gG
  have w4z:Blk 53 (w3.alloc (.cells #[.slice none 0 0,.slice none 0 0] 53)) w3.heap.size z2v:=Blk.new w3 _ z2v
  have b34:Below w3.heap.size w3 (w3.alloc (.cells #[.slice none 0 0,.slice none 0 0] 53)):=Qba _ _
  have hsz:w.heap.size≤w3.heap.size:=bb3.size
  have hne4:w3.heap.size≠w.heap.size+1:=by have:=z43.lt;omega
  clear hIn hcv hsv hBo hBl h3 b2 b3
  go_upto_region 5 with fail
  obtain ⟨w4,hw4⟩:∃ x,x=w3.alloc (.cells #[.slice none 0 0,.slice none 0 0] 53):=⟨_,rfl⟩
  rw [←hw4] at w4z b34
  rw [←hw4]
  have b14:=Below.then b13 b34
  have ck4:w4.cell? ⟨w.heap.size,0,none⟩=some (.int .i64 k):=(b14.cell (World.block_lt_of_cell? w1 _ ck)).trans ck
  have r14:w4.rangeAt w.heap.size 1 AC:=fun j v hv=>(b14.cell (World.block_lt_of_cell? w1 _ (r1 j v hv))).trans (r1 j v hv)
  have r94:w4.rangeAt w.heap.size 9 KC:=fun j v hv=>(b14.cell (World.block_lt_of_cell? w1 _ (r9 j v hv))).trans (r9 j v hv)
  have q54:w4.cell? ⟨w2.heap.size,5,none⟩=some (.slice ca B.c.length cc):=(b34.cell (World.block_lt_of_cell? w3 _ q5)).trans q5
  have hC4:=RowOf.kept (f:=b8) (size:=1) hC b34
  have z44:=z43.kept b34
  have bb4:=Below.then bb3 b34
  clear hw4 q5 hC z43 bb3 b13 b34 ck r1 r9
  by_cases e1:k=1
  ·subst e1
   have hv:=V1.out rfl
   have C1':=Qhd (C1.out w4 b14)
   go_upto_region 13 with (first
    |((with_reducible refine Qgl 27 ?_);refine Qlw 41 26 w.heap.size 1 Q0v HAl.out r14 ?_)
    |(go_at_call 17;(with_reducible refine C1'.out.mono ?_);intro e w5 m;obtain ⟨v,rfl,⟨xa,xn,xc,ps,rfl,t5,l5⟩,b5⟩:=MkP.tx m;clear m;have z85:=w4z.kept b5;have yz4:=z44.kept b5;have f0:=z85.free 0;have q0:w5.cell? ⟨w3.heap.size,0,none⟩=some (.slice none 0 0):=z85.cell 0;have ybb:=Below.then bb4 b5))
   have rp:=RpW.texts z85 t5 l5 N1.out
   have bb5:=ybb.setCell (p:=⟨w3.heap.size,0,none⟩) hsz (.slice xa xn xc)
   have z43:=yz4.other ⟨w3.heap.size,0,none⟩ hne4 (.slice xa xn xc)
   obtain ⟨w6,hw6⟩:∃ x,x=w5.setCell ⟨w3.heap.size,0,none⟩ (.slice xa xn xc):=⟨_,rfl⟩
   rw [←hw6] at rp bb5 z43
   rw [←hw6]
   clear hw6
   have zg:=rp.hz
   go_wp2_with (first
    |((with_reducible refine Qgl 49 ?_);refine Qla 53 8 w3.heap.size aggRep zg rfl ?_)
    |((with_reducible refine Qgs 49 ?_);refine Qsa 53 4 49 (w.heap.size+1) [.slice xa xn xc,.slice none 0 0] aggRep z43 rfl rfl (Q27 _ _ _ _ _ _) bb5 (Nat.le_succ _) ?_;intro w9 h9 b9 g9))
   refine bodyPost_ret (Q04 rfl _ _ (w.heap.size+1) aggRep h9 rfl rfl rfl) rfl ?_
   exact RpW.done rp N1.out z43 h9 g9 hv b9
  by_cases e2:k=2
  ·subst e2
   have hv2:=V2.out rfl
   have C2':=Qhd (C2.out w4 b14)
   go_upto_region 13 with (first
    |((with_reducible refine Qgl 37 ?_);refine Qlw 41 36 w.heap.size 1 Q0v HAl.out r14 ?_)
    |((with_reducible refine Qgl 39 ?_);refine Qlw 24 38 w.heap.size 9 Q0f HKl.out r94 ?_)
    |(go_at_call 19;(with_reducible refine C2'.out.mono ?_);intro e w5 m;obtain ⟨V,x,gV,m2⟩:=m;obtain ⟨v,rfl,⟨xa,xn,xc,ps,rfl,t5,l5⟩,b5⟩:=MkP.tx m2;clear m2;have hv:=hv2 V x gV;have hne:=N2.out V.2.2.2 x SB;obtain ⟨F,hF⟩:∃ F,F=psV V.2.2.2 x SB:=⟨_,rfl⟩;rw [←hF] at hv hne l5;rw [←hF];clear hF gV;obtain ⟨FL,FE⟩:=F;(dsimp only at hv hne l5 ⊢);have z85:=w4z.kept b5;have yz4:=z44.kept b5;have f0:=z85.free 0;have q0:w5.cell? ⟨w3.heap.size,0,none⟩=some (.slice none 0 0):=z85.cell 0;have ybb:=Below.then bb4 b5))
   have rp:=RpW.texts z85 t5 l5 hne
   have bb5:=ybb.setCell (p:=⟨w3.heap.size,0,none⟩) hsz (.slice xa xn xc)
   have z43:=yz4.other ⟨w3.heap.size,0,none⟩ hne4 (.slice xa xn xc)
   obtain ⟨w6,hw6⟩:∃ x,x=w5.setCell ⟨w3.heap.size,0,none⟩ (.slice xa xn xc):=⟨_,rfl⟩
   rw [←hw6] at rp bb5 z43
   rw [←hw6]
   clear hw6
   have zg:=rp.hz
   go_wp2_with (first
    |((with_reducible refine Qgl 49 ?_);refine Qla 53 8 w3.heap.size aggRep zg rfl ?_)
    |((with_reducible refine Qgs 49 ?_);refine Qsa 53 4 49 (w.heap.size+1) [.slice xa xn xc,.slice none 0 0] aggRep z43 rfl rfl (Q27 _ _ _ _ _ _) bb5 (Nat.le_succ _) ?_;intro w9 h9 b9 g9))
   refine bodyPost_ret (Q04 rfl _ _ (w.heap.size+1) aggRep h9 rfl rfl rfl) rfl ?_
   exact RpW.done rp hne z43 h9 g9 hv b9
  by_cases e3:k=3
  ·subst e3
   have hv:R [] B.c 0:=V3.out rfl B.val 0 gG
   have f1:=w4z.free 1
   have q1:w4.cell? ⟨w3.heap.size,1,none⟩=some (.slice none 0 0):=w4z.cell 1
   go_upto_region 13 with fail
   have rp:=RpW.code w4z hC4
   have ybb:=bb4
   have yz4:=z44
   obtain ⟨w5,hw5⟩:∃ x,x=w4:=⟨_,rfl⟩
   rw [←hw5] at rp ybb yz4
   rw [←hw5]
   have bb5:=ybb.setCell (p:=⟨w3.heap.size,1,none⟩) hsz (.slice ca B.c.length cc)
   have z43:=yz4.other ⟨w3.heap.size,1,none⟩ hne4 (.slice ca B.c.length cc)
   obtain ⟨w6,hw6⟩:∃ x,x=w5.setCell ⟨w3.heap.size,1,none⟩ (.slice ca B.c.length cc):=⟨_,rfl⟩
   rw [←hw6] at rp bb5 z43
   rw [←hw6]
   clear hw6
   have zg:=rp.hz
   go_wp2_with (first
    |((with_reducible refine Qgl 49 ?_);refine Qla 53 8 w3.heap.size aggRep zg rfl ?_)
    |((with_reducible refine Qgs 49 ?_);refine Qsa 53 4 49 (w.heap.size+1) [.slice none 0 0,.slice ca B.c.length cc] aggRep z43 rfl rfl (Q27 _ _ _ _ _ _) bb5 (Nat.le_succ _) ?_;intro w9 h9 b9 g9))
   refine bodyPost_ret (Q04 rfl _ _ (w.heap.size+1) aggRep h9 rfl rfl rfl) rfl ?_
   exact RpW.done rp (by simp) z43 h9 g9 hv b9
  have k1:(k==1)=false:=beq_eq_false_iff_ne.2 e1
  have k2:(k==2)=false:=beq_eq_false_iff_ne.2 e2
  have k3:(k==3)=false:=beq_eq_false_iff_ne.2 e3
  have hv:=V4.out e1 e2 e3
  rw [if_pos hq1] at hv
  go_upto_region 13 with fail
  have rp:=RpW.none w4z
  have bb5:=bb4
  have z43:=z44
  have zg:=rp.hz
  go_wp2_with (first
   |((with_reducible refine Qgl 49 ?_);refine Qla 53 8 w3.heap.size aggRep zg rfl ?_)
   |((with_reducible refine Qgs 49 ?_);refine Qsa 53 4 49 (w.heap.size+1) [.slice none 0 0,.slice none 0 0] aggRep z43 rfl rfl (Q27 _ _ _ _ _ _) bb5 (Nat.le_succ _) ?_;intro w9 h9 b9 g9))
  refine bodyPost_ret (Q04 rfl _ _ (w.heap.size+1) aggRep h9 rfl rfl rfl) rfl ?_
  exact RpW.done rp (by simp) z43 h9 g9 hv b9
 ·have hEi:((E:Int)==0)=false:=beq_eq_false_iff_ne.2 (by omega)
  have hbad:=Hbad.out _ _ gG hE
  have rp:=RpW.none (g:=w.heap.size+1) z43
  go_wp2_with ((with_reducible refine Qgs 18 ?_);refine Qsa 53 4 18 (w.heap.size+1) z2v aggRep z43 rfl rfl (Q27 _ _ _ _ _ _) bb3 (Nat.le_succ _) ?_;intro w9 h9 b9 g9)
  refine bodyPost_ret (Q04 rfl _ _ (w.heap.size+1) aggRep h9 rfl rfl rfl) rfl ?_
  exact ⟨[],[],_,none,0,0,[],none,0,0,rfl,hbad,Texts.nil _,rfl,RowOf.nil b8 1 _,b9⟩
theorem Q72 (a b:Option Addr)(n c d:Nat)(ps qs:List (Value × List UInt8))(ca cb:Option Addr)(cn cc cd:Nat)(C:List UInt8)(hN:n≤1048576)(he:ps.map (·.2)=qs.map (·.2))(w:World)(hp:Texts w (.slice a n c) ps)(hq:Texts w (.slice b n d) qs)(hc:Bytes w (.slice ca cn cc) C)(hd:Bytes w (.slice cb cn cd) C) :
  Calls Tryz.prog 23 #[.agg #[.slice a n c,.slice ca cn cc],.agg #[.slice b n d,.slice cb cn cd]] w fun e w'=>e=.returned (.bool true)∧Below w.heap.size w w':=by
 obtain ⟨w1,hw1⟩:∃ w1,w1=(w.alloc (.cells [Value.slice a n c,.slice ca cn cc].toArray 53)).alloc (.cells [Value.slice b n d,.slice cb cn cd].toArray 53):=⟨_,rfl⟩
 have z1:Blk 53 w1 w.heap.size [.slice a n c,.slice ca cn cc]:=by rw [hw1];exact (Blk.new w _ _).alloc _
 have z2:Blk 53 w1 (w.heap.size+1) [.slice b n d,.slice cb cn cd]:=by
  have:=Blk.new (w.alloc (.cells [Value.slice a n c,.slice ca cn cc].toArray 53)) 53 [.slice b n d,.slice cb cn cd]
  simp only [World.size_alloc] at this
  rw [hw1];exact this
 have hbel:Below w.heap.size w w1:=by rw [hw1];exact (Qba _ _).alloc (by simp) _
 have c0:w1.cell? ⟨w.heap.size,0,none⟩=some (.slice a n c):=z1.cell 0
 have d0:w1.cell? ⟨w.heap.size+1,0,none⟩=some (.slice b n d):=z2.cell 0
 have hpn:ps.length=n:=hp.1.fits.1.symm
 have hqn:qs.length=n:=hq.1.fits.1.symm
 have cs:=Q87 a b n c d ps qs hpn hqn hN w1 (hp.below hbel) (hq.below hbel) he
 have hb:(C==C)=true:=beq_self_eq_true _
 have k1:∀ u,Below w1.heap.size w1 u→u.cell? ⟨w.heap.size,1,none⟩=some (.slice ca cn cc):=fun u hu=>(z1.kept hu).cell 1
 have k2:∀ u,Below w1.heap.size w1 u→u.cell? ⟨w.heap.size+1,1,none⟩=some (.slice cb cn cd):=fun u hu=>(z2.kept hu).cell 1
 have s1:∀ u,Below w1.heap.size w1 u→_:=fun u hu=>Q0h (P:=Tryz.prog) (src:=25) (dst:=9) elU8.ht (by kernel_rfl) (by kernel_rfl) ((hc.below hbel).below hu)
 have s2:∀ u,Below w1.heap.size w1 u→_:=fun u hu=>Q0h (P:=Tryz.prog) (src:=25) (dst:=9) elU8.ht (by kernel_rfl) (by kernel_rfl) ((hd.below hbel).below hu)
 have Cs:=Qhd cs
 have HWe:=Qhd hw1
 have K1:=Qhd k1
 have K2:=Qhd k2
 have S1:=Qhd s1
 have S2:=Qhd s2
 clear hw1 cs k1 k2 s1 s2 hc hd hp hq he hN hpn hqn z1 z2
 go_enter Tryz.func23,Tryz.ntmps23
 go_wp2_with (first
  |(rw [←HWe.out])
  |(go_at_call 20;(with_reducible refine Cs.out.mono ?_);rintro e w2 ⟨rfl,b2⟩;have k1:=K1.out w2 b2;have k2:=K2.out w2 b2;have s1:=S1.out w2 b2;have s2:=S2.out w2 b2))
 go_ret
 exact ⟨rfl,Below.then hbel b2⟩
end Go.Proofs.YtbdmkfjgnjfjbaaGreat
