/- Pairs in the making; world.slotTree, the reference's sumKey and oslots. | The reference's oslots. | A struct is built out of its parts; '==' and 'build' in plai -/
import Derived.Test.YtbdmkfjgnjfjbaaGreatLazyServesK30
import Derived.Test.YtbdmkfjgnjfjbaaGreatLazyServesK31
import Derived.Test.YtbdmkfjgnjfjbaaGreatLazyServesK32
import Derived.Test.YtbdmkfjgnjfjbaaGreatLazyServesK08
import Derived.Test.YtbdmkfjgnjfjbaaGreatLazyServesK22
import Derived.Test.YtbdmkfjgnjfjbaaGreatLazyServesK01
import Derived.Test.YtbdmkfjgnjfjbaaGreatLazyServesK20
import Derived.Deep.Cut
import Derived.Deep.CutBlock
set_option linter.unusedSimpArgs false
set_option linter.unusedVariables false
set_option maxHeartbeats 4000000
set_option maxRecDepth 100000
namespace Go.Proofs.YtbdmkfjgnjfjbaaGreat
open Go.RowKit
def FrN (pv v:Value)(t:List UInt8)(u:World):Prop:=Bytes u v t∧∀ k,v.ownBlock=some k→k<u.heap.size∧pv.ownBlock≠some k
theorem FrN.kept {pv v:Value}{t:List UInt8}{u u':World}(h:FrN pv v t u)(hb:Below u.heap.size u u'):FrN pv v t u' :=
 ⟨RowOf.kept (f:=b8) (size:=1) h.1 hb,fun k hk=>⟨Nat.lt_of_lt_of_le (h.2 k hk).1 hb.size,(h.2 k hk).2⟩⟩
theorem FrN.grew {pv pv' v:Value}{t:List UInt8}{u u':World}(h:FrN pv v t u)(hg:u.grownBy u' pv.ownBlock)(hp:∀ k,pv'.ownBlock=some k→pv.ownBlock=some k∨u.heap.size≤k):FrN pv' v t u' :=
 ⟨RowOf.grownT (f:=b8) (size:=1) h.1 hg (fun k hk=>(h.2 k hk).1) (fun k hk=>(h.2 k hk).2),fun k hk=>⟨Nat.lt_of_lt_of_le (h.2 k hk).1 hg.size,fun e=>(hp k e).elim (h.2 k hk).2 (fun h1=>by have:=(h.2 k hk).1;omega)⟩⟩
theorem FrT.frn {B:Nat}{t:List UInt8}{pv v:Value}{u:World}(h:FrT B t v u)(hB:∀ k,pv.ownBlock=some k→k<B):FrN pv v t u :=
 ⟨h.1,fun k hk=>⟨(h.2 k hk).2,fun e=>by have h1:=hB k e;have h2:=(h.2 k hk).1;omega⟩⟩
structure PrW (w0:World)(pv:Value)(ps:List Kvp)(u:World):Prop where
 hb:Below w0.heap.size w0 u
 hO:OwnOf kvc 2 107 u w0.heap.size pv ps
 hF:∀ p∈ps,FrN pv p.kv p.k u∧FrN pv p.vv p.v u
theorem PrW.kept {w0 u u':World}{pv:Value}{ps:List Kvp}(h:PrW w0 pv ps u)(hb:Below u.heap.size u u'):PrW w0 pv ps u' :=
 ⟨Below.then h.hb hb,h.hO.kept hb,fun p hp=>⟨(h.hF p hp).1.kept hb,(h.hF p hp).2.kept hb⟩⟩
theorem PrW.grew {w0 u u':World}{pv pv':Value}{ps:List Kvp}{p:Kvp}{B:Nat}(h:PrW w0 pv ps u)(hg:u.grownBy u' pv.ownBlock)(hO:OwnOf kvc 2 107 u' w0.heap.size pv' (ps++[p]))(hp:∀ k,pv'.ownBlock=some k→pv.ownBlock=some k∨u.heap.size≤k)(hB:∀ k,pv.ownBlock=some k→k<B)(hk:FrT B p.k p.kv u)(hv:FrT B p.v p.vv u):PrW w0 pv' (ps++[p]) u':=by
 refine ⟨h.hb.grown hg h.hb.size (fun k hk=>h.hO.lt k hk),hO,fun q hq=>?_⟩
 rcases List.mem_append.1 hq with hq|hq
 ·exact ⟨(h.hF q hq).1.grew hg hp,(h.hF q hq).2.grew hg hp⟩
 ·rw [List.mem_singleton] at hq;subst hq
  exact ⟨(hk.frn hB).grew hg hp,(hv.frn hB).grew hg hp⟩
theorem PrW.is {w0 u:World}{pv:Value}{ps:List Kvp}(h:PrW w0 pv ps u):∀ p∈ps,IsKv u p:=fun p hp=>⟨(h.hF p hp).1.1,(h.hF p hp).2.1⟩
theorem PrW.start {w0 u:World}(h:Below w0.heap.size w0 u):PrW w0 (.slice none 0 0) [] u:=⟨h,OwnOf.nil kvc 2 _ _ _,by simp⟩
theorem elPair:El0 Tryz.prog 105 107 (.agg #[.slice none 0 0,.slice none 0 0]) 2 48 kvc:=⟨by kernel_rfl,by kernel_rfl,rfl,by omega,Q8p⟩
def PrT (B:Nat)(k t:List UInt8):Ty:=fun v w=>∃ a n c a' n' c',v=.agg #[.slice a n c,.slice a' n' c']∧FrT B k (.slice a n c) w∧FrT B t (.slice a' n' c') w
theorem PrT.mono (B:Nat)(k t:List UInt8):Mono (PrT B k t):=fun _ _ _ ⟨a,n,c,a',n',c',h1,h2,h3⟩ hb=>⟨a,n,c,a',n',c',h1,FrT.mono _ _ _ _ _ h2 hb,FrT.mono _ _ _ _ _ h3 hb⟩
def OneP (B:Nat)(k t:List UInt8):Ty:=fun u w=>∃ g a n c a' n' c',u=.slice (some ⟨g,0,none⟩) 1 1∧RowOf kvc 2 w u [⟨.slice a n c,k,.slice a' n' c',t⟩]∧FrT B k (.slice a n c) w∧FrT B t (.slice a' n' c') w
theorem OneP.mono (B:Nat)(k t:List UInt8):Mono (OneP B k t):=fun _ _ _ ⟨g,a,n,c,a',n',c',h1,h2,h3,h4⟩ hb=>⟨g,a,n,c,a',n',c',h1,RowOf.kept h2 hb,FrT.mono _ _ _ _ _ h3 hb,FrT.mono _ _ _ _ _ h4 hb⟩
theorem Q5d {w:World}{B:Nat}{k t:List UInt8}{a a':Option Addr}{n c n' c':Nat}(hk:FrT B k (.slice a n c) w)(ht:FrT B t (.slice a' n' c') w):Below w.heap.size w (w.alloc (.cells #[.slice a n c,.slice a' n' c'] 107))∧OneP B k t (.slice (some ⟨w.heap.size,0,none⟩) 1 1) (w.alloc (.cells #[.slice a n c,.slice a' n' c'] 107)):=by
 have hb:Below w.heap.size w (w.alloc (.cells #[.slice a n c,.slice a' n' c'] 107)):=Qba _ _
 exact ⟨hb,w.heap.size,a,n,c,a',n',c',rfl,Row.built Q8p w 107 [⟨.slice a n c,k,.slice a' n' c',t⟩] 1 rfl (by unfold maxLen;omega),FrT.mono _ _ _ _ _ hk hb,FrT.mono _ _ _ _ _ ht hb⟩
theorem Q5c {e:TypeId}{w:World}{B:Nat}{pv:Value}{ps:List Kvp}(h:OwnOf kvc 2 e w B pv ps):∃ a n c,pv=.slice a n c∧n=ps.length:=by
 obtain ⟨a,c,rfl,_⟩:=h.form
 exact ⟨a,_,c,rfl,rfl⟩
theorem Qbk {w:World}{g B:Nat}{l:List UInt8}(h:Blk 30 w g (l.map u8v))(hl:l.length=32)(hB:B≤g):FrT B l (.slice (some ⟨g,0,none⟩) 32 32) w :=
 ⟨Q1u h hl,fun k hk=>by simp only [Value.ownBlock,Option.some.injEq] at hk;subst hk;exact ⟨hB,h.lt⟩⟩
def sKV (S:List (Nat × Nat)):Kvl:=S.map fun p=>(sumB (wb p.1),numB p.2)
def trS (S:List (Nat × Nat)):Pn:=(bldQ (sKV S)).1
def NdPost (T:Pn)(w:World)(e:Ending)(w':World):Prop:=∃ y:Nd,e=.returned (.agg (Q03 y).toArray)∧OwnNd w' w.heap.size y∧erN y=T∧Below w.heap.size w w'
theorem u8_one (l:List UInt8):∀ u∈l.map u8v,u.oneCell'=true:=by
 intro u hu
 obtain ⟨x,_,rfl⟩:=List.mem_map.1 hu
 rfl
theorem Q54 (a:Option Addr)(n c:Nat)(S:List (Nat × Nat))(hn:S.length=n)(hN:n≤1048576)(w:World)(h:RowOf spc 8 w (.slice a n c) S) :
  Calls Tryz.prog 36 #[.slice a n c] w (NdPost (trS S) w):=by
 obtain ⟨w1,hw1⟩:∃ w1,w1=w.alloc (.cells (Q03 zN).toArray 70):=⟨_,rfl⟩
 have hz:Blk 70 w1 w.heap.size (Q03 zN):=by rw [hw1];exact Blk.new w _ _
 have hbel:Below w.heap.size w w1:=by rw [hw1];exact Qba _ _
 have hwe:w1=w.alloc (.cells #[.int .i64 0,.slice none 0 0,.slice none 0 0,.slice none 0 0] 70):=by rw [hw1];rfl
 have Hwe:=Qhd hwe
 have hzl:(Q03 zN).length=4:=rfl
 have Hn:=Qhd hn
 have H:=Qhd (h.below hbel)
 clear hw1 hwe h hn
 go_enter Tryz.func36,Tryz.ntmps36
 go_wp2_with fail
 rw [show w.alloc (.cells #[.int .i64 0,.slice none 0 0,.slice none 0 0,.slice none 0 0] 70)=w1 from Hwe.out.symm]
 go_loopw [3,12] (fun px ix wr=>∃ (i:Nat) (ps:List Kvp),i≤n∧ix=.int .i64 (i:Int)∧PrW w1 px ps wr∧ps.map kvo=sKV (S.take i)) (fun _ ix _=>n - (intOf ix).toNat)
 case atStart=>exact ⟨0,[],by omega,rfl,PrW.start (Below.refl _ _),rfl⟩
 case round =>
  obtain ⟨i,ps,hii,rfl,F,hps⟩:=hrel
  obtain ⟨wo,rfl⟩:∃ x,x=wr:=⟨wr,rfl⟩
  have bb1:=Below.then hbel F.hb
  have zz:=hz.kept F.hb
  have hpl:ps.length=i:=by have:=congrArg List.length hps;simpa [sKV,Hn.out,hii] using this
  obtain ⟨pa,pn,pc,rfl,hpn⟩:=Q5c F.hO
  have hpn2:pn=i:=by rw [hpn,hpl]
  subst hpn2
  by_cases hlt:pn<n
  ·have hki:(pn:Int)<(n:Int):=by omega
   have hil:pn<S.length:=by rw [Hn.out];exact hlt
   obtain ⟨b1,o1,rfl,r1⟩:=RowOf.range Q26 (H.out.below F.hb) pn hil
   have hstep:sKV (S.take (pn+1))=sKV (S.take pn)++[(sumB (wb S[pn].1),numB S[pn].2)]:=by
    unfold sKV
    rw [List.take_succ_eq_append_getElem hil,List.map_append];rfl
   have hwi:IntKind.i64.wrap ((pn:Int)+1)=((pn+1:Nat):Int):=by rw [IntWalk.i64_in _ (by omega)];omega
   obtain ⟨p,hp⟩:∃ p,p=S[pn]:=⟨_,rfl⟩
   rw [←hp] at r1 hstep
   obtain ⟨X,Y⟩:=p
   dsimp only at hstep
   have cb:∀ u:World,Calls Tryz.prog 64 #[.agg (wcs X).toArray] u fun e w'=>e=.returned (.agg ((wb X).map u8v).toArray)∧Below u.heap.size u w':=fun u=>Q6s X u
   have cm:∀ u:World,Calls Tryz.prog 50 #[.agg (wcs Y).toArray] u _:=fun u=>Q8j Y u
   have hsc:spc (X,Y)=wcs X++wcs Y:=rfl
   obtain ⟨x0,x1,x2,x3,hX⟩:∃ a0 a1 a2 a3:Int,wcs X=[.int .u64 a0,.int .u64 a1,.int .u64 a2,.int .u64 a3]:=⟨_,_,_,_,rfl⟩
   obtain ⟨y0,y1,y2,y3,hY⟩:∃ a0 a1 a2 a3:Int,wcs Y=[.int .u64 a0,.int .u64 a1,.int .u64 a2,.int .u64 a3]:=⟨_,_,_,_,rfl⟩
   rw [hX] at cb
   rw [hY] at cm
   rw [hsc,hX,hY] at r1
   obtain ⟨KB,hKB⟩:∃ B,B=wb X:=⟨_,rfl⟩
   have hKl:KB.length=32:=by rw [hKB];exact wb_len X
   obtain ⟨VB,hVB⟩:∃ B,B=numB Y:=⟨_,rfl⟩
   rw [←hKB] at cb hstep
   rw [←hVB] at cm hstep
   have cs:∀ (g:Nat) (u:World),Blk 30 u g (KB.map u8v)→Calls Tryz.prog 37 #[.slice (some ⟨g,0,none⟩) 32 32] u fun e w'=>e=.returned (.agg ((sumB KB).map u8v).toArray)∧Below u.heap.size u w':=fun g u hu=>Q3w (some ⟨g,0,none⟩) 32 32 KB hKl u (Q1u hu hKl)
   have hSl:(sumB KB).length=32:=Q0i _
   obtain ⟨SB,hSB⟩:∃ B,B=sumB KB:=⟨_,rfl⟩
   rw [←hSB] at cs hSl hstep
   have hr2:wo.rangeAt b1 (o1+pn*8) [.int .u64 x0,.int .u64 x1,.int .u64 x2,.int .u64 x3,.int .u64 y0,.int .u64 y1,.int .u64 y2,.int .u64 y3]:=r1
   obtain ⟨w2,hw2⟩:∃ w2,w2=wo.alloc (.cells #[.int .u64 x0,.int .u64 x1,.int .u64 x2,.int .u64 x3,.int .u64 y0,.int .u64 y1,.int .u64 y2,.int .u64 y3] 102):=⟨_,rfl⟩
   have zp:Blk 102 w2 wo.heap.size [.int .u64 x0,.int .u64 x1,.int .u64 x2,.int .u64 x3,.int .u64 y0,.int .u64 y1,.int .u64 y2,.int .u64 y3]:=by rw [hw2];exact Blk.new wo _ _
   have b2:Below wo.heap.size wo w2:=by rw [hw2];exact Qba _ _
   have hlo:∀ k,(Value.slice pa pn pc).ownBlock=some k→k<wo.heap.size:=fun k hk=>Q4t F.hO hk
   have hKl2:(KB.map u8v).length=32:=by rw [List.length_map];exact hKl
   have hSl2:(SB.map u8v).length=32:=by rw [List.length_map];exact hSl
   have HKo:=Qhd (u8_one KB)
   have HSo:=Qhd (u8_one SB)
   obtain ⟨KC,hKC⟩:∃ K,K=KB.map u8v:=⟨_,rfl⟩
   obtain ⟨SC,hSC⟩:∃ K,K=SB.map u8v:=⟨_,rfl⟩
   rw [←hKC] at cb cs hKl2 HKo
   rw [←hSC] at cs hSl2 HSo
   have Cb:=Qhd cb
   have Cm:=Qhd cm
   have Cs:=Qhd cs
   have Hr2:=Qhd hr2
   have Hst:=Qhd hstep
   have Hw2:=Qhd hw2
   have Hps:=Qhd hps
   have HSC:=Qhd hSC
   have Hlo:=Qhd hlo
   clear cb cm cs r1 hr2 hstep hw2 hp hlt hil hps hX hY hKB hVB hSB hsc hKl hKC hSC hlo hpn hpl
   go_upto_region 7 with (first
    |(refine Qlw 102 14 b1 (o1+pn*8) Q28 (by rfl) Hr2.out ?_)
    |(go_at_call 64;rw [←Hw2.out];(with_reducible refine (Cb.out _).mono ?_);rintro e w3 ⟨rfl,b3⟩;have n3:=Blk.new w3 30 zh)
    |((with_reducible refine Qgs 18 ?_);refine Qsa 30 6 18 w3.heap.size KC Q0l n3 hKl2 (by rfl) HKo.out (Qba w3 _) (Nat.le_refl _) ?_;intro w4 h4 b4 _;have s4:=sl32 w3.heap.size 0 w4;have b24:=Below.then b3 b4)
    |(go_at_call 37;(with_reducible refine (Cs.out _ _ h4).mono ?_);rintro e w5 ⟨rfl,b5⟩;have n5:=Blk.new w5 30 zh)
    |((with_reducible refine Qgs 20 ?_);refine Qsa 30 7 20 w5.heap.size SC Q0l n5 hSl2 (by rfl) HSo.out (Qba w5 _) (Nat.le_refl _) ?_;intro w6 h6 b6 _;have b26:=Below.then b24 (Below.then b5 b6);have hs56:w2.heap.size≤w5.heap.size:=(Nat.le_trans b24.size b5.size)))
   have zp6:=zp.kept b26
   have bo6:=Below.then b2 b26
   have F6:=F.kept bo6
   have hso:=b2.size
   have hfr:FrT wo.heap.size SB (.slice (some ⟨w5.heap.size,0,none⟩) 32 32) w6:=Qbk (by rw [←HSC.out];exact h6) hSl (by omega)
   have Hfr:Hid (∀ u,Below w6.heap.size w6 u→FrT wo.heap.size SB (.slice (some ⟨w5.heap.size,0,none⟩) 32 32) u):=Qhd fun u hu=>FrT.mono _ _ _ _ _ hfr hu
   have s32:=fun off u=>sl32 w5.heap.size off u
   have k4:=fun u:Ext w6=>u.cell ((zp6.cell 4).trans (show _=some (Value.int .u64 y0) from rfl))
   have k5:=fun u:Ext w6=>u.cell ((zp6.cell 5).trans (show _=some (Value.int .u64 y1) from rfl))
   have k6:=fun u:Ext w6=>u.cell ((zp6.cell 6).trans (show _=some (Value.int .u64 y2) from rfl))
   have k7:=fun u:Ext w6=>u.cell ((zp6.cell 7).trans (show _=some (Value.int .u64 y3) from rfl))
   have hso6:=bo6.size
   clear zp zp6 b2 b26 F hso hfr s4 n3 n5 h4 h6 b3 b4 b5 b6 b24 hs56 bo6
   refine Q02 w6 7 (by kernel_rfl) (by kernel_rfl) (Below.refl _ _) ?_;simp only [List.take_succ_cons,List.take_zero,List.take_nil]
   iterate 4 (refine Q01 (by rfl) (fun K hK=>?_);go_simp;refine hK _ ?_;clear hK K)
   refine Q07 25 (FrT wo.heap.size VB) rfl (of_decide_eq_true rfl) (FrT.mono _ _) (fun w7 hw7=>?_) ?_
   ·simp only [relOf,List.filter_nil,List.filter_cons,Q00]
    try simp only [Q00]
    refine ⟨rfl,?_⟩
    go_simp
    refine (Cm.out w7).mono ?_
    rintro e w8 ⟨v,rfl,o8,b8⟩
    exact ⟨v,rfl,(FrT.own o8).lower (by have:=hw7.size;omega),b8⟩
   refine Q07 26 (PrT wo.heap.size SB VB) rfl (of_decide_eq_true rfl) (PrT.mono _ _ _) (fun w7 hw7=>?_) ?_
   ·change Q00 w7 [(25,_)] _ _
    intro v25 h25
    obtain ⟨a25,c25,rfl,_⟩:=h25.1.form
    simp only [Q00]
    refine ⟨rfl,?_⟩
    go_simp
    exact ⟨Below.refl _ _,_,_,_,_,_,_,rfl,Hfr.out w7 hw7,h25⟩
   refine Q07 27 (OneP wo.heap.size SB VB) rfl (of_decide_eq_true rfl) (OneP.mono _ _ _) (fun w7 hw7=>?_) ?_
   ·change Q00 w7 [(26,_)] _ _
    rintro v26 ⟨qa,qn,qc,qa',qn',qc',rfl,h1,h2⟩
    simp only [Q00]
    refine ⟨rfl,?_⟩
    go_simp
    exact Q5d h1 h2
   refine Q09 ?_
   intro u3 hb3 v25 _ v26 _ v27 h27
   change wpList _ _ _ [_,_] _ _
   obtain ⟨g27,ka,kn,kc,va,vn,vc,rfl,r27,fk,fv⟩:=h27
   have F3:=F6.kept hb3
   clear k4 k5 k6 k7 s32 F6
   simp only [Act.put,Qzs]
   go_wp2_with (refine Q0g (o:=⟨some 28,_,_,_,_,_⟩) (by rfl) (.tmp 21) (.tmp 27) 105 (by rfl) elPair (by intro u hu;simp [kvc] at hu;rcases hu with rfl|rfl<;>rfl) (by rfl) F3.hO (by rfl) r27 F3.hb.size (by have:=F3.hO.row.fits.1;simp only [List.length_singleton];omega) (by have:=F3.hO.row.fits.1;unfold maxLen;simp only [List.length_singleton];omega) ?_;intro v5 w5' hO5 gg5 pp5;have F5:=F3.grew gg5 hO5 pp5 Hlo.out fk fv)
   go_roundw
   case rel=>exact ⟨pn+1,_,by omega,by go_num,F5,by rw [List.map_append,Hps.out,Hst.out];rfl⟩
   case measure=>simp [intOf];omega
  ·obtain rfl:n=pn:=by omega
   have htk:S.take n=S:=by rw [←Hn.out,List.take_length]
   rw [htk] at hps
   have cO:=of_own pa n pc ps hpl hN wo F.hO.row F.is
   have hT:(bldP ps).1=trS S:=by rw [bldP_Q,hps];rfl
   unfold PnOwn at cO
   rw [hT] at cO
   obtain ⟨T,hTT⟩:∃ T,T=trS S:=⟨_,rfl⟩
   rw [←hTT] at cO
   have HTT:=Qhd hTT
   have CO:=Qhd cO
   have hs5:w.heap.size<wo.heap.size:=zz.lt
   clear cO hT hlt hps hpl hpn F htk hTT
   go_wp2_with (first
    |(go_at_call 76;(with_reducible refine CO.out.mono ?_);rintro e w6 ⟨y,rfl,oy,ey,b6⟩;have bb6:=Below.then bb1 b6;have zz6:=zz.kept b6;have hone2:=oy.is.one;have hlen:=Q06 y)
    |((with_reducible refine Qgs 33 ?_);refine Qsa 70 8 33 w6.heap.size (Q03 y) Q05 (Blk.new w6 70 (Q03 zN)) hlen (by rfl) hone2 (Qba w6 _) (Nat.le_refl _) ?_;intro w7 h7 b7 _;have bb7:=Below.then bb6 b7;have zz7:=zz6.kept b7;have oy7:=oy.kept b7;have r7:=h7.all0)
    |((with_reducible refine Qgl 35 ?_);refine Qlw 70 8 w6.heap.size 0 Q05 hlen r7 ?_)
    |((with_reducible refine Qgs 35 ?_);refine Qsa 70 2 35 w.heap.size (Q03 y) Q05 zz7 hlen hzl hone2 bb7 (Nat.le_refl _) ?_;intro w8 h8 b8 g8))
   exact bodyPost_ret (Q0b rfl _ _ w.heap.size Q05 h8 hlen rfl) rfl ⟨y,rfl,(oy7.off g8 hs5).lower bb1.size,by rw [ey,HTT.out],b8⟩
theorem Qgf (N:Nat)(w:World) :
  Calls Tryz.prog 53 #[wv N] w (WrPost (numB N) w):=by
 have hb0:=boxW w N
 have hbel0:Below w.heap.size w (w.alloc (.cells (wcs N).toArray 24)):=Qba _ _
 show Calls Tryz.prog 53 #[.agg (wcs N).toArray] w _
 go_enter Tryz.func53,Tryz.ntmps53
 go_wp2_with (first
  |(refine Q14 rfl 24 (.tmp 1) rfl w.heap.size rfl Q0f hb0 (Q0u _) ?_)
  |(go_at_call 66;refine (Q1s N _).mono ?_;rintro e w2 ⟨v,rfl,hv,b2⟩;obtain ⟨a,c,rfl,_⟩:=hv.form' 32 (wb_len N)))
 have hbel2:=hbel0.trans (b2.mono hbel0.size)
 have hr:Bytes w2 (.slice a 32 c) (wb N):=hv.row
 have hfr:∀ k,(Value.slice a 32 c).ownBlock=some k→w.heap.size≤k∧k<w2.heap.size:=fun k hk=>⟨by have:=hv.lt k hk;simp at this;omega,Q4t hv hk⟩
 have Hfr:=Qhd hfr
 clear hbel0 b2 hv hb0 hfr
 go_loop [4,5,10] (fun _ _ i=>∃ k:Nat,k≤32∧i=.int .i64 (k:Int)∧numB N=bare ((wb N).drop k)) (fun _ _ i=>32 - (intOf i).toNat)
 case atStart=>exact ⟨0,by omega,rfl,rfl⟩
 case round =>
  obtain ⟨k,hk,rfl,hbare⟩:=hrel
  by_cases hlt:k<32
  ·obtain ⟨b,off,rfl,hc⟩:=hr.at k (by rw [wb_len];exact hlt)
   rw [List.drop_eq_getElem_cons (by rw [wb_len];exact hlt)] at hbare
   obtain ⟨x,hx⟩:∃ x,x=(wb N)[k]'(by rw [wb_len];exact hlt):=⟨_,rfl⟩
   rw [←hx] at hc hbare
   have hki:(k:Int)<32:=by omega
   by_cases h0:x=0
   ·subst h0
    rw [Q24] at hbare
    have Hb:=Qhd hbare
    clear hbare hx
    go_wp2
    go_round
    case rel=>exact ⟨k+1,by omega,by go_num,Hb.out⟩
    case measure=>simp [intOf];omega
   ·have hxz:=u8_nz' x h0
    rw [Q25 x _ h0,hx,←List.drop_eq_getElem_cons] at hbare
    have Hb:=Qhd hbare
    obtain ⟨a',c',s1,r1,f1⟩:=Qad hr k (by omega) (k:Int) rfl
    obtain ⟨m,hm⟩:∃ m,m=32 - k:=⟨_,rfl⟩
    rw [←hm] at s1 r1 f1
    have hk':k≤32:=by omega
    have F1:=Qhd f1
    clear hbare hx hm f1
    go_wp2
    go_ret
    exact ⟨_,rfl,⟨by rw [Hb.out];exact r1,fun k hk=>Hfr.out k (F1.out k hk)⟩,hbel2⟩
  ·obtain rfl:k=32:=by omega
   rw [List.drop_eq_nil_of_le (by rw [wb_len];omega)] at hbare
   have hb:numB N=[]:=hbare
   have Hb:=Qhd hb
   clear hbare hb
   go_wp2
   go_ret
   exact ⟨_,rfl,⟨by rw [Hb.out];exact RowOf.nil _ _ _,fun k hk=>by simp [Value.ownBlock] at hk⟩,hbel2⟩
theorem Q3k (a:Option Addr)(n c:Nat)(l:List UInt8)(hn:l.length=n)(w:World)(h:Bytes w (.slice a n c) l)(hl:n+64≤140737488355328):Calls Tryz.prog 62 #[.slice a n c] w (WrPost (sumB l) w):=by
 have cs:=Q59 a n c l hn w h hl
 have hSl:(sumB l).length=32:=Q0i _
 obtain ⟨SB,hSB⟩:∃ B,B=sumB l:=⟨_,rfl⟩
 rw [←hSB] at cs hSl ⊢
 have hSl2:(SB.map u8v).length=32:=by rw [List.length_map];exact hSl
 have HSo:=Qhd (u8_one SB)
 obtain ⟨SC,hSC⟩:∃ K,K=SB.map u8v:=⟨_,rfl⟩
 rw [←hSC] at cs hSl2 HSo
 have HSC:=Qhd hSC
 have Cs:=Qhd cs
 clear cs hSC hSB h hn
 go_enter Tryz.func62,Tryz.ntmps62
 go_wp2_with (first
  |(go_at_call 41;(with_reducible refine Cs.out.mono ?_);rintro e w5 ⟨rfl,b5⟩;have n5:=Blk.new w5 30 zh)
  |((with_reducible refine Qgs 5 ?_);refine Qsa 30 3 5 w5.heap.size SC Q0l n5 hSl2 (by rfl) HSo.out (Qba w5 _) (Nat.le_refl _) ?_;intro w6 h6 b6 _;have s6:=sl32 w5.heap.size 0 w6;have bb6:=Below.then b5 b6))
 go_ret
 exact ⟨_,rfl,Qbk (by rw [←HSC.out];exact h6) hSl b5.size,bb6⟩
theorem Q7c (A:Acc)(hN:A.s.length≤1048576)(w:World)(hI:A.In w):Calls Tryz.prog 40 #[.agg (accs A).toArray] w (NdPost (trS A.s) w):=by
 obtain ⟨S,hS⟩:∃ S,S=A.s:=⟨_,rfl⟩
 obtain ⟨a,c,hsv,_⟩:=hI.2.form
 obtain ⟨n,hn⟩:∃ n,n=S.length:=⟨_,rfl⟩
 have h:=hI.2
 rw [hsv,←hS,←hn] at h
 rw [←hS,←hn] at hN hsv
 rw [←hS]
 replace hn:=hn.symm
 obtain ⟨AC,hAC⟩:∃ C,C=accs A:=⟨_,rfl⟩
 have hc6:AC[6]?=some (.slice a n c):=by rw [hAC,←hsv];rfl
 rw [←hAC]
 clear hAC hsv hS hI
 obtain ⟨w1,hw1⟩:∃ w1,w1=(w.alloc (.cells AC.toArray 28)).alloc (.cells (Q03 zN).toArray 70):=⟨_,rfl⟩
 have hza:Blk 28 w1 w.heap.size AC:=by rw [hw1];exact (Blk.new w _ _).alloc _
 have hz:Blk 70 w1 (w.heap.size+1) (Q03 zN):=by
  have:=Blk.new (w.alloc (.cells AC.toArray 28)) 70 (Q03 zN)
  simp only [World.size_alloc] at this
  rw [hw1];exact this
 have hbel:Below w.heap.size w w1:=by rw [hw1];exact (Qba _ _).alloc (by simp) _
 have hwe:w1=(w.alloc (.cells AC.toArray 28)).alloc (.cells #[.int .i64 0,.slice none 0 0,.slice none 0 0,.slice none 0 0] 70):=by rw [hw1];rfl
 have c6:w1.cell? ⟨w.heap.size,6,none⟩=some (.slice a n c):=(hza.cell 6).trans hc6
 have Hwe:=Qhd hwe
 have hzl:(Q03 zN).length=4:=rfl
 have Hn:=Qhd hn
 have H:=Qhd (h.below hbel)
 clear hw1 hwe h hn hza hc6
 go_enter Tryz.func40,Tryz.ntmps40
 go_wp2_with (rw [←Hwe.out])
 go_loopw [3,11] (fun px ix wr=>∃ (i:Nat) (ps:List Kvp),i≤n∧ix=.int .i64 (i:Int)∧PrW w1 px ps wr∧ps.map kvo=sKV (S.take i)) (fun _ ix _=>n - (intOf ix).toNat)
 case atStart=>exact ⟨0,[],by omega,rfl,PrW.start (Below.refl _ _),rfl⟩
 case round =>
  obtain ⟨i,ps,hii,rfl,F,hps⟩:=hrel
  obtain ⟨wo,rfl⟩:∃ x,x=wr:=⟨wr,rfl⟩
  have bb1:=Below.then hbel F.hb
  have zz:=hz.kept F.hb
  have hpl:ps.length=i:=by have:=congrArg List.length hps;simpa [sKV,Hn.out,hii] using this
  obtain ⟨pa,pn,pc,rfl,hpn⟩:=Q5c F.hO
  have hpn2:pn=i:=by rw [hpn,hpl]
  subst hpn2
  by_cases hlt:pn<n
  ·have hki:(pn:Int)<(n:Int):=by omega
   have hil:pn<S.length:=by rw [Hn.out];exact hlt
   obtain ⟨b1,o1,rfl,r1⟩:=RowOf.range Q26 (H.out.below F.hb) pn hil
   have hstep:sKV (S.take (pn+1))=sKV (S.take pn)++[(sumB (wb S[pn].1),numB S[pn].2)]:=by
    unfold sKV
    rw [List.take_succ_eq_append_getElem hil,List.map_append];rfl
   have hwi:IntKind.i64.wrap ((pn:Int)+1)=((pn+1:Nat):Int):=by rw [IntWalk.i64_in _ (by omega)];omega
   obtain ⟨p,hp⟩:∃ p,p=S[pn]:=⟨_,rfl⟩
   rw [←hp] at r1 hstep
   obtain ⟨X,Y⟩:=p
   dsimp only at hstep
   have cb:∀ u:World,Calls Tryz.prog 66 #[.agg (wcs X).toArray] u _:=fun u=>Q1s X u
   have cm:∀ u:World,Calls Tryz.prog 53 #[.agg (wcs Y).toArray] u (WrPost (numB Y) u):=fun u=>Qgf Y u
   have hsc:spc (X,Y)=wcs X++wcs Y:=rfl
   obtain ⟨x0,x1,x2,x3,hX⟩:∃ a0 a1 a2 a3:Int,wcs X=[.int .u64 a0,.int .u64 a1,.int .u64 a2,.int .u64 a3]:=⟨_,_,_,_,rfl⟩
   obtain ⟨y0,y1,y2,y3,hY⟩:∃ a0 a1 a2 a3:Int,wcs Y=[.int .u64 a0,.int .u64 a1,.int .u64 a2,.int .u64 a3]:=⟨_,_,_,_,rfl⟩
   rw [hX] at cb
   rw [hY] at cm
   rw [hsc,hX,hY] at r1
   obtain ⟨KB,hKB⟩:∃ B,B=wb X:=⟨_,rfl⟩
   have hKl:KB.length=32:=by rw [hKB];exact wb_len X
   obtain ⟨VB,hVB⟩:∃ B,B=numB Y:=⟨_,rfl⟩
   rw [←hKB] at cb hstep
   rw [←hVB] at cm hstep
   have cs:∀ (a:Option Addr) (c:Nat) (u:World),Bytes u (.slice a 32 c) KB→Calls Tryz.prog 62 #[.slice a 32 c] u (WrPost (sumB KB) u):=fun a c u hu=>Q3k a 32 c KB hKl u hu (by omega)
   have hSl:(sumB KB).length=32:=Q0i _
   obtain ⟨SB,hSB⟩:∃ B,B=sumB KB:=⟨_,rfl⟩
   rw [←hSB] at cs hSl hstep
   have hr2:wo.rangeAt b1 (o1+pn*8) [.int .u64 x0,.int .u64 x1,.int .u64 x2,.int .u64 x3,.int .u64 y0,.int .u64 y1,.int .u64 y2,.int .u64 y3]:=r1
   obtain ⟨w2,hw2⟩:∃ w2,w2=wo.alloc (.cells #[.int .u64 x0,.int .u64 x1,.int .u64 x2,.int .u64 x3,.int .u64 y0,.int .u64 y1,.int .u64 y2,.int .u64 y3] 102):=⟨_,rfl⟩
   have zp:Blk 102 w2 wo.heap.size [.int .u64 x0,.int .u64 x1,.int .u64 x2,.int .u64 x3,.int .u64 y0,.int .u64 y1,.int .u64 y2,.int .u64 y3]:=by rw [hw2];exact Blk.new wo _ _
   have b2:Below wo.heap.size wo w2:=by rw [hw2];exact Qba _ _
   have hlo:∀ k,(Value.slice pa pn pc).ownBlock=some k→k<wo.heap.size:=fun k hk=>Q4t F.hO hk
   have Cb:=Qhd cb
   have Cm:=Qhd cm
   have Cs:=Qhd cs
   have Hr2:=Qhd hr2
   have Hst:=Qhd hstep
   have Hw2:=Qhd hw2
   have Hps:=Qhd hps
   have Hlo:=Qhd hlo
   clear cb cm cs r1 hr2 hstep hw2 hp hlt hil hps hX hY hKB hVB hSB hsc hSl hlo hpn hpl
   go_upto_region 5 with (first
    |(refine Qlw 102 13 b1 (o1+pn*8) Q28 (by rfl) Hr2.out ?_))
   rw [←Hw2.out]
   have F6:=F.kept b2
   have k0:=fun u:Ext w2=>u.cell ((zp.cell 0).trans (show _=some (Value.int .u64 x0) from rfl))
   have k1:=fun u:Ext w2=>u.cell ((zp.cell 1).trans (show _=some (Value.int .u64 x1) from rfl))
   have k2:=fun u:Ext w2=>u.cell ((zp.cell 2).trans (show _=some (Value.int .u64 x2) from rfl))
   have k3:=fun u:Ext w2=>u.cell ((zp.cell 3).trans (show _=some (Value.int .u64 x3) from rfl))
   have k4:=fun u:Ext w2=>u.cell ((zp.cell 4).trans (show _=some (Value.int .u64 y0) from rfl))
   have k5:=fun u:Ext w2=>u.cell ((zp.cell 5).trans (show _=some (Value.int .u64 y1) from rfl))
   have k6:=fun u:Ext w2=>u.cell ((zp.cell 6).trans (show _=some (Value.int .u64 y2) from rfl))
   have k7:=fun u:Ext w2=>u.cell ((zp.cell 7).trans (show _=some (Value.int .u64 y3) from rfl))
   have hso:=b2.size
   clear zp F b2
   refine Q02 w2 10 (by kernel_rfl) (by kernel_rfl) (Below.refl _ _) ?_;simp only [List.take_succ_cons,List.take_zero,List.take_nil]
   iterate 3 (refine Q01 (by rfl) (fun K hK=>?_);go_simp;refine hK _ ?_;clear hK K)
   refine Q07 18 (FrT wo.heap.size KB) rfl (of_decide_eq_true rfl) (FrT.mono _ _) (fun w7 hw7=>?_) ?_
   ·simp only [relOf,List.filter_nil,List.filter_cons,Q00]
    try simp only [Q00]
    refine ⟨rfl,?_⟩
    go_simp
    refine (Cb.out w7).mono ?_
    rintro e w8 ⟨v,rfl,o8,b8⟩
    exact ⟨v,rfl,(FrT.own o8).lower (by have:=hw7.size;omega),b8⟩
   refine Q07 19 (FrT wo.heap.size SB) rfl (of_decide_eq_true rfl) (FrT.mono _ _) (fun w7 hw7=>?_) ?_
   ·change Q00 w7 [(18,_)] _ _
    intro v18 h18
    obtain ⟨a18,c18,rfl,_⟩:=h18.1.form' 32 hKl
    simp only [Q00]
    refine ⟨rfl,?_⟩
    go_simp
    refine (Cs.out a18 c18 w7 h18.1).mono ?_
    rintro e w8 ⟨v,rfl,o8,b8⟩
    exact ⟨v,rfl,o8.lower (by have:=hw7.size;omega),b8⟩
   iterate 2 (refine Q01 (by rfl) (fun K hK=>?_);go_simp;refine hK _ ?_;clear hK K)
   refine Q07 22 (FrT wo.heap.size VB) rfl (of_decide_eq_true rfl) (FrT.mono _ _) (fun w7 hw7=>?_) ?_
   ·simp only [relOf,List.filter_nil,List.filter_cons,Q00]
    try simp only [Q00]
    refine ⟨rfl,?_⟩
    go_simp
    refine (Cm.out w7).mono ?_
    rintro e w8 ⟨v,rfl,o8,b8⟩
    exact ⟨v,rfl,o8.lower (by have:=hw7.size;omega),b8⟩
   refine Q07 23 (PrT wo.heap.size SB VB) rfl (of_decide_eq_true rfl) (PrT.mono _ _ _) (fun w7 hw7=>?_) ?_
   ·change Q00 w7 [(22,_),(19,_)] _ _
    intro v22 h22 v19 h19
    obtain ⟨a22,c22,rfl,_⟩:=h22.1.form
    obtain ⟨a19,c19,rfl,_⟩:=h19.1.form
    simp only [Q00]
    refine ⟨rfl,?_⟩
    go_simp
    exact ⟨Below.refl _ _,_,_,_,_,_,_,rfl,h19,h22⟩
   refine Q07 24 (OneP wo.heap.size SB VB) rfl (of_decide_eq_true rfl) (OneP.mono _ _ _) (fun w7 hw7=>?_) ?_
   ·change Q00 w7 [(23,_)] _ _
    rintro v26 ⟨qa,qn,qc,qa',qn',qc',rfl,h1,h2⟩
    simp only [Q00]
    refine ⟨rfl,?_⟩
    go_simp
    exact Q5d h1 h2
   refine Q09 ?_
   intro u3 hb3 v18 _ v19 _ v22 _ v23 _ v27 h27
   change wpList _ _ _ [_,_] _ _
   obtain ⟨g27,ka,kn,kc,va,vn,vc,rfl,r27,fk,fv⟩:=h27
   have F3:=F6.kept hb3
   clear k0 k1 k2 k3 k4 k5 k6 k7 F6
   simp only [Act.put,Qzs]
   go_wp2_with (refine Q0g (o:=⟨some 25,_,_,_,_,_⟩) (by rfl) (.tmp 15) (.tmp 24) 105 (by rfl) elPair (by intro u hu;simp [kvc] at hu;rcases hu with rfl|rfl<;>rfl) (by rfl) F3.hO (by rfl) r27 F3.hb.size (by have:=F3.hO.row.fits.1;simp only [List.length_singleton];omega) (by have:=F3.hO.row.fits.1;unfold maxLen;simp only [List.length_singleton];omega) ?_;intro v5 w5' hO5 gg5 pp5;have F5:=F3.grew gg5 hO5 pp5 Hlo.out fk fv)
   go_roundw
   case rel=>exact ⟨pn+1,_,by omega,by go_num,F5,by rw [List.map_append,Hps.out,Hst.out];rfl⟩
   case measure=>simp [intOf];omega
  ·obtain rfl:n=pn:=by omega
   have htk:S.take n=S:=by rw [←Hn.out,List.take_length]
   rw [htk] at hps
   have cO:=Qhy pa n pc ps hpl hN wo F.hO.row F.is
   have hT:(bldP ps).1=trS S:=by rw [bldP_Q,hps];rfl
   unfold PnOwn at cO
   rw [hT] at cO
   obtain ⟨T,hTT⟩:∃ T,T=trS S:=⟨_,rfl⟩
   rw [←hTT] at cO
   have HTT:=Qhd hTT
   have CO:=Qhd cO
   have hs5:w.heap.size+1<wo.heap.size:=zz.lt
   clear cO hT hlt hps hpl hpn F htk hTT
   go_wp2_with (first
    |(go_at_call 81;(with_reducible refine CO.out.mono ?_);rintro e w6 ⟨y,rfl,oy,ey,b6⟩;have bb6:=Below.then bb1 b6;have zz6:=zz.kept b6;have hone2:=oy.is.one;have hlen:=Q06 y)
    |((with_reducible refine Qgs 30 ?_);refine Qsa 70 6 30 w6.heap.size (Q03 y) Q05 (Blk.new w6 70 (Q03 zN)) hlen (by rfl) hone2 (Qba w6 _) (Nat.le_refl _) ?_;intro w7 h7 b7 _;have bb7:=Below.then bb6 b7;have zz7:=zz6.kept b7;have oy7:=oy.kept b7;have r7:=h7.all0)
    |((with_reducible refine Qgl 32 ?_);refine Qlw 70 6 w6.heap.size 0 Q05 hlen r7 ?_)
    |((with_reducible refine Qgs 32 ?_);refine Qsa 70 2 32 (w.heap.size+1) (Q03 y) Q05 zz7 hlen hzl hone2 bb7 (by omega) ?_;intro w8 h8 b8 g8))
   exact bodyPost_ret (Q0b rfl _ _ (w.heap.size+1) Q05 h8 hlen rfl) rfl ⟨y,rfl,(oy7.off g8 hs5).lower bb1.size,by rw [ey,HTT.out],b8⟩
theorem Q7o {P:Program}{T:Ty}{o:Oper}{a:Act}{w:World}(t:TypeId)(ps:List (Nat × Operand))(ho:o.op=.build t ps.toArray)(L:List (Nat × Value))(hL:(ps.map fun x=>(x.1,a.eval x.2))=L)(cells:Array Value)(hb:P.built t L=some cells)(hT:T (.agg cells) w) :
  Q1j P T w ((execOp a.eval o).run P w):=by
 unfold execOp
 have hb2:P.built t (ps.toArray.map fun (i,x)=>(i,a.eval x)).toList=some cells:=by
  rw [←hb,←hL]
  congr 1
  simp
 simp only [ho,Sem.run_bind,run_build w t _ cells hb2,Result.andThen_ok,Sem.run_pure]
 exact ⟨Below.refl _ _,hT⟩
theorem zcLf:Tryz.zeroCells32=(lfcs zL).toArray:=by kernel_rfl
theorem Qdm {l:Lf}(k:l.Ok):Tryz.prog.built 32 [(0,.int .u64 (l.n:Int)),(1,.agg (wcs l.m).toArray),(2,.agg (by8 l.s).toArray),(3,.agg (by8 l.c).toArray)]=some (lfcs l).toArray:=by
 obtain ⟨n,m,s,c⟩:=l
 have h1:s.length=32:=k.s
 have h2:c.length=32:=k.c
 clear k
 match s,h1 with
 | [a0,a1,a2,a3,a4,a5,a6,a7,a8,a9,a10,a11,a12,a13,a14,a15,a16,a17,a18,a19,a20,a21,a22,a23,a24,a25,a26,a27,a28,a29,a30,a31],_ =>
  match c,h2 with
  | [b0,b1,b2,b3,b4,b5,b6,b7,b8,b9,b10,b11,b12,b13,b14,b15,b16,b17,b18,b19,b20,b21,b22,b23,b24,b25,b26,b27,b28,b29,b30,b31],_=>show _=_;kernel_rfl
end Go.Proofs.YtbdmkfjgnjfjbaaGreat
