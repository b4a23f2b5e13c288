/- world.leaves, the reference's otree (gen_st1.py printed it). | Reading a shape: by trying, and outright: plain Lean. | The reference's SameTexts and SameShape o -/
import Derived.Test.YtbdmkfjgnjfjbaaGreatLazyServesK36
import Derived.Test.YtbdmkfjgnjfjbaaGreatLazyServesK34
import Derived.Test.YtbdmkfjgnjfjbaaGreatLazyServesK23
import Derived.Test.YtbdmkfjgnjfjbaaGreatLazyServesK30
import Derived.Test.YtbdmkfjgnjfjbaaGreatLazyServesK04
import Derived.Test.YtbdmkfjgnjfjbaaGreatLazyServesK24
import Derived.Test.YtbdmkfjgnjfjbaaGreatLazyServesK01
import Derived.Test.YtbdmkfjgnjfjbaaGreatLazyServesK02
import Derived.Test.YtbdmkfjgnjfjbaaGreatLazyServesK08
set_option linter.unusedSimpArgs false
set_option linter.unusedVariables false
set_option maxHeartbeats 4000000
set_option maxRecDepth 100000
namespace Go.Proofs.YtbdmkfjgnjfjbaaGreat
open Go.RowKit
def hKV (H:List Hol):Kvl:=H.map fun h=>(sumB h.f,wL (lfA h.a).1)
def lvP (H:List Hol):Pn × Int:=if rightB H=true then bldQ (hKV H) else (nP,1)
theorem Q7i {e:TypeId}{u:World}{g:Nat}{p:Hol}(h:Blk e u g (hols p)):Bytes u (.slice (some ⟨g,0,none⟩) 8 8) p.f :=
 h.bytesAt 0 8 _ (Q3o [] _ _ 0 8 rfl (by rw [Q0n,p.l])) p.l (by unfold maxLen;omega)
theorem lv_of {H:List Hol}{w:World}{T:Pn}{E:Int}(h:lvP H=(T,E))(y:Nd)(u:World)(hy:OwnNd u w.heap.size y)(he:erN y=T)(hb:Below w.heap.size w u):PnOwn (lvP H) w (.returned (.tuple #[.agg (Q03 y).toArray,.int .i64 E])) u:=by
 rw [h];exact ⟨y,rfl,hy,he,hb⟩
theorem Qel (a:Option Addr)(n c:Nat)(H:List Hol)(hn:H.length=n)(hN:n≤1048576)(hk:∀ h∈H,h.a.Ok)(hs:∀ h∈H,h.a.s.length≤1048576∧h.a.c.length≤1048576)(w:World)(h:RowOf hols 15 w (.slice a n c) H)(hi:∀ h∈H,h.a.In w):Calls Tryz.prog 57 #[.slice a n c] w (PnOwn (lvP H) w):=by
 obtain ⟨w1,hw1⟩:∃ w1,w1=w.alloc (.cells (Q03 zN).toArray 70):=⟨_,rfl⟩
 have hz:Blk 70 w1 w.heap.size (Q03 zN):=by rw [hw1];exact Blk.new w _ _
 have hbel:Below w.heap.size w w1:=by rw [hw1];exact Qba _ _
 have hwe:w1=w.alloc (.cells #[.int .i64 0,.slice none 0 0,.slice none 0 0,.slice none 0 0] 70):=by rw [hw1];rfl
 have Hwe:=Qhd hwe
 have hzl:(Q03 zN).length=4:=rfl
 have hzn:∀ u:World,Blk 32 (u.alloc (.cells Tryz.zeroCells32 32)) u.heap.size (lfcs zL):=fun u=>by rw [zcLf];exact Blk.new u _ _
 have HzN:=Qhd hzn
 have hl69:=Q2j zL_ok
 have hone:∀ u∈Q03 zN,u.oneCell'=true:=by intro u hu;simp [zcells] at hu;rcases hu with rfl|rfl<;>rfl
 have cR:=Q4n a n c H hn hk w1 (h.below hbel) (fun p hp=>(hi p hp).below hbel)
 obtain ⟨q,hq⟩:∃ q,q=rightB H:=⟨_,rfl⟩
 rw [←hq] at cR
 have CR:=Qhd cR
 have hlv:lvP H=if q=true then bldQ (hKV H) else (nP,1):=by rw [hq];rfl
 have Hlv:=Qhd hlv
 clear cR hlv hq
 have Hn:=Qhd hn
 have HR:=Qhd (h.below hbel)
 have Hk:=Qhd hk
 have Hs:=Qhd hs
 have Hi:Hid (∀ p∈H,p.a.In w1):=Qhd (fun p hp=>(hi p hp).below hbel)
 clear hw1 hwe h hn hk hs hi hzn
 cases q with
 | false =>
  have hRf:lvP H=(nP,1):=by rw [Hlv.out];rfl
  have Hpost:=Qhd (lv_of (w:=w) hRf)
  clear hRf
  go_enter Tryz.func57,Tryz.ntmps57
  go_wp2_with (first
   |(go_at_call 67;rw [←Hwe.out];(with_reducible refine CR.out.mono ?_);rintro e w2 ⟨rfl,b2⟩;have hz2:=hz.kept b2;have bb2:=Below.then hbel b2)
   |((with_reducible refine Qgs 13 ?_);refine Qsa 70 2 13 w.heap.size (Q03 zN) Q05 hz2 hzl hzl hone bb2 (Nat.le_refl _) ?_;intro w4 h4 b4 g4))
  exact bodyPost_ret (v:=.tuple #[.agg (Q03 zN).toArray,.int .i64 1]) (Q04 rfl _ _ w.heap.size Q05 h4 hzl rfl rfl) rfl (Hpost.out zN w4 (OwnNd.zero w4 _) rfl b4)
 | true =>
  have hRt:lvP H=bldQ (hKV H):=by rw [Hlv.out];rfl
  have HRt:=Qhd hRt
  clear hRt
  go_enter Tryz.func57,Tryz.ntmps57
  go_wp2_with (go_at_call 67;rw [←Hwe.out];(with_reducible refine CR.out.mono ?_);rintro e w0 ⟨rfl,b0⟩)
  have hz:=hz.kept b0
  have hbel:=Below.then hbel b0
  have HR:=Qhd (HR.out.below b0)
  have Hi:Hid (∀ p∈H,p.a.In w0):=Qhd (fun p hp=>(Hi.out p hp).below b0)
  go_loopw [4,16] (fun px ix wr=>∃ (i:Nat) (ps:List Kvp),i≤n∧ix=.int .i64 (i:Int)∧PrW w0 px ps wr∧ps.map kvo=hKV (H.take i)) (fun _ ix _=>n - (intOf ix).toNat)
  case atStart=>exact ⟨0,[],by omega,rfl,PrW.start (Below.refl _ _),rfl⟩
  case round =>
   obtain ⟨i,ps,hii,rfl,F,hps⟩:=hrel
   obtain ⟨wo,rfl⟩:∃ x,x=wr:=⟨wr,rfl⟩
   have bb1:=Below.then hbel F.hb
   have zz:=hz.kept F.hb
   have hpl:ps.length=i:=by have:=congrArg List.length hps;simpa [hKV,Hn.out,hii] using this
   obtain ⟨pa,pn,pc,rfl,hpn⟩:=Q5c F.hO
   have hpn2:pn=i:=by rw [hpn,hpl]
   subst hpn2
   by_cases hlt:pn<n
   ·have hki:(pn:Int)<(n:Int):=by omega
    have hil:pn<H.length:=by rw [Hn.out];exact hlt
    obtain ⟨b1,o1,rfl,r1⟩:=RowOf.range Q10 (HR.out.below F.hb) pn hil
    have hstep:hKV (H.take (pn+1))=hKV (H.take pn)++[(sumB H[pn].f,wL (lfA H[pn].a).1)]:=by
     unfold hKV
     rw [List.take_succ_eq_append_getElem hil,List.map_append];rfl
    have hwi:IntKind.i64.wrap ((pn:Int)+1)=((pn+1:Nat):Int):=by rw [IntWalk.i64_in _ (by omega)];omega
    have hkp:=Hk.out _ (List.getElem_mem hil)
    have hsp:=Hs.out _ (List.getElem_mem hil)
    have hip:=(Hi.out _ (List.getElem_mem hil)).below F.hb
    obtain ⟨p,hp⟩:∃ p,p=H[pn]:=⟨_,rfl⟩
    rw [←hp] at r1 hstep hkp hsp hip
    have hkX:=lfA_ok hkp
    have cl:=fun u (hu:Below wo.heap.size wo u)=>Qk2 p.a hkp hsp.1 u (hip.below hu)
    unfold LfPost at cl
    have cw:=fun u=>Qf6 (lfA p.a).1 hkX u
    have hXl:=Q2j hkX
    have hXo:=Q2z (lfA p.a).1
    obtain ⟨LE,hLE⟩:∃ E,E=(lfA p.a).2:=⟨_,rfl⟩
    obtain ⟨XL,hXL⟩:∃ X,X=(lfA p.a).1:=⟨_,rfl⟩
    simp only [←hLE,←hXL] at cl cw hXl hXo hstep
    obtain ⟨WB,hWB⟩:∃ B,B=wL XL:=⟨_,rfl⟩
    obtain ⟨XC,hXC⟩:∃ C,C=lfcs XL:=⟨_,rfl⟩
    simp only [←hWB,←hXC] at cl cw hXl hXo hstep
    have hSl:(sumB p.f).length=32:=Q0i _
    obtain ⟨P15,hP15⟩:∃ P,P=hols p:=⟨_,rfl⟩
    have hl15:P15.length=15:=by rw [hP15];exact Q10 p
    have ho15:∀ u∈P15,u.oneCell'=true:=by rw [hP15];exact Q4f hip
    obtain ⟨Y,hY⟩:∃ Y,Y=accs p.a:=⟨_,rfl⟩
    have hlY:Y.length=7:=by rw [hY];rfl
    have hr4:∀ u x,Blk 123 u x P15→u.rangeAt x 8 Y∧Bytes u (.slice (some ⟨x,0,none⟩) 8 8) p.f:=fun u x h=>by
     rw [hP15] at h
     exact ⟨fun j v hv=>by rw [h.cell,Q20,←hY];exact hv,Q7i h⟩
    have cs:=fun (x:Nat) (u:World) (hu:Blk 123 u x P15)=>Q3w (some ⟨x,0,none⟩) 8 8 p.f p.l u (hr4 u x hu).2
    rw [←hP15] at r1
    rw [←hY] at cl
    obtain ⟨SB,hSB⟩:∃ B,B=sumB p.f:=⟨_,rfl⟩
    simp only [←hSB] at cs hSl hstep
    change ∀ x u,Blk 123 u x P15→Calls _ _ _ u (fun e w'=>e=.returned (.agg (by8 SB).toArray)∧Below u.heap.size u w') at cs
    have hlo:∀ k,(Value.slice pa pn pc).ownBlock=some k→k<wo.heap.size:=fun k hk=>Q4t F.hO hk
    have hSl2:(by8 SB).length=32:=by rw [Q0n];exact hSl
    have HSo:=Qhd (u8_one SB)
    have n4:=Blk.newA wo 123 z15.toArray
    have hb4:Below wo.heap.size wo (wo.alloc (.cells z15.toArray 123)):=Qba _ _
    have Hr4:=Qhd hr4
    have R1:=Qhd r1
    have Cl:=Qhd cl
    have Cw:=Qhd cw
    have Cs:=Qhd cs
    have Hst:=Qhd hstep
    have Hps:=Qhd hps
    have Hlo:=Qhd hlo
    have HXl:=Qhd hXl
    have HXo:=Qhd hXo
    clear cl cw cs r1 hr4 hstep hp hlt hil hps hlo hpn hpl hWB hXC hP15 hY hSB hXl hXo hkp hsp hip hkX hLE hXL
    go_upto_region 9 with (first
     |((with_reducible refine Qgl 19 ?_);refine Qlw 123 18 b1 (o1+pn*15) aggHol hl15 R1.out ?_)
     |((with_reducible refine Qgs 19 ?_);refine Qsa 123 6 19 wo.heap.size P15 aggHol n4 hl15 (by rfl) ho15 hb4 (Nat.le_refl _) ?_;intro w2 z2 b2 _;have a2:=(Hr4.out _ _ z2).1)
     |((with_reducible refine Qgl 22 ?_);refine Qlw 28 21 wo.heap.size 8 aggAcc hlY a2 ?_)
     |(go_at_call 8;(with_reducible refine (Cl.out _ b2).mono ?_);rintro e w3 ⟨rfl,b3⟩)
     |((with_reducible refine Qgs 24 ?_);refine Qsa 32 7 24 w3.heap.size XC aggLf (HzN.out w3) HXl.out hl69 HXo.out (Qba w3 _) (Nat.le_refl _) ?_;intro w4 h4 b4 _;have b24:=Below.then b3 b4;have z4':=z2.kept b24;have b04:=Below.then b2 b24;have s84:=sl8 wo.heap.size 0 w4)
     |(go_at_call 37;(with_reducible refine (Cs.out _ _ z4').mono ?_);rintro e w5 ⟨rfl,b5⟩;have n5:=Blk.new w5 30 zh)
     |((with_reducible refine Qgs 28 ?_);refine Qsa 30 9 28 w5.heap.size (by8 SB) Q0l n5 hSl2 (by rfl) HSo.out (Qba w5 _) (Nat.le_refl _) ?_;intro w6 h6 b6 _;have b46:=Below.then b5 b6;have hs45:wo.heap.size≤w5.heap.size:=Nat.le_trans b04.size b5.size))
    have b06:=Below.then b04 b46
    have F6:=F.kept b06
    have hfr:FrT wo.heap.size SB (.slice (some ⟨w5.heap.size,0,none⟩) 32 32) w6:=Qbk h6 hSl hs45
    have Hfr:Hid (∀ u,Below w6.heap.size w6 u→FrT wo.heap.size SB (.slice (some ⟨w5.heap.size,0,none⟩) 32 32) u):=Qhd fun u hu=>FrT.mono _ _ _ _ _ hfr hu
    have S7:=Qhd (h4.kept b46).all0
    have s32:=fun off u=>sl32 w5.heap.size off u
    have hso6:=b06.size
    clear F z2 z4' a2 h4 h6 n5 n4 hb4 b2 b3 b4 b5 b6 b24 b04 b46 b06 s84 hs45 hfr
    refine Q02 w6 6 (by kernel_rfl) (by kernel_rfl) (Below.refl _ _) ?_;simp only [List.take_succ_cons,List.take_zero,List.take_nil]
    iterate 2 (refine Q01 (by rfl) (fun K hK=>?_);go_simp;refine hK _ ?_;clear hK K)
    (refine Q01 (by rfl) (fun K hK=>?_);rw [if_pos (by rfl)];refine ⟨_,fun u=>Q08 _ (.tmp 7) (by rfl) _ _ (by rfl) aggLf HXl.out (rangeAt.ext S7.out u),hK _ ?_⟩;clear hK K;simp only [Act.put,Qzs])
    refine Q07 32 (FrT wo.heap.size WB) rfl (of_decide_eq_true rfl) (FrT.mono _ _) (fun w7 hw7=>?_) ?_
    ·simp only [relOf,List.filter_nil,List.filter_cons,Q00]
     try simp only [Q00]
     refine ⟨rfl,?_⟩
     go_simp
     refine (Cw.out w7).mono ?_
     rintro e w8 ⟨v,rfl,o8,b8⟩
     exact ⟨v,rfl,o8.lower (by have:=hw7.size;omega),b8⟩
    refine Q07 33 (PrT wo.heap.size SB WB) rfl (of_decide_eq_true rfl) (PrT.mono _ _ _) (fun w7 hw7=>?_) ?_
    ·change Q00 w7 [(32,_)] _ _
     intro v25 h25
     obtain ⟨a25,c25,rfl,_⟩:=h25.1.form
     simp only [Q00]
     refine ⟨rfl,?_⟩
     go_simp
     exact ⟨Below.refl _ _,_,_,_,_,_,_,rfl,Hfr.out w7 hw7,h25⟩
    refine Q07 34 (OneP wo.heap.size SB WB) rfl (of_decide_eq_true rfl) (OneP.mono _ _ _) (fun w7 hw7=>?_) ?_
    ·change Q00 w7 [(33,_)] _ _
     rintro v26 ⟨qa,qn,qc,qa',qn',qc',rfl,h1,h2⟩
     simp only [Q00]
     refine ⟨rfl,?_⟩
     go_simp
     exact Q5d h1 h2
    refine Q09 ?_
    intro u3 hb3 v25 _ v26 _ v27 h27
    change wpList _ _ _ [_,_] _ _
    obtain ⟨g27,ka,kn,kc,va,vn,vc,rfl,r27,fk,fv⟩:=h27
    have F3:=F6.kept hb3
    clear s32 F6
    simp only [Act.put,Qzs]
    go_wp2_with (refine Q0g (o:=⟨some 35,_,_,_,_,_⟩) (by rfl) (.tmp 29) (.tmp 34) 105 (by rfl) elPair (by intro u hu;simp [kvc] at hu;rcases hu with rfl|rfl<;>rfl) (by rfl) F3.hO (by rfl) r27 F3.hb.size (by have:=F3.hO.row.fits.1;simp only [List.length_singleton];omega) (by have:=F3.hO.row.fits.1;unfold maxLen;simp only [List.length_singleton];omega) ?_;intro v5 w5' hO5 gg5 pp5;have F5:=F3.grew gg5 hO5 pp5 Hlo.out fk fv)
    go_roundw
    case rel=>exact ⟨pn+1,_,by omega,by go_num,F5,by rw [List.map_append,Hps.out,Hst.out];rfl⟩
    case measure=>simp [intOf];omega
   ·obtain rfl:n=pn:=by omega
    have htk:H.take n=H:=by rw [←Hn.out,List.take_length]
    rw [htk] at hps
    have cO:=of_own pa n pc ps hpl hN wo F.hO.row F.is
    rw [bldP_Q,hps] at cO
    obtain ⟨T,hT⟩:∃ T,T=bldQ (hKV H):=⟨_,rfl⟩
    rw [←hT] at cO
    obtain ⟨T1,T2⟩:=T
    have hRf:lvP H=(T1,T2):=by rw [HRt.out,hT]
    have Hpost:=Qhd (lv_of (w:=w) hRf)
    unfold PnOwn at cO
    dsimp only at cO
    have CO:=Qhd cO
    have hs5:w.heap.size<wo.heap.size:=zz.lt
    clear cO hlt hps hpl hpn F htk hT hRf
    go_wp2_with (first
     |(go_at_call 76;(with_reducible refine CO.out.mono ?_);rintro e w6 ⟨y,rfl,oy,ey,b6⟩;have bb6:=Below.then bb1 b6;have zz6:=zz.kept b6;have hone2:=oy.is.one;have hlen:=Q06 y)
     |((with_reducible refine Qgs 39 ?_);refine Qsa 70 2 39 w.heap.size (Q03 y) Q05 zz6 hlen hzl hone2 bb6 (Nat.le_refl _) ?_;intro w7 h7 b7 g7))
    exact bodyPost_ret (v:=.tuple #[.agg (Q03 y).toArray,.int .i64 T2]) (Q04 rfl _ _ w.heap.size Q05 h7 hlen rfl rfl) rfl (Hpost.out y w7 ((oy.off g7 hs5).lower bb1.size) ey b7)
theorem Qgp (a:Option Addr)(n c:Nat)(H:List Hol)(hn:H.length=n)(hN:n≤1048576)(hk:∀ h∈H,h.a.Ok)(hs:∀ h∈H,h.a.s.length≤1048576∧h.a.c.length≤1048576)(w:World)(h:RowOf hols 15 w (.slice a n c) H)(hi:∀ h∈H,h.a.In w):Calls Tryz.prog 59 #[.slice a n c] w (NdPost (bldQ (hKV H)).1 w):=by
 obtain ⟨w1,hw1⟩:∃ w1,w1=w.alloc (.cells (Q03 zN).toArray 70):=⟨_,rfl⟩
 have hz:Blk 70 w1 w.heap.size (Q03 zN):=by rw [hw1];exact Blk.new w _ _
 have hbel:Below w.heap.size w w1:=by rw [hw1];exact Qba _ _
 have hwe:w1=w.alloc (.cells #[.int .i64 0,.slice none 0 0,.slice none 0 0,.slice none 0 0] 70):=by rw [hw1];rfl
 have Hwe:=Qhd hwe
 have hzl:(Q03 zN).length=4:=rfl
 have hzn:∀ u:World,Blk 32 (u.alloc (.cells Tryz.zeroCells32 32)) u.heap.size (lfcs zL):=fun u=>by rw [zcLf];exact Blk.new u _ _
 have HzN:=Qhd hzn
 have hl69:=Q2j zL_ok
 have hone:∀ u∈Q03 zN,u.oneCell'=true:=by intro u hu;simp [zcells] at hu;rcases hu with rfl|rfl<;>rfl
 have Hn:=Qhd hn
 have HR:=Qhd (h.below hbel)
 have Hk:=Qhd hk
 have Hs:=Qhd hs
 have Hi:Hid (∀ p∈H,p.a.In w1):=Qhd (fun p hp=>(hi p hp).below hbel)
 clear hw1 hwe h hn hk hs hi hzn
 go_enter Tryz.func59,Tryz.ntmps59
 go_wp2_with fail
 rw [show w.alloc (.cells #[.int .i64 0,.slice none 0 0,.slice none 0 0,.slice none 0 0] 70)=w1 from Hwe.out.symm]
 go_loopw [3,12] (fun px ix wr=>∃ (i:Nat) (ps:List Kvp),i≤n∧ix=.int .i64 (i:Int)∧PrW w1 px ps wr∧ps.map kvo=hKV (H.take i)) (fun _ ix _=>n - (intOf ix).toNat)
 case atStart=>exact ⟨0,[],by omega,rfl,PrW.start (Below.refl _ _),rfl⟩
 case round =>
  obtain ⟨i,ps,hii,rfl,F,hps⟩:=hrel
  obtain ⟨wo,rfl⟩:∃ x,x=wr:=⟨wr,rfl⟩
  have bb1:=Below.then hbel F.hb
  have zz:=hz.kept F.hb
  have hpl:ps.length=i:=by have:=congrArg List.length hps;simpa [hKV,Hn.out,hii] using this
  obtain ⟨pa,pn,pc,rfl,hpn⟩:=Q5c F.hO
  have hpn2:pn=i:=by rw [hpn,hpl]
  subst hpn2
  by_cases hlt:pn<n
  ·have hki:(pn:Int)<(n:Int):=by omega
   have hil:pn<H.length:=by rw [Hn.out];exact hlt
   obtain ⟨b1,o1,rfl,r1⟩:=RowOf.range Q10 (HR.out.below F.hb) pn hil
   have hstep:hKV (H.take (pn+1))=hKV (H.take pn)++[(sumB H[pn].f,wL (lfA H[pn].a).1)]:=by
    unfold hKV
    rw [List.take_succ_eq_append_getElem hil,List.map_append];rfl
   have hwi:IntKind.i64.wrap ((pn:Int)+1)=((pn+1:Nat):Int):=by rw [IntWalk.i64_in _ (by omega)];omega
   have hkp:=Hk.out _ (List.getElem_mem hil)
   have hsp:=Hs.out _ (List.getElem_mem hil)
   have hip:=(Hi.out _ (List.getElem_mem hil)).below F.hb
   obtain ⟨p,hp⟩:∃ p,p=H[pn]:=⟨_,rfl⟩
   rw [←hp] at r1 hstep hkp hsp hip
   have hkX:=lfA_ok hkp
   have cl:=fun u (hu:Below wo.heap.size wo u)=>Qgt p.a hkp hsp.1 hsp.2 u (hip.below hu)
   unfold LfPost at cl
   have cw:=fun u=>Qei (lfA p.a).1 hkX u
   have hXl:=Q2j hkX
   have hXo:=Q2z (lfA p.a).1
   obtain ⟨LE,hLE⟩:∃ E,E=(lfA p.a).2:=⟨_,rfl⟩
   obtain ⟨XL,hXL⟩:∃ X,X=(lfA p.a).1:=⟨_,rfl⟩
   simp only [←hLE,←hXL] at cl cw hXl hXo hstep
   obtain ⟨WB,hWB⟩:∃ B,B=wL XL:=⟨_,rfl⟩
   obtain ⟨XC,hXC⟩:∃ C,C=lfcs XL:=⟨_,rfl⟩
   simp only [←hWB,←hXC] at cl cw hXl hXo hstep
   have hSl:(sumB p.f).length=32:=Q0i _
   obtain ⟨P15,hP15⟩:∃ P,P=hols p:=⟨_,rfl⟩
   have hl15:P15.length=15:=by rw [hP15];exact Q10 p
   have ho15:∀ u∈P15,u.oneCell'=true:=by rw [hP15];exact Q4f hip
   obtain ⟨Y,hY⟩:∃ Y,Y=accs p.a:=⟨_,rfl⟩
   have hlY:Y.length=7:=by rw [hY];rfl
   have hr4:∀ u x,Blk 123 u x P15→u.rangeAt x 8 Y∧Bytes u (.slice (some ⟨x,0,none⟩) 8 8) p.f:=fun u x h=>by
    rw [hP15] at h
    exact ⟨fun j v hv=>by rw [h.cell,Q20,←hY];exact hv,Q7i h⟩
   have cs:=fun (x:Nat) (u:World) (hu:Blk 123 u x P15)=>Q3k (some ⟨x,0,none⟩) 8 8 p.f p.l u (hr4 u x hu).2 (by omega)
   rw [←hP15] at r1
   rw [←hY] at cl
   obtain ⟨SB,hSB⟩:∃ B,B=sumB p.f:=⟨_,rfl⟩
   simp only [←hSB] at cs hSl hstep
   have hlo:∀ k,(Value.slice pa pn pc).ownBlock=some k→k<wo.heap.size:=fun k hk=>Q4t F.hO hk
   have hSl2:(by8 SB).length=32:=by rw [Q0n];exact hSl
   have HSo:=Qhd (u8_one SB)
   have n4:=Blk.newA wo 123 z15.toArray
   have hb4:Below wo.heap.size wo (wo.alloc (.cells z15.toArray 123)):=Qba _ _
   have Hr4:=Qhd hr4
   have R1:=Qhd r1
   have Cl:=Qhd cl
   have Cw:=Qhd cw
   have Cs:=Qhd cs
   have Hst:=Qhd hstep
   have Hps:=Qhd hps
   have Hlo:=Qhd hlo
   have HXl:=Qhd hXl
   have HXo:=Qhd hXo
   clear cl cw cs r1 hr4 hstep hp hlt hil hps hlo hpn hpl hWB hXC hP15 hY hSB hXl hXo hkp hsp hip hkX hLE hXL
   go_upto_region 6 with (first
    |((with_reducible refine Qgl 15 ?_);refine Qlw 123 14 b1 (o1+pn*15) aggHol hl15 R1.out ?_)
    |((with_reducible refine Qgs 15 ?_);refine Qsa 123 5 15 wo.heap.size P15 aggHol n4 hl15 (by rfl) ho15 hb4 (Nat.le_refl _) ?_;intro w2 z2 b2 _;have a2:=(Hr4.out _ _ z2).1)
    |((with_reducible refine Qgl 18 ?_);refine Qlw 28 17 wo.heap.size 8 aggAcc hlY a2 ?_)
    |(go_at_call 9;(with_reducible refine (Cl.out _ b2).mono ?_);rintro e w3 ⟨rfl,b3⟩)
    |((with_reducible refine Qgs 20 ?_);refine Qsa 32 6 20 w3.heap.size XC aggLf (HzN.out w3) HXl.out hl69 HXo.out (Qba w3 _) (Nat.le_refl _) ?_;intro w4 h4 b4 _;have b24:=Below.then b3 b4;have z4':=z2.kept b24;have b04:=Below.then b2 b24;have s84:=sl8 wo.heap.size 0 w4))
   have F6:=F.kept b04
   have Z4:Hid (∀ u,Below w4.heap.size w4 u→Blk 123 u wo.heap.size P15):=Qhd fun u hu=>z4'.kept hu
   have S7:=Qhd h4.all0
   have s8:=fun off u=>sl8 wo.heap.size off u
   have hso6:=b04.size
   clear F z2 z4' a2 h4 n4 hb4 b2 b3 b4 b24 b04 s84 hSl2 HSo
   refine Q02 w4 8 (by kernel_rfl) (by kernel_rfl) (Below.refl _ _) ?_;simp only [List.take_succ_cons,List.take_zero,List.take_nil]
   iterate 3 (refine Q01 (by rfl) (fun K hK=>?_);go_simp;refine hK _ ?_;clear hK K)
   refine Q07 25 (FrT wo.heap.size SB) rfl (of_decide_eq_true rfl) (FrT.mono _ _) (fun w7 hw7=>?_) ?_
   ·simp only [relOf,List.filter_nil,List.filter_cons,Q00]
    try simp only [Q00]
    refine ⟨rfl,?_⟩
    go_simp
    refine (Cs.out _ w7 (Z4.out w7 hw7)).mono ?_
    rintro e w8 ⟨v,rfl,o8,b8⟩
    exact ⟨v,rfl,o8.lower (by have:=hw7.size;omega),b8⟩
   (refine Q01 (by rfl) (fun K hK=>?_);rw [if_pos (by rfl)];refine ⟨_,fun u=>Q08 _ (.tmp 6) (by rfl) _ _ (by rfl) aggLf HXl.out (rangeAt.ext S7.out u),hK _ ?_⟩;clear hK K;simp only [Act.put,Qzs])
   refine Q07 27 (FrT wo.heap.size WB) rfl (of_decide_eq_true rfl) (FrT.mono _ _) (fun w7 hw7=>?_) ?_
   ·simp only [relOf,List.filter_nil,List.filter_cons,Q00]
    try simp only [Q00]
    refine ⟨rfl,?_⟩
    go_simp
    refine (Cw.out w7).mono ?_
    rintro e w8 ⟨v,rfl,o8,b8⟩
    exact ⟨v,rfl,o8.lower (by have:=hw7.size;omega),b8⟩
   refine Q07 28 (PrT wo.heap.size SB WB) rfl (of_decide_eq_true rfl) (PrT.mono _ _ _) (fun w7 hw7=>?_) ?_
   ·change Q00 w7 [(27,_),(25,_)] _ _
    intro v22 h22 v19 h19
    obtain ⟨a22,c22,rfl,_⟩:=h22.1.form
    obtain ⟨a19,c19,rfl,_⟩:=h19.1.form
    simp only [Q00]
    refine ⟨rfl,?_⟩
    go_simp
    exact ⟨Below.refl _ _,_,_,_,_,_,_,rfl,(by rw [hSl] at h19;exact h19),h22⟩
   refine Q07 29 (OneP wo.heap.size SB WB) rfl (of_decide_eq_true rfl) (OneP.mono _ _ _) (fun w7 hw7=>?_) ?_
   ·change Q00 w7 [(28,_)] _ _
    rintro v26 ⟨qa,qn,qc,qa',qn',qc',rfl,h1,h2⟩
    simp only [Q00]
    refine ⟨rfl,?_⟩
    go_simp
    exact Q5d h1 h2
   refine Q09 ?_
   intro u3 hb3 v25 _ v26 _ v28 _ v27 h27
   change wpList _ _ _ [_,_] _ _
   obtain ⟨g27,ka,kn,kc,va,vn,vc,rfl,r27,fk,fv⟩:=h27
   have F3:=F6.kept hb3
   clear s8 F6
   simp only [Act.put,Qzs]
   go_wp2_with (refine Q0g (o:=⟨some 30,_,_,_,_,_⟩) (by rfl) (.tmp 22) (.tmp 29) 105 (by rfl) elPair (by intro u hu;simp [kvc] at hu;rcases hu with rfl|rfl<;>rfl) (by rfl) F3.hO (by rfl) r27 F3.hb.size (by have:=F3.hO.row.fits.1;simp only [List.length_singleton];omega) (by have:=F3.hO.row.fits.1;unfold maxLen;simp only [List.length_singleton];omega) ?_;intro v5 w5' hO5 gg5 pp5;have F5:=F3.grew gg5 hO5 pp5 Hlo.out fk fv)
   go_roundw
   case rel=>exact ⟨pn+1,_,by omega,by go_num,F5,by rw [List.map_append,Hps.out,Hst.out];rfl⟩
   case measure=>simp [intOf];omega
  ·obtain rfl:n=pn:=by omega
   have htk:H.take n=H:=by rw [←Hn.out,List.take_length]
   rw [htk] at hps
   have cO:=Qhy pa n pc ps hpl hN wo F.hO.row F.is
   rw [bldP_Q,hps] at cO
   unfold PnOwn at cO
   obtain ⟨T,hTT⟩:∃ T,T=(bldQ (hKV H)).1:=⟨_,rfl⟩
   rw [←hTT] at cO
   have HTT:=Qhd hTT
   have CO:=Qhd cO
   have hs5:w.heap.size<wo.heap.size:=zz.lt
   clear cO hlt hps hpl hpn F htk hTT
   go_wp2_with (first
    |(go_at_call 81;(with_reducible refine CO.out.mono ?_);rintro e w6 ⟨y,rfl,oy,ey,b6⟩;have bb6:=Below.then bb1 b6;have zz6:=zz.kept b6;have hone2:=oy.is.one;have hlen:=Q06 y)
    |((with_reducible refine Qgs 35 ?_);refine Qsa 70 8 35 w6.heap.size (Q03 y) Q05 (Blk.new w6 70 (Q03 zN)) hlen (by rfl) hone2 (Qba w6 _) (Nat.le_refl _) ?_;intro w7 h7 b7 _;have bb7:=Below.then bb6 b7;have zz7:=zz6.kept b7;have oy7:=oy.kept b7;have r7:=h7.all0)
    |((with_reducible refine Qgl 37 ?_);refine Qlw 70 8 w6.heap.size 0 Q05 hlen r7 ?_)
    |((with_reducible refine Qgs 37 ?_);refine Qsa 70 2 37 w.heap.size (Q03 y) Q05 zz7 hlen hzl hone2 bb7 (Nat.le_refl _) ?_;intro w8 h8 b8 g8))
   exact bodyPost_ret (Q0b rfl _ _ w.heap.size Q05 h8 hlen rfl) rfl ⟨y,rfl,(oy7.off g8 hs5).lower bb1.size,by rw [ey,HTT.out],b8⟩
abbrev Shq:=Int × List UInt8 × List UInt8 × List (List UInt8)
theorem Q87 (va vb:Option Addr)(n ca cb:Nat)(ps qs:List (Value × List UInt8))(hn:ps.length=n)(hq:qs.length=n)(hs:n≤1048576)(w:World)(h:Texts w (.slice va n ca) ps)(h':Texts w (.slice vb n cb) qs)(he:ps.map (·.2)=qs.map (·.2)) :
  Calls Tryz.prog 20 #[.slice va n ca,.slice vb n cb] w (Qko w):=by
 have Hn:=Qhd hn
 have Hq:=Qhd hq
 have He:=Qhd he
 have hne:((n:Int) != (n:Int))=false:=by simp
 clear hn hq he
 go_enter Tryz.func20,Tryz.ntmps20
 go_wp2
 go_loopw [13] (fun ix wr=>∃ k:Nat,k≤n∧ix=.int .i64 (k:Int)∧Below w.heap.size w wr) (fun ix _=>n - (intOf ix).toNat)
 case atStart=>exact ⟨0,by omega,rfl,Below.refl _ _⟩
 case round =>
  obtain ⟨k,hkk,rfl,hbel⟩:=hrel
  by_cases hlt:k<n
  ·have hki:(k:Int)<(n:Int):=by omega
   obtain ⟨b1,o1,p,rfl,hp1,hc1,hr1⟩:=(h.below hbel).at k (by rw [Hn.out];exact hlt)
   obtain ⟨b2,o2,q,rfl,hq1,hc2,hr2⟩:=(h'.below hbel).at k (by rw [Hq.out];exact hlt)
   have hee:p.2=q.2:=by
    have:=congrArg (fun l=>l[k]?) He.out
    simpa [List.getElem?_map,hp1,hq1] using this
   rw [←hee] at hr2
   obtain ⟨V1,t⟩:=p
   obtain ⟨V2,t2⟩:=q
   have f1:=fun u:Ext wr=>u.cell hc1
   have f2:=fun u:Ext wr=>u.cell hc2
   have s1:∀ u:Ext wr,(convert 25 9 V1).run Tryz.prog u.val=.ok (str t) u.val:=fun u=>Q0h elU8.ht (by kernel_rfl) (by kernel_rfl) (u.row hr1)
   have s2:∀ u:Ext wr,(convert 25 9 V2).run Tryz.prog u.val=.ok (str t) u.val:=fun u=>Q0h elU8.ht (by kernel_rfl) (by kernel_rfl) (u.row hr2)
   clear hp1 hq1 hc1 hc2 hr1 hr2 hee
   go_wp2
   refine Q02 wr 10 (by kernel_rfl) (by kernel_rfl) (Below.refl _ _) ?_;simp only [List.take_succ_cons,List.take_zero,List.take_nil]
   iterate 10 (refine Q01 (by rfl) (fun K hK=>?_);go_simp;refine hK _ ?_;clear hK K)
   refine Q09 ?_
   intro u2 hb2
   have hbel2:=Below.then hbel hb2
   change wpList _ _ _ [_] _ _
   clear f1 f2 s1 s2
   go_wp2
   go_roundw
   case rel=>exact ⟨k+1,by omega,by go_num,hbel2⟩
   case measure=>simp [intOf];omega
  ·obtain rfl:k=n:=by omega
   go_wp2
   go_ret
   exact ⟨rfl,hbel⟩
theorem elTxt:El0 Tryz.prog 44 25 (.slice none 0 0) 1 24 tcell:=⟨by kernel_rfl,by kernel_rfl,rfl,by omega,fun _=>rfl⟩
theorem to_any {α:Type}{f:α→List Value}{P:Program}{t e:TypeId}{z:Value}{size bytes:Nat}(el:El0 P t e z size bytes f){w:World}{a:Option Addr}{n c:Nat}{l:List α}(h:RowOf f size w (.slice a n c) l)(hi:Nat)(h1:hi≤n)(x:Int)(hx:x=hi) :
  ∃ a' c',(∀ k w',(Instr.slice t (.slice a n c) none (some (.int k x)) none).run P w'=.ok (.slice a' hi c') w')∧RowOf f size w (.slice a' hi c') (l.take hi):=by
 subst hx
 obtain ⟨hn,hnc,hcm⟩:=h.fits
 obtain ⟨a',c',h2,h3⟩:=h.part el.hf el.hsz 0 hi (Nat.zero_le _) h1
 obtain ⟨i,hi',_,hsi,_⟩:=el.info
 have hel:P.elem t=e:=by unfold Program.elem;rw [el.ht]
 refine ⟨a',c',fun k w'=>?_,by simpa using h3⟩
 rw [run_slice_h (P:=P) w' (t:=t) (a:=a) (len:=n) (cap:=c) (by rw [hel];exact el.ht) k (hi:Int) (by omega) (by omega)]
 rw [hel]
 simp [sizeOf,typeInfo,hi',hsi] at h2 ⊢
 exact h2
def nxtP (s:Shq)(p:List UInt8):List UInt8 × List UInt8 × List UInt8 :=
 if s.1=1 then (if s.2.1=p then ([],[],s.2.2.1) else ([],[],[]))
 else if s.1=2 then (if com s.2.1 p=s.2.1.length then (s.2.2.2[0]?.getD [],p.drop s.2.1.length,[]) else ([],[],[]))
 else if s.1=3 then (match p with
  | []=>([],[],s.2.2.1)
  | x::p=>(s.2.2.2[x.toNat]?.getD [],p,[]))
 else ([],[],[])
theorem Qia (p:List UInt8):∀ q,com p q=p.length↔p.length≤q.length∧q.take p.length=p:=by
 induction p with
 | nil=>intro q;cases q<;>simp [com]
 | cons x p ih =>
  intro q
  cases q with
  | nil=>simp [com]
  | cons y q =>
   unfold com
   by_cases h:x=y
   ·subst h
    rw [if_pos rfl]
    have:=ih q
    simp only [List.length_cons,List.take_succ_cons,List.cons.injEq,true_and]
    constructor
    ·intro e
     obtain ⟨h1,h2⟩:=this.1 (by omega)
     exact ⟨by omega,h2⟩
    ·rintro ⟨h1,h2⟩
     have:=this.2 ⟨by omega,h2⟩
     omega
   ·rw [if_neg h]
    simp only [List.length_cons,List.take_succ_cons,List.cons.injEq]
    constructor
    ·intro e;omega
    ·rintro ⟨_,h2,_⟩;exact absurd h2.symm h
def wayP (kd:Int)(p q:List UInt8):Int × List UInt8 × Bool :=
 if kd=1 then (-1,[],p==q)
 else if kd=2 then (if p.length≤q.length∧q.take p.length=p then (0,q.drop p.length,false) else (-1,[],false))
 else if kd=3 then (match q with
  | []=>(-1,[],true)
  | x::q=>((x.toNat:Int),q,false))
 else (-1,[],false)
end Go.Proofs.YtbdmkfjgnjfjbaaGreat
