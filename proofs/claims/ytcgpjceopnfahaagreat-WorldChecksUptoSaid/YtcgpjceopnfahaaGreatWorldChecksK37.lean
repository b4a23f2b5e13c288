/- The reference's HRead: two shapes are tried. -/
import Derived.Test.YtcgpjceopnfahaaGreatWorldChecksK36
set_option linter.unusedSimpArgs false
set_option linter.unusedVariables false
set_option maxHeartbeats 4000000
set_option maxRecDepth 100000
namespace Go.Proofs.YtcgpjceopnfahaaGreat
open Go.RowKit
structure TrS (B:Nat)(w:World)(s:Shp):Prop where
 far:∀ x,s.kv.ownBlock=some x→x≠B
 is:IsShp w s
 hp:s.p.length≤4194304
 hv:s.v.length≤1048576
 hk:s.ps.length≤1048576
 hks:∀ q∈s.ps,q.2.length≤1048576
theorem TrS.zero (B:Nat)(w:World):TrS B w zShp:=⟨by intro x hx;simp [zShp,Value.ownBlock] at hx,zShp_is w,by simp [zShp],by simp [zShp],by simp [zShp],by simp [zShp]⟩
theorem TrS.two {B:Nat}{w:World}{s:Shp}(h:TrS B w s):∀ x∈[zShp,s],TrS B w x:=fun x hx=>by
 simp only [List.mem_cons,List.not_mem_nil,or_false] at hx
 rcases hx with rfl|rfl
 ·exact TrS.zero B w
 ·exact h
def OneS (s:Shp):Ty:=fun u w=>∃ g,u=.slice (some ⟨g,0,none⟩) 1 1∧RowOf shcells 4 w u [s]
theorem OneS.mono (s:Shp):Mono (OneS s):=fun _ _ _ ⟨g,h1,h2⟩ hb=>⟨g,h1,RowOf.kept h2 hb⟩
theorem hread_leaf (a:Option Addr)(L c:Nat)(b:List UInt8)(hL:b.length=L)(hLs:L≤1048576)(p:Pit)(hd:dec b=some p)(h2:kidsN p=2)(hf:unLeaf ((kidT p)[0]?.getD [])=true)(w:World)(h:Bytes w (.slice a L c) b):Calls Tryz.prog 127 #[.slice a L c] w (RdPost (rdB b) w):=by
 have hz:Blk 133 (w.alloc (.cells zsh.toArray 133)) w.heap.size zsh:=Blk.new w _ _
 have hbel:Below w.heap.size w (w.alloc (.cells zsh.toArray 133)):=(Below.refl _ _).alloc (Nat.le_refl _) _
 have hlt0:=hz.lt
 have cc:=fun u (hu:Bytes u (.slice a L c) b)=>pdecode_any a L c b hL hLs u hu
 have hE:decE b=0:=by unfold decE;rw [hd];rfl
 have hP:decP b=p:=by unfold decP;rw [hd];rfl
 have hle:(encP p).length≤1048576:=by rw [←dec_back hd,hL];exact hLs
 have hlaw:=fun (l:List (List UInt8)) (hk:KidsOf p l)=>hrd_rd b p l hd (by omega) hk
 obtain ⟨O,hO⟩:∃ O,O=rdB b:=⟨_,rfl⟩
 rw [←hO] at hlaw
 rw [←hO]
 rw [hE] at cc
 have C:=Lib.hid cc
 have HP:=Lib.hid hP
 have Hle:=Lib.hid hle
 have Hlaw:=Lib.hid hlaw
 have HL:=Lib.hid hL
 have H2:=Lib.hid h2
 have Hf:=Lib.hid hf
 clear h2 hf
 clear cc hE hP hle hlaw hO hd hL
 go_enter Tryz.func127,Tryz.ntmps127
 go_wp2_with (first
  |(go_at_call 45;(with_reducible refine (C.out _ (h.alloc _)).mono ?_);rintro e w1 ⟨it,rfl,b1,hF,hbare,he⟩;have hz1:=hz.kept b1;have hbel1:=Below.then hbel b1;obtain ⟨l,tv,t,kv,ks⟩:=it;have hkk:ks.length=kidsN p∧KidsOf p (ks.map itt)∧ks.map itt=kidT p:=kids_of hbare (he.trans HP.out);obtain ⟨ta,tc,rfl,_,_⟩:=hF.is.inv.1.form;obtain ⟨ka,kc,rfl,_,_⟩:=hF.is.inv.2.1.form;obtain ⟨tn,htn⟩:∃ tn,tn=t.length:=⟨_,rfl⟩;obtain ⟨kn,hkn⟩:∃ kn,kn=ks.length:=⟨_,rfl⟩;have hI1:=hF.is;rw [←htn,←hkn] at hI1;rw [←htn,←hkn];have Hkn:=Lib.hid hkn.symm;have Hkk:=Lib.hid hkk;have hs1:=b1.size;clear htn hkn hkk he hbare;simp only [icells])
  |((with_reducible show wpList _ _ _ (⟨none,.store _ _ (.tmp 20),_,_,_,_⟩::_) _ _);refine wpList_storeA (o:=⟨none,_,_,_,_,_⟩) (by rfl) 77 (.tmp 4) (.tmp 20) (by rfl) w1.heap.size [.bool l,.slice ta tn tc,.slice ka kn kc] (by rfl) (by rfl) aggItem (Blk.new w1 77 [.bool false,.slice none 0 0,.slice none 0 0]) (by rfl) (by rfl) (by intro u hu;simp at hu;rcases hu with rfl|rfl|rfl<;>rfl) (((Below.refl w1.heap.size w1).alloc (Nat.le_refl _) (.cells #[.bool false,.slice none 0 0,.slice none 0 0] 77))) (Nat.le_refl _) ?_;intro w4 h4 b4 _;have G4:HrW w w1.heap.size [.bool l,.slice ta tn tc,.slice ka kn kc] w4:=⟨Below.then hbel1 b4,hz1.kept b4,h4,Nat.lt_of_lt_of_le hlt0 hs1⟩;have hI4:=hI1.kept b4;have c42:w4.cell? ⟨w1.heap.size,2,none⟩=some (.slice ka kn kc):=h4.cell 2))
 have hrow:=hI4.inv.2.1
 have hkids:=hI4.inv.2.2
 obtain ⟨g4,hg4⟩:∃ g4,g4=w1.heap.size:=⟨_,rfl⟩
 rw [←hg4] at G4
 rw [←hg4]
 have hlt4:g4<w4.heap.size:=G4.h4.lt
 have Hkids:=Lib.hid hkids
 have hk8:kn≤1048576:=by have h1:=kidsN_le p;have h2:=Hle.out;have h3:=Hkk.out.1;have h4:=Hkn.out;omega
 clear c42 hkids hg4 hz1 hbel1 b1 hI1 hF hs1 h4 b4
 go_loopw [6,28] (fun lv ix wr=>∃ (i:Nat) (ps:List (Value × List UInt8)),i≤kn∧ix=.int .i64 (i:Int)∧HrW w g4 [.bool l,.slice ta tn tc,.slice ka kn kc] wr∧Below w4.heap.size w4 wr∧OwnOf tcell 1 25 wr w4.heap.size lv ps∧Hid (ps.map (·.2)=(ks.map itt).take i)∧Hid (∀ q∈ps,Bytes w4 q.1 q.2)) (fun _ ix _=>kn - (intOf ix).toNat)
 case atStart=>exact ⟨0,[],by omega,rfl,G4,Below.refl _ _,OwnOf.nil tcell 1 _ _ _,Lib.hid rfl,Lib.hid (by simp)⟩
 case round =>
  clear G4
  obtain ⟨i,ps,hin,rfl,G,hb4,hO,Hps,Hall⟩:=hrel
  have hpl:ps.length=i:=by
   have:=congrArg List.length Hps.out
   simp only [List.length_map,List.length_take] at this
   have h2:=Hkn.out
   omega
  obtain ⟨la,lc,rfl,_⟩:=hO.form' i hpl
  have Hpl:=Lib.hid hpl
  clear hpl
  by_cases hlt:i<kn
  ·have hii:(i:Int)<(kn:Int):=by omega
   have hl1:i<ks.length:=by rw [Hkn.out];exact hlt
   obtain ⟨b2,off2,rfl,hr⟩:=RowOf.range icells_len (hrow.below hb4) i hl1
   have hI0:=Hkids.out _ (List.getElem_mem hl1)
   have hnext:(ks.map itt).take (i+1)=(ks.map itt).take i++[itt ks[i]]:=by
    rw [List.take_succ_eq_append_getElem (by rw [List.length_map];exact hl1),List.getElem_map]
   obtain ⟨kid,hkid⟩:∃ x,x=ks[i]:=⟨_,rfl⟩
   rw [←hkid] at hr hI0 hnext
   obtain ⟨l2,tv2,t2,kv2,ks2⟩:=kid
   obtain ⟨ta2,tc2,rfl,_,_⟩:=hI0.inv.1.form
   obtain ⟨ka2,kc2,rfl,_,_⟩:=hI0.inv.2.1.form
   have hb2:Bytes w4 (.slice ta2 t2.length tc2) t2:=hI0.inv.1
   obtain ⟨tn2,htn2⟩:∃ tn2,tn2=t2.length:=⟨_,rfl⟩
   obtain ⟨kn2,hkn2⟩:∃ kn2,kn2=ks2.length:=⟨_,rfl⟩
   rw [←htn2,←hkn2] at hr
   rw [←htn2] at hb2
   change wr.rangeAt b2 (off2+i*3) [.bool l2,.slice ta2 tn2 tc2,.slice ka2 kn2 kc2] at hr
   change (ks.map itt).take (i+1)=(ks.map itt).take i++[t2] at hnext
   have Hnext:=Lib.hid hnext
   have Hb2:=Lib.hid hb2
   have bA:Below wr.heap.size wr (wr.alloc (.cells #[.bool l2,.slice ta2 tn2 tc2,.slice ka2 kn2 kc2] 77)):=(Below.refl _ _).alloc (Nat.le_refl _) _
   have G2:=G.kept bA
   have hb42:=Below.then hb4 bA
   have O2:=hO.kept bA
   clear hkid hI0 htn2 hkn2 hnext hb2 hl1
   go_wp2_with (first
    |(refine wpList_load_mid (op:=⟨some 31,_,_,_,_,_⟩) (by rfl) 77 (.tmp 30) (by rfl) b2 (off2+i*3) (by rfl) [.bool l2,.slice ta2 tn2 tc2,.slice ka2 kn2 kc2] _ hr Tryz.underlying77 rfl (by kernel_rfl) ?_)
    |(refine wpList_buildW (o:=⟨some 35,_,_,_,_,_⟩) (by rfl) 44 1 [(0,.tmp 34)] (by rfl) elTxt [(.slice ta2 tn2 tc2,t2)] [.slice ta2 tn2 tc2] (by rfl) (by rfl) (by rfl) (by omega) (by omega) ?_;intro w6 _ hr6 b6;have G6:=G2.kept b6;have O6:=O2.kept b6;have hb46:=Below.then hb42 b6;have hlt6:w4.heap.size≤w6.heap.size:=hb46.size)
    |(refine wpList_appB (o:=⟨some 36,_,_,_,_,_⟩) (by rfl) (.tmp 32) (.tmp 35) 44 (by rfl) elTxt (by intro u hu;simp [tcell] at hu;subst hu;rfl) (by rfl) O6 (by rfl) hr6 hlt6 (by rw [Hpl.out];simp;omega) (by rw [Hpl.out];unfold maxLen;simp;omega) ?_;intro v7 w7 hO7 gg7 _;obtain ⟨la7,lc7,rfl,_⟩:=hO7.form' (i+1) (by rw [List.length_append,Hpl.out];rfl);have G7:=G6.grown gg7 (fun x hx=>by have:=O6.lt x hx;omega);have hb47:=hb46.grown gg7 hb46.size (fun x hx=>O6.lt x hx)))
   go_roundw
   case rel=>exact ⟨i+1,ps++[(.slice ta2 tn2 tc2,t2)],by omega,by go_num,G7,hb47,hO7,Lib.hid (by rw [List.map_append,Hps.out,Hnext.out];rfl),Lib.hid (by intro q hq;rcases List.mem_append.1 hq with hq|hq;exact Hall.out q hq;rw [List.mem_singleton] at hq;subst hq;exact Hb2.out)⟩
   case measure=>simp [intOf];omega
  ·obtain rfl:kn=i:=by omega
   have hps:ps.map (·.2)=ks.map itt:=by rw [Hps.out,List.take_of_length_le (by rw [List.length_map,Hkn.out];exact Nat.le_refl _)]
   have hres:hrd (ks.map itt) b=O:=Hlaw.out _ Hkk.out.2.1
   have hk2:kn=2:=Hkn.out.symm.trans (Hkk.out.1.trans H2.out)
   have h17f:((kn:Int)==17)=false:=by rw [beq_eq_false_iff_ne];omega
   have h2t:((kn:Int)==2)=true:=by rw [beq_iff_eq];omega
   have j0:(0:Int)<(kn:Int):=by omega
   have j1:(1:Int)<(kn:Int):=by omega
   have j0n:0<kn:=by omega
   have j1n:1<kn:=by omega
   have hkT:ks.map itt=kidT p:=Hkk.out.2.2
   have hpl2:ps.length=2:=by rw [Hpl.out,hk2]
   obtain ⟨y0,y1,rfl⟩:∃ y0 y1,ps=[y0,y1]:=by
    match ps,hpl2 with
    | [y0,y1],_=>exact ⟨y0,y1,rfl⟩
   obtain ⟨v0,t0⟩:=y0
   obtain ⟨v1,t1⟩:=y1
   have r0:Bytes w4 v0 t0:=Hall.out _ List.mem_cons_self
   have r1:Bytes w4 v1 t1:=Hall.out _ (List.mem_cons_of_mem _ List.mem_cons_self)
   have hl01:ks.map itt=[t0,t1]:=hps.symm
   have hkids:kidT p=[t0,t1]:=hkT.symm.trans hl01
   have hlen0:t0.length≤1048576:=Nat.le_trans (kidT_le p t0 (by rw [hkids];simp)) Hle.out
   have hlen1:t1.length≤1048576:=Nat.le_trans (kidT_le p t1 (by rw [hkids];simp)) Hle.out
   have hbl:∀ x,(Value.slice la kn lc).ownBlock=some x→w4.heap.size≤x:=fun x hx=>hO.lt x hx
   have hrw:=hO.row
   obtain ⟨bl,ol,rfl,hc0⟩:=RowOf.cells (f:=tcell) (size:=1) (fun _=>rfl) hrw 0 (by simp)
   have hc00:wr.cell? ⟨bl,ol,none⟩=some v0:=by simpa using hc0 0 v0 rfl
   obtain ⟨bl',ol',e',hc1⟩:=RowOf.cells (f:=tcell) (size:=1) (fun _=>rfl) hrw 1 (by simp)
   simp only [Option.some.injEq,Addr.mk.injEq,and_true] at e'
   obtain ⟨rfl,rfl⟩:=e'
   have hc11:wr.cell? ⟨bl,ol+1,none⟩=some v1:=by simpa using hc1 0 v1 rfl
   have hblt:=World.block_lt_of_cell? wr _ hc00
   obtain ⟨a0,q0,rfl,_,_⟩:=r0.form
   obtain ⟨a1,q1,rfl,_,_⟩:=r1.form
   have hP3:unP t0=unP t0:=rfl
   have un:∀ u,Bytes u (.slice a0 t0.length q0) t0→Calls Tryz.prog 152 #[.slice a0 t0.length q0] u _:=fun u hu=>nuntag_any a0 t0.length q0 t0 rfl u hu (by omega)
   have hx0:(ks.map itt)[0]?.getD []=t0:=by rw [hl01];rfl
   have hf0:unLeaf t0=true:=by rw [←hx0,hkT];exact Hf.out
   rw [hf0] at un
   have htr:triesL (ks.map itt)=[(0,[],[],[]),(1,unP t0,t1,[])]:=by
    unfold triesL
    rw [hl01]
    show _::((if 2=2 then (if unLeaf t0=true then _ else _) else [])++(if 2=17 then _ else []))=_
    rw [hf0];rfl
   have Htr0:=Lib.hid htr
   have Hres:=Lib.hid hres
   have Un:=Lib.hid un
   clear htr hres hps un hP3 hx0 hl01 hkids hkT hf0 hk2 hc0 hc1 hpl2
   go_wp2_with (first
    |(refine wpList_buildW (o:=⟨some 39,_,_,_,_,_⟩) (by rfl) 208 1 [(0,.tmp 38)] (by rfl) elShp [zShp] [.agg #[.int .i64 0,.slice none 0 0,.slice none 0 0,.slice none 0 0]] (by rfl) (by rfl) (by rfl) (by omega) (by omega) ?_;intro w6 hblk6 hr6 b6;have G6:=G.kept b6;have e60:w6.cell? ⟨bl,ol,none⟩=some (.slice a0 t0.length q0):=by rw [b6.cell (p:=⟨bl,ol,none⟩) hblt];exact hc00)
    |(go_at_call 152;(with_reducible refine (Un.out _ ((r0.below hb4).below b6)).mono ?_);rintro e w7 ⟨v7,rfl,r7,b7⟩;obtain ⟨p3,pc3,rfl,_,_⟩:=r7.form;have G7:=G6.kept b7;have b67:=Below.then b6 b7;have e71:w7.cell? ⟨bl,ol+1,none⟩=some (.slice a1 t1.length q1):=by rw [b67.cell (p:=⟨bl,ol+1,none⟩) hblt];exact hc11)
    |(refine wpList_buildW (o:=⟨some 58,_,_,_,_,_⟩) (by rfl) 208 1 [(0,.tmp 57)] (by rfl) elShp [(⟨1,.slice p3 (unP t0).length pc3,unP t0,.slice a1 t1.length q1,t1,.slice none 0 0,[]⟩:Shp)] [.agg #[.int .i64 1,.slice p3 (unP t0).length pc3,.slice a1 t1.length q1,.slice none 0 0]] (by rfl) (by rfl) (by rfl) (by omega) (by omega) ?_;intro w8 hblk8 hr8 b8;have G8:=G7.kept b8;have b68:=Below.then b67 b8;have hr68:=(hr6.below b7).below b8)
    |(refine wpList_appF (o:=⟨some 59,_,_,_,_,_⟩) (by rfl) (.tmp 52) (.tmp 58) 208 (by rfl) elShp (by intro u hu;simp [shcells] at hu;rcases hu with rfl|rfl|rfl|rfl<;>rfl) (by rfl) hr68 (by rfl) hr8 (by simp) (by simp) (by simp) (by simp [maxLen]) ?_;intro v9 wS hrS bS;have GS:=G8.kept bS;have b6S:=Below.then b68 bS;have r3S:=(r7.below b8).below bS;obtain ⟨lS,cS,rfl,_⟩:=hrS.form' 2 rfl))
   obtain ⟨bS,oS,rfl,_⟩:=RowOf.cells (f:=shcells) (size:=4) (fun _=>rfl) hrS 0 (by simp)
   have hT2:TrS w.heap.size wS (⟨1,.slice p3 (unP t0).length pc3,unP t0,.slice a1 t1.length q1,t1,.slice none 0 0,[]⟩:Shp):=⟨(by intro x hx;simp [Value.ownBlock] at hx),⟨r3S,((r1.below hb4).below b6S),⟨RowOf.nil tcell 1 wS,by simp⟩⟩,(by have:=unP_le t0;show (unP t0).length≤_;omega),hlen1,(by simp),(by simp)⟩
   have hTT:∀ x∈[zShp]++[(⟨1,.slice p3 (unP t0).length pc3,unP t0,.slice a1 t1.length q1,t1,.slice none 0 0,[]⟩:Shp)],TrS w.heap.size wS x:=TrS.two hT2
   have hll:([zShp]++[(⟨1,.slice p3 (unP t0).length pc3,unP t0,.slice a1 t1.length q1,t1,.slice none 0 0,[]⟩:Shp)]).length=2:=rfl
   have htr2:triesL (ks.map itt)=([zShp]++[(⟨1,.slice p3 (unP t0).length pc3,unP t0,.slice a1 t1.length q1,t1,.slice none 0 0,[]⟩:Shp)]).map toQ:=Htr0.out
   obtain ⟨SS,hSS⟩:∃ SS,SS=[zShp]++[(⟨1,.slice p3 (unP t0).length pc3,unP t0,.slice a1 t1.length q1,t1,.slice none 0 0,[]⟩:Shp)]:=⟨_,rfl⟩
   rw [←hSS] at hrS hTT hll htr2
   have HS:=Lib.hid hTT
   have HSl:=Lib.hid hll
   have Htr:=Lib.hid htr2
   clear hSS hTT hll htr2 hT2 G hb4 hO G6 G7 G8 e60 e71 hr6 hr8 hr68 r7 hc00 hc11 j0 j1 j0n j1n h2t hblk6 hblk8
   go_loopw [81] (fun ix wr=>∃ k:Nat,k≤2∧ix=.int .i64 (k:Int)∧HrW w g4 [.bool l,.slice ta tn tc,.slice ka kn kc] wr∧Below wS.heap.size wS wr∧Hid (∀ (j:Nat) (x:Shp),j<k→SS[j]?=some x→hitQ b (toQ x)=false)) (fun ix _=>2 - (intOf ix).toNat)
   case atStart=>exact ⟨0,by omega,rfl,GS,Below.refl _ _,Lib.hid (fun j x hj=>by omega)⟩
   case round =>
    clear GS
    obtain ⟨k,hk1,rfl,G,hbS,Hno⟩:=hrel
    by_cases hlk:k<2
    ·have hki:(k:Int)<2:=by omega
     have hl1:k<SS.length:=by rw [HSl.out];exact hlk
     obtain ⟨b3,o3,e3,hr3⟩:=RowOf.range (f:=shcells) (size:=4) (fun _=>rfl) (hrS.below hbS) k hl1
     simp only [Option.some.injEq,Addr.mk.injEq,and_true] at e3
     obtain ⟨rfl,rfl⟩:=e3
     have hT:=HS.out _ (List.getElem_mem hl1)
     have hat:SS[k]?=some SS[k]:=List.getElem?_eq_getElem hl1
     obtain ⟨sk,hsk⟩:∃ x,x=SS[k]:=⟨_,rfl⟩
     rw [←hsk] at hr3 hT hat
     obtain ⟨kd,pv,pp,vv,vb,kv,qs⟩:=sk
     obtain ⟨i0,⟨i1,i2,i3⟩,q1,q2,q3,q4⟩:=hT
     dsimp only at i0 i1 i2 i3 q1 q2 q3 q4
     obtain ⟨pa,pc,rfl,_⟩:=i1.form' _ rfl
     obtain ⟨va,vc,rfl,_⟩:=i2.form' _ rfl
     obtain ⟨qa,qc,rfl,_⟩:=i3.1.form' _ rfl
     obtain ⟨pn,hpn⟩:∃ x,x=pp.length:=⟨_,rfl⟩
     obtain ⟨vn,hvn⟩:∃ x,x=vb.length:=⟨_,rfl⟩
     obtain ⟨qn,hqn⟩:∃ x,x=qs.length:=⟨_,rfl⟩
     rw [←hpn] at hr3 i1 hat q1
     rw [←hvn] at hr3 i2 hat q2
     rw [←hqn] at hr3 i0 i3 hat q3
     change wr.rangeAt bS (oS+k*4) [.int .i64 kd,.slice pa pn pc,.slice va vn vc,.slice qa qn qc] at hr3
     have hcode:∀ u:World,Below wS.heap.size wS u→Calls Tryz.prog 136 #[.agg #[.int .i64 kd,.slice pa pn pc,.slice va vn vc,.slice qa qn qc]] u (CodePost (okQ (kd,pp,vb,qs.map (·.2))) (bQ (kd,pp,vb,qs.map (·.2))) u):=fun u hu=>hcode_any kd pa va qa pn pc vn vc qn qc pp vb qs hpn.symm hvn.symm hqn.symm u (i1.below hu) (i2.below hu) (i3.below hu) q1 q2 q3 q4
     have hfin:∀ u u':World,Below wS.heap.size wS u→Blk 133 u w.heap.size zsh→u.grownBy u' (some w.heap.size)→Below w.heap.size w u'→RdPost (some (kd,pp,vb,qs.map (·.2))) w (.returned (.tuple #[.agg #[.int .i64 kd,.slice pa pn pc,.slice va vn vc,.slice qa qn qc],.int .i64 0])) u':=fun u u' hu hz hg hb=>⟨hb,pa,pc,va,vc,qa,qc,qs,by rw [List.length_map,←hpn,←hvn,←hqn],by rw [←hpn];exact Bytes.off_v (i1.below hu) hz (by intro x hx k;simp [zsh] at hx;rcases hx with rfl|rfl<;>simp) hg,by rw [←hvn];exact Bytes.off_v (i2.below hu) hz (by intro x hx k;simp [zsh] at hx;rcases hx with rfl|rfl<;>simp) hg,by rw [List.length_map,←hqn];exact Texts.offB (i3.below hu) hz (by intro x hx k;simp [zsh] at hx;rcases hx with rfl|rfl<;>simp) hg i0,rfl⟩
     have bA:Below wr.heap.size wr (wr.alloc (.cells #[.int .i64 kd,.slice pa pn pc,.slice va vn vc,.slice qa qn qc] 133)):=(Below.refl _ _).alloc (Nat.le_refl _) _
     have G8:=G.kept bA
     have hb8:=Below.then hbS bA
     have h14:=Blk.new wr 133 [.int .i64 kd,.slice pa pn pc,.slice va vn vc,.slice qa qn qc]
     have h14':Blk 133 (wr.alloc (.cells #[.int .i64 kd,.slice pa pn pc,.slice va vn vc,.slice qa qn qc] 133)) wr.heap.size [.int .i64 kd,.slice pa pn pc,.slice va vn vc,.slice qa qn qc]:=h14
     have hq0:toQ ⟨kd,.slice pa pn pc,pp,.slice va vn vc,vb,.slice qa qn qc,qs⟩=(kd,pp,vb,qs.map (·.2)):=rfl
     have hhit:hitQ b (kd,pp,vb,qs.map (·.2))=true→O=some (kd,pp,vb,qs.map (·.2)):=fun hh=>by
      rw [←Hres.out,hrd_find,Htr.out]
      refine find_at (k:=k) (fun j x hj hx=>?_) (by rw [List.getElem?_map,hat];rfl) hh
      rw [List.getElem?_map] at hx
      cases hj2:SS[j]? with
      | none=>rw [hj2] at hx;simp at hx
      | some y =>
       rw [hj2] at hx
       simp only [Option.map_some,Option.some.injEq] at hx
       subst hx
       exact Hno.out j y hj hj2
     have hmiss:hitQ b (kd,pp,vb,qs.map (·.2))=false→∀ (j:Nat) (x:Shp),j<k+1→SS[j]?=some x→hitQ b (toQ x)=false:=fun hm j x hj hx=>by
      rcases Nat.lt_or_ge j k with h|h
      ·exact Hno.out j x h hx
      ·obtain rfl:j=k:=by omega
       rw [hat] at hx
       simp only [Option.some.injEq] at hx
       subst hx
       exact hm
     obtain ⟨ok,hok⟩:∃ x,x=okQ (kd,pp,vb,qs.map (·.2)):=⟨_,rfl⟩
     obtain ⟨TB,hTB⟩:∃ x,x=bQ (kd,pp,vb,qs.map (·.2)):=⟨_,rfl⟩
     have hhq:hitQ b (kd,pp,vb,qs.map (·.2))=(ok&&decide (TB=b)):=by unfold hitQ;rw [←hok,←hTB]
     rw [hhq] at hhit hmiss
     simp only [←hok,←hTB] at hcode
     obtain ⟨sq,hsq⟩:∃ x,x=((kd,pp,vb,qs.map (·.2)):Shq):=⟨_,rfl⟩
     rw [←hsq] at hhit hfin
     have Hfin:=Lib.hid hfin
     clear hfin hq0 hhq hok hTB hsq h14 i0 i1 i2 i3 q1 q2 q3 q4 hpn hvn hqn hsk hat hl1 Hno
     cases ok with
     | false =>
      have hm2:=hmiss (by simp)
      have Hm2:=Lib.hid hm2
      have hcode2:∀ u:World,Below wS.heap.size wS u→Calls Tryz.prog 136 #[.agg #[.int .i64 kd,.slice pa pn pc,.slice va vn vc,.slice qa qn qc]] u fun e w'=>∃ v,e=.returned (.tuple #[v,.int .i64 1])∧Bytes w' v []∧Below u.heap.size u w':=hcode
      have Hcode:=Lib.hid hcode2
      clear hcode hcode2 hhit hmiss hm2
      go_wp2_with (first
       |(refine wpList_load_mid (op:=⟨some 84,_,_,_,_,_⟩) (by rfl) 133 (.tmp 83) (by rfl) bS (oS+k*4) (by rfl) [.int .i64 kd,.slice pa pn pc,.slice va vn vc,.slice qa qn qc] _ hr3 Tryz.underlying133 rfl (by kernel_rfl) ?_)
       |(go_at_call 136;(with_reducible refine (Hcode.out _ hb8).mono ?_);rintro e w8 ⟨v8,rfl,r8,bb8⟩;have G9:=G8.kept bb8;have hb9:=Below.then hb8 bb8))
      go_roundw
      case rel=>exact ⟨k+1,by omega,by go_num,G9,hb9,Hm2⟩
      case measure=>simp [intOf];omega
     | true =>
      have hcode2:∀ u:World,Below wS.heap.size wS u→Calls Tryz.prog 136 #[.agg #[.int .i64 kd,.slice pa pn pc,.slice va vn vc,.slice qa qn qc]] u fun e w'=>∃ v,e=.returned (.tuple #[v,.int .i64 0])∧Bytes w' v TB∧Below u.heap.size u w':=hcode
      have Hcode:=Lib.hid hcode2
      clear hcode hcode2
      by_cases heq:TB=b
      ·have hOS:=hhit (by rw [heq];simp)
       subst hOS
       clear hhit hmiss
       go_wp2_with (first
        |(refine wpList_load_mid (op:=⟨some 84,_,_,_,_,_⟩) (by rfl) 133 (.tmp 83) (by rfl) bS (oS+k*4) (by rfl) [.int .i64 kd,.slice pa pn pc,.slice va vn vc,.slice qa qn qc] _ hr3 Tryz.underlying133 rfl (by kernel_rfl) ?_)
        |(go_at_call 136;(with_reducible refine (Hcode.out _ hb8).mono ?_);rintro e w8 ⟨v8,rfl,r8,bb8⟩;have G9:=G8.kept bb8;have hb9:=Below.then hb8 bb8;have h15:=h14'.kept bb8;have s1:=run_str (P:=Tryz.prog) (src:=25) (dst:=9) elU8.ht (by kernel_rfl) (by kernel_rfl) r8;have s2:=run_str (P:=Tryz.prog) (src:=25) (dst:=9) elU8.ht (by kernel_rfl) (by kernel_rfl) (h.below G9.hb);rw [heq] at s1)
        |(refine wpList_loadA (o:=⟨some 99,_,_,_,_,_⟩) (by rfl) 133 (.tmp 14) (by rfl) wr.heap.size (by rfl) aggShape h15 (by rfl) ?_)
        |((with_reducible show wpList _ _ _ (⟨none,.store _ _ (.tmp 99),_,_,_,_⟩::_) _ _);refine wpList_storeA (o:=⟨none,_,_,_,_,_⟩) (by rfl) 133 (.tmp 2) (.tmp 99) (by rfl) w.heap.size [.int .i64 kd,.slice pa pn pc,.slice va vn vc,.slice qa qn qc] (by rfl) (by rfl) aggShape G9.hz (by rfl) (by rfl) (by intro u hu;simp at hu;rcases hu with rfl|rfl|rfl|rfl<;>rfl) G9.hb (Nat.le_refl _) ?_;intro w10 h10 hbel10 gg10))
       exact bodyPost_ret (v:=.tuple #[.agg #[.int .i64 kd,.slice pa pn pc,.slice va vn vc,.slice qa qn qc],.int .i64 0]) (results_blk_tmp rfl _ _ w.heap.size aggShape h10 rfl rfl rfl) rfl (Hfin.out _ w10 hb9 G9.hz gg10 hbel10)
      ·have hsb:(TB==b)=false:=by rw [beq_eq_false_iff_ne];exact heq
       have hsc:decide (TB=b)=false:=decide_eq_false heq
       have hsnd:decide ((⟨TB.toArray⟩:ByteArray)=⟨b.toArray⟩)=false:=by
        rw [decide_eq_false_iff_not];intro e;apply heq;simpa using congrArg (fun x:ByteArray=>x.data.toList) e
       have hm2:=hmiss (by rw [hsc];rfl)
       have Hm2:=Lib.hid hm2
       clear heq hhit hmiss hm2
       go_wp2_with (first
        |(refine wpList_load_mid (op:=⟨some 84,_,_,_,_,_⟩) (by rfl) 133 (.tmp 83) (by rfl) bS (oS+k*4) (by rfl) [.int .i64 kd,.slice pa pn pc,.slice va vn vc,.slice qa qn qc] _ hr3 Tryz.underlying133 rfl (by kernel_rfl) ?_)
        |(go_at_call 136;(with_reducible refine (Hcode.out _ hb8).mono ?_);rintro e w8 ⟨v8,rfl,r8,bb8⟩;have G9:=G8.kept bb8;have hb9:=Below.then hb8 bb8;have s1:=run_str (P:=Tryz.prog) (src:=25) (dst:=9) elU8.ht (by kernel_rfl) (by kernel_rfl) r8;have s2:=run_str (P:=Tryz.prog) (src:=25) (dst:=9) elU8.ht (by kernel_rfl) (by kernel_rfl) (h.below G9.hb)))
       go_roundw
       case rel=>exact ⟨k+1,by omega,by go_num,G9,hb9,Hm2⟩
       case measure=>simp [intOf];omega
    ·obtain rfl:k=2:=by omega
     have hON:O=none:=by
      rw [←Hres.out,hrd_find,Htr.out]
      exact find_no (fun j x hx=>by
       rw [List.getElem?_map] at hx
       cases hj:SS[j]? with
       | none=>rw [hj] at hx;simp at hx
       | some y =>
        rw [hj] at hx
        simp only [Option.map_some,Option.some.injEq] at hx
        subst hx
        exact Hno.out j y (by have:=(List.getElem?_eq_some_iff.1 hj).1;rw [HSl.out] at this;exact this) hj)
     subst hON
     have hzz:=G.hz
     go_wp2_with ((with_reducible show wpList _ _ _ (⟨none,.store _ _ (.tmp 101),_,_,_,_⟩::_) _ _);refine wpList_storeA (o:=⟨none,_,_,_,_,_⟩) (by rfl) 133 (.tmp 2) (.tmp 101) (by rfl) w.heap.size zsh (by rfl) (by rfl) aggShape hzz (by rfl) (by rfl) (by intro u hu;simp [zsh] at hu;rcases hu with rfl|rfl<;>rfl) G.hb (Nat.le_refl _) ?_;intro w9 h9 hbel9 _)
     exact bodyPost_ret (v:=.tuple #[.agg #[.int .i64 0,.slice none 0 0,.slice none 0 0,.slice none 0 0],.int .i64 1]) (results_blk_tmp rfl _ _ w.heap.size aggShape h9 rfl rfl rfl) rfl ⟨hbel9,rfl⟩
theorem hread_road (a:Option Addr)(L c:Nat)(b:List UInt8)(hL:b.length=L)(hLs:L≤1048576)(p:Pit)(hd:dec b=some p)(h2:kidsN p=2)(hf:unLeaf ((kidT p)[0]?.getD [])=false)(w:World)(h:Bytes w (.slice a L c) b):Calls Tryz.prog 127 #[.slice a L c] w (RdPost (rdB b) w):=by
 have hz:Blk 133 (w.alloc (.cells zsh.toArray 133)) w.heap.size zsh:=Blk.new w _ _
 have hbel:Below w.heap.size w (w.alloc (.cells zsh.toArray 133)):=(Below.refl _ _).alloc (Nat.le_refl _) _
 have hlt0:=hz.lt
 have cc:=fun u (hu:Bytes u (.slice a L c) b)=>pdecode_any a L c b hL hLs u hu
 have hE:decE b=0:=by unfold decE;rw [hd];rfl
 have hP:decP b=p:=by unfold decP;rw [hd];rfl
 have hle:(encP p).length≤1048576:=by rw [←dec_back hd,hL];exact hLs
 have hlaw:=fun (l:List (List UInt8)) (hk:KidsOf p l)=>hrd_rd b p l hd (by omega) hk
 obtain ⟨O,hO⟩:∃ O,O=rdB b:=⟨_,rfl⟩
 rw [←hO] at hlaw
 rw [←hO]
 rw [hE] at cc
 have C:=Lib.hid cc
 have HP:=Lib.hid hP
 have Hle:=Lib.hid hle
 have Hlaw:=Lib.hid hlaw
 have HL:=Lib.hid hL
 have H2:=Lib.hid h2
 have Hf:=Lib.hid hf
 clear h2 hf
 clear cc hE hP hle hlaw hO hd hL
 go_enter Tryz.func127,Tryz.ntmps127
 go_wp2_with (first
  |(go_at_call 45;(with_reducible refine (C.out _ (h.alloc _)).mono ?_);rintro e w1 ⟨it,rfl,b1,hF,hbare,he⟩;have hz1:=hz.kept b1;have hbel1:=Below.then hbel b1;obtain ⟨l,tv,t,kv,ks⟩:=it;have hkk:ks.length=kidsN p∧KidsOf p (ks.map itt)∧ks.map itt=kidT p:=kids_of hbare (he.trans HP.out);obtain ⟨ta,tc,rfl,_,_⟩:=hF.is.inv.1.form;obtain ⟨ka,kc,rfl,_,_⟩:=hF.is.inv.2.1.form;obtain ⟨tn,htn⟩:∃ tn,tn=t.length:=⟨_,rfl⟩;obtain ⟨kn,hkn⟩:∃ kn,kn=ks.length:=⟨_,rfl⟩;have hI1:=hF.is;rw [←htn,←hkn] at hI1;rw [←htn,←hkn];have Hkn:=Lib.hid hkn.symm;have Hkk:=Lib.hid hkk;have hs1:=b1.size;clear htn hkn hkk he hbare;simp only [icells])
  |((with_reducible show wpList _ _ _ (⟨none,.store _ _ (.tmp 20),_,_,_,_⟩::_) _ _);refine wpList_storeA (o:=⟨none,_,_,_,_,_⟩) (by rfl) 77 (.tmp 4) (.tmp 20) (by rfl) w1.heap.size [.bool l,.slice ta tn tc,.slice ka kn kc] (by rfl) (by rfl) aggItem (Blk.new w1 77 [.bool false,.slice none 0 0,.slice none 0 0]) (by rfl) (by rfl) (by intro u hu;simp at hu;rcases hu with rfl|rfl|rfl<;>rfl) (((Below.refl w1.heap.size w1).alloc (Nat.le_refl _) (.cells #[.bool false,.slice none 0 0,.slice none 0 0] 77))) (Nat.le_refl _) ?_;intro w4 h4 b4 _;have G4:HrW w w1.heap.size [.bool l,.slice ta tn tc,.slice ka kn kc] w4:=⟨Below.then hbel1 b4,hz1.kept b4,h4,Nat.lt_of_lt_of_le hlt0 hs1⟩;have hI4:=hI1.kept b4;have c42:w4.cell? ⟨w1.heap.size,2,none⟩=some (.slice ka kn kc):=h4.cell 2))
 have hrow:=hI4.inv.2.1
 have hkids:=hI4.inv.2.2
 obtain ⟨g4,hg4⟩:∃ g4,g4=w1.heap.size:=⟨_,rfl⟩
 rw [←hg4] at G4
 rw [←hg4]
 have hlt4:g4<w4.heap.size:=G4.h4.lt
 have Hkids:=Lib.hid hkids
 have hk8:kn≤1048576:=by have h1:=kidsN_le p;have h2:=Hle.out;have h3:=Hkk.out.1;have h4:=Hkn.out;omega
 clear c42 hkids hg4 hz1 hbel1 b1 hI1 hF hs1 h4 b4
 go_loopw [6,28] (fun lv ix wr=>∃ (i:Nat) (ps:List (Value × List UInt8)),i≤kn∧ix=.int .i64 (i:Int)∧HrW w g4 [.bool l,.slice ta tn tc,.slice ka kn kc] wr∧Below w4.heap.size w4 wr∧OwnOf tcell 1 25 wr w4.heap.size lv ps∧Hid (ps.map (·.2)=(ks.map itt).take i)∧Hid (∀ q∈ps,Bytes w4 q.1 q.2)) (fun _ ix _=>kn - (intOf ix).toNat)
 case atStart=>exact ⟨0,[],by omega,rfl,G4,Below.refl _ _,OwnOf.nil tcell 1 _ _ _,Lib.hid rfl,Lib.hid (by simp)⟩
 case round =>
  clear G4
  obtain ⟨i,ps,hin,rfl,G,hb4,hO,Hps,Hall⟩:=hrel
  have hpl:ps.length=i:=by
   have:=congrArg List.length Hps.out
   simp only [List.length_map,List.length_take] at this
   have h2:=Hkn.out
   omega
  obtain ⟨la,lc,rfl,_⟩:=hO.form' i hpl
  have Hpl:=Lib.hid hpl
  clear hpl
  by_cases hlt:i<kn
  ·have hii:(i:Int)<(kn:Int):=by omega
   have hl1:i<ks.length:=by rw [Hkn.out];exact hlt
   obtain ⟨b2,off2,rfl,hr⟩:=RowOf.range icells_len (hrow.below hb4) i hl1
   have hI0:=Hkids.out _ (List.getElem_mem hl1)
   have hnext:(ks.map itt).take (i+1)=(ks.map itt).take i++[itt ks[i]]:=by
    rw [List.take_succ_eq_append_getElem (by rw [List.length_map];exact hl1),List.getElem_map]
   obtain ⟨kid,hkid⟩:∃ x,x=ks[i]:=⟨_,rfl⟩
   rw [←hkid] at hr hI0 hnext
   obtain ⟨l2,tv2,t2,kv2,ks2⟩:=kid
   obtain ⟨ta2,tc2,rfl,_,_⟩:=hI0.inv.1.form
   obtain ⟨ka2,kc2,rfl,_,_⟩:=hI0.inv.2.1.form
   have hb2:Bytes w4 (.slice ta2 t2.length tc2) t2:=hI0.inv.1
   obtain ⟨tn2,htn2⟩:∃ tn2,tn2=t2.length:=⟨_,rfl⟩
   obtain ⟨kn2,hkn2⟩:∃ kn2,kn2=ks2.length:=⟨_,rfl⟩
   rw [←htn2,←hkn2] at hr
   rw [←htn2] at hb2
   change wr.rangeAt b2 (off2+i*3) [.bool l2,.slice ta2 tn2 tc2,.slice ka2 kn2 kc2] at hr
   change (ks.map itt).take (i+1)=(ks.map itt).take i++[t2] at hnext
   have Hnext:=Lib.hid hnext
   have Hb2:=Lib.hid hb2
   have bA:Below wr.heap.size wr (wr.alloc (.cells #[.bool l2,.slice ta2 tn2 tc2,.slice ka2 kn2 kc2] 77)):=(Below.refl _ _).alloc (Nat.le_refl _) _
   have G2:=G.kept bA
   have hb42:=Below.then hb4 bA
   have O2:=hO.kept bA
   clear hkid hI0 htn2 hkn2 hnext hb2 hl1
   go_wp2_with (first
    |(refine wpList_load_mid (op:=⟨some 31,_,_,_,_,_⟩) (by rfl) 77 (.tmp 30) (by rfl) b2 (off2+i*3) (by rfl) [.bool l2,.slice ta2 tn2 tc2,.slice ka2 kn2 kc2] _ hr Tryz.underlying77 rfl (by kernel_rfl) ?_)
    |(refine wpList_buildW (o:=⟨some 35,_,_,_,_,_⟩) (by rfl) 44 1 [(0,.tmp 34)] (by rfl) elTxt [(.slice ta2 tn2 tc2,t2)] [.slice ta2 tn2 tc2] (by rfl) (by rfl) (by rfl) (by omega) (by omega) ?_;intro w6 _ hr6 b6;have G6:=G2.kept b6;have O6:=O2.kept b6;have hb46:=Below.then hb42 b6;have hlt6:w4.heap.size≤w6.heap.size:=hb46.size)
    |(refine wpList_appB (o:=⟨some 36,_,_,_,_,_⟩) (by rfl) (.tmp 32) (.tmp 35) 44 (by rfl) elTxt (by intro u hu;simp [tcell] at hu;subst hu;rfl) (by rfl) O6 (by rfl) hr6 hlt6 (by rw [Hpl.out];simp;omega) (by rw [Hpl.out];unfold maxLen;simp;omega) ?_;intro v7 w7 hO7 gg7 _;obtain ⟨la7,lc7,rfl,_⟩:=hO7.form' (i+1) (by rw [List.length_append,Hpl.out];rfl);have G7:=G6.grown gg7 (fun x hx=>by have:=O6.lt x hx;omega);have hb47:=hb46.grown gg7 hb46.size (fun x hx=>O6.lt x hx)))
   go_roundw
   case rel=>exact ⟨i+1,ps++[(.slice ta2 tn2 tc2,t2)],by omega,by go_num,G7,hb47,hO7,Lib.hid (by rw [List.map_append,Hps.out,Hnext.out];rfl),Lib.hid (by intro q hq;rcases List.mem_append.1 hq with hq|hq;exact Hall.out q hq;rw [List.mem_singleton] at hq;subst hq;exact Hb2.out)⟩
   case measure=>simp [intOf];omega
  ·obtain rfl:kn=i:=by omega
   have hps:ps.map (·.2)=ks.map itt:=by rw [Hps.out,List.take_of_length_le (by rw [List.length_map,Hkn.out];exact Nat.le_refl _)]
   have hres:hrd (ks.map itt) b=O:=Hlaw.out _ Hkk.out.2.1
   have hk2:kn=2:=Hkn.out.symm.trans (Hkk.out.1.trans H2.out)
   have h17f:((kn:Int)==17)=false:=by rw [beq_eq_false_iff_ne];omega
   have h2t:((kn:Int)==2)=true:=by rw [beq_iff_eq];omega
   have j0:(0:Int)<(kn:Int):=by omega
   have j1:(1:Int)<(kn:Int):=by omega
   have j0n:0<kn:=by omega
   have j1n:1<kn:=by omega
   have hkT:ks.map itt=kidT p:=Hkk.out.2.2
   have hpl2:ps.length=2:=by rw [Hpl.out,hk2]
   obtain ⟨y0,y1,rfl⟩:∃ y0 y1,ps=[y0,y1]:=by
    match ps,hpl2 with
    | [y0,y1],_=>exact ⟨y0,y1,rfl⟩
   obtain ⟨v0,t0⟩:=y0
   obtain ⟨v1,t1⟩:=y1
   have r0:Bytes w4 v0 t0:=Hall.out _ List.mem_cons_self
   have r1:Bytes w4 v1 t1:=Hall.out _ (List.mem_cons_of_mem _ List.mem_cons_self)
   have hl01:ks.map itt=[t0,t1]:=hps.symm
   have hkids:kidT p=[t0,t1]:=hkT.symm.trans hl01
   have hlen0:t0.length≤1048576:=Nat.le_trans (kidT_le p t0 (by rw [hkids];simp)) Hle.out
   have hlen1:t1.length≤1048576:=Nat.le_trans (kidT_le p t1 (by rw [hkids];simp)) Hle.out
   have hbl:∀ x,(Value.slice la kn lc).ownBlock=some x→w4.heap.size≤x:=fun x hx=>hO.lt x hx
   have hrw:=hO.row
   obtain ⟨bl,ol,rfl,hc0⟩:=RowOf.cells (f:=tcell) (size:=1) (fun _=>rfl) hrw 0 (by simp)
   have hc00:wr.cell? ⟨bl,ol,none⟩=some v0:=by simpa using hc0 0 v0 rfl
   obtain ⟨bl',ol',e',hc1⟩:=RowOf.cells (f:=tcell) (size:=1) (fun _=>rfl) hrw 1 (by simp)
   simp only [Option.some.injEq,Addr.mk.injEq,and_true] at e'
   obtain ⟨rfl,rfl⟩:=e'
   have hc11:wr.cell? ⟨bl,ol+1,none⟩=some v1:=by simpa using hc1 0 v1 rfl
   have hblt:=World.block_lt_of_cell? wr _ hc00
   obtain ⟨a0,q0,rfl,_,_⟩:=r0.form
   obtain ⟨a1,q1,rfl,_,_⟩:=r1.form
   have hP3:unP t0=unP t0:=rfl
   have un:∀ u,Bytes u (.slice a0 t0.length q0) t0→Calls Tryz.prog 152 #[.slice a0 t0.length q0] u _:=fun u hu=>nuntag_any a0 t0.length q0 t0 rfl u hu (by omega)
   have hx0:(ks.map itt)[0]?.getD []=t0:=by rw [hl01];rfl
   have hf0:unLeaf t0=false:=by rw [←hx0,hkT];exact Hf.out
   rw [hf0] at un
   have htr:triesL (ks.map itt)=[(0,[],[],[]),(2,unP t0,[],[t1])]:=by
    unfold triesL
    rw [hl01]
    show _::((if 2=2 then (if unLeaf t0=true then _ else _) else [])++(if 2=17 then _ else []))=_
    rw [hf0];rfl
   have Htr0:=Lib.hid htr
   have Hres:=Lib.hid hres
   have Un:=Lib.hid un
   obtain ⟨a63,c63,run63,row63,own63⟩:=from_anyB elTxt hrw 1 (by omega) 1 rfl
   rw [show kn - 1=1 from by omega] at run63 row63 own63
   change RowOf tcell 1 wr (.slice a63 1 c63) [(.slice a1 t1.length q1,t1)] at row63
   have l1k:(1:Int)≤(kn:Int):=by omega
   clear htr hres hps un hP3 hx0 hl01 hkids hkT hf0 hk2 hc0 hc1 hpl2
   go_wp2_with (first
    |(refine wpList_buildW (o:=⟨some 39,_,_,_,_,_⟩) (by rfl) 208 1 [(0,.tmp 38)] (by rfl) elShp [zShp] [.agg #[.int .i64 0,.slice none 0 0,.slice none 0 0,.slice none 0 0]] (by rfl) (by rfl) (by rfl) (by omega) (by omega) ?_;intro w6 hblk6 hr6 b6;have G6:=G.kept b6;have e60:w6.cell? ⟨bl,ol,none⟩=some (.slice a0 t0.length q0):=by rw [b6.cell (p:=⟨bl,ol,none⟩) hblt];exact hc00)
    |(go_at_call 152;(with_reducible refine (Un.out _ ((r0.below hb4).below b6)).mono ?_);rintro e w7 ⟨v7,rfl,r7,b7⟩;obtain ⟨p3,pc3,rfl,_,_⟩:=r7.form;have G7:=G6.kept b7;have b67:=Below.then b6 b7;have e71:w7.cell? ⟨bl,ol+1,none⟩=some (.slice a1 t1.length q1):=by rw [b67.cell (p:=⟨bl,ol+1,none⟩) hblt];exact hc11)
    |(refine wpList_buildW (o:=⟨some 65,_,_,_,_,_⟩) (by rfl) 208 1 [(0,.tmp 64)] (by rfl) elShp [(⟨2,.slice p3 (unP t0).length pc3,unP t0,.slice none 0 0,[],.slice a63 1 c63,[(.slice a1 t1.length q1,t1)]⟩:Shp)] [.agg #[.int .i64 2,.slice p3 (unP t0).length pc3,.slice none 0 0,.slice a63 1 c63]] (by rfl) (by rfl) (by rfl) (by omega) (by omega) ?_;intro w8 hblk8 hr8 b8;have G8:=G7.kept b8;have b68:=Below.then b67 b8;have hr68:=(hr6.below b7).below b8)
    |(refine wpList_appF (o:=⟨some 66,_,_,_,_,_⟩) (by rfl) (.tmp 60) (.tmp 65) 208 (by rfl) elShp (by intro u hu;simp [shcells] at hu;rcases hu with rfl|rfl|rfl|rfl<;>rfl) (by rfl) hr68 (by rfl) hr8 (by simp) (by simp) (by simp) (by simp [maxLen]) ?_;intro v9 wS hrS bS;have GS:=G8.kept bS;have b6S:=Below.then b68 bS;have r3S:=(r7.below b8).below bS;obtain ⟨lS,cS,rfl,_⟩:=hrS.form' 2 rfl))
   obtain ⟨bS,oS,rfl,_⟩:=RowOf.cells (f:=shcells) (size:=4) (fun _=>rfl) hrS 0 (by simp)
   have hT2:TrS w.heap.size wS (⟨2,.slice p3 (unP t0).length pc3,unP t0,.slice none 0 0,[],.slice a63 1 c63,[(.slice a1 t1.length q1,t1)]⟩:Shp):=⟨(by intro x hx;have h1:=hbl x (own63 x hx _ _);have:=GS.hg;omega),⟨r3S,(RowOf.nil _ 1 wS),⟨(row63.below b6S),by intro q hq;rw [List.mem_singleton] at hq;subst hq;exact (r1.below hb4).below b6S⟩⟩,(by have:=unP_le t0;show (unP t0).length≤_;omega),(by simp),(by simp),(by intro q hq;rw [List.mem_singleton] at hq;subst hq;exact hlen1)⟩
   have hTT:∀ x∈[zShp]++[(⟨2,.slice p3 (unP t0).length pc3,unP t0,.slice none 0 0,[],.slice a63 1 c63,[(.slice a1 t1.length q1,t1)]⟩:Shp)],TrS w.heap.size wS x:=TrS.two hT2
   have hll:([zShp]++[(⟨2,.slice p3 (unP t0).length pc3,unP t0,.slice none 0 0,[],.slice a63 1 c63,[(.slice a1 t1.length q1,t1)]⟩:Shp)]).length=2:=rfl
   have htr2:triesL (ks.map itt)=([zShp]++[(⟨2,.slice p3 (unP t0).length pc3,unP t0,.slice none 0 0,[],.slice a63 1 c63,[(.slice a1 t1.length q1,t1)]⟩:Shp)]).map toQ:=Htr0.out
   obtain ⟨SS,hSS⟩:∃ SS,SS=[zShp]++[(⟨2,.slice p3 (unP t0).length pc3,unP t0,.slice none 0 0,[],.slice a63 1 c63,[(.slice a1 t1.length q1,t1)]⟩:Shp)]:=⟨_,rfl⟩
   rw [←hSS] at hrS hTT hll htr2
   have HS:=Lib.hid hTT
   have HSl:=Lib.hid hll
   have Htr:=Lib.hid htr2
   clear hSS hTT hll htr2 hT2 G hb4 hO G6 G7 G8 e60 e71 hr6 hr8 hr68 r7 hc00 hc11 j0 j1 j0n j1n h2t hblk6 hblk8 l1k run63
   go_loopw [81] (fun ix wr=>∃ k:Nat,k≤2∧ix=.int .i64 (k:Int)∧HrW w g4 [.bool l,.slice ta tn tc,.slice ka kn kc] wr∧Below wS.heap.size wS wr∧Hid (∀ (j:Nat) (x:Shp),j<k→SS[j]?=some x→hitQ b (toQ x)=false)) (fun ix _=>2 - (intOf ix).toNat)
   case atStart=>exact ⟨0,by omega,rfl,GS,Below.refl _ _,Lib.hid (fun j x hj=>by omega)⟩
   case round =>
    clear GS
    obtain ⟨k,hk1,rfl,G,hbS,Hno⟩:=hrel
    by_cases hlk:k<2
    ·have hki:(k:Int)<2:=by omega
     have hl1:k<SS.length:=by rw [HSl.out];exact hlk
     obtain ⟨b3,o3,e3,hr3⟩:=RowOf.range (f:=shcells) (size:=4) (fun _=>rfl) (hrS.below hbS) k hl1
     simp only [Option.some.injEq,Addr.mk.injEq,and_true] at e3
     obtain ⟨rfl,rfl⟩:=e3
     have hT:=HS.out _ (List.getElem_mem hl1)
     have hat:SS[k]?=some SS[k]:=List.getElem?_eq_getElem hl1
     obtain ⟨sk,hsk⟩:∃ x,x=SS[k]:=⟨_,rfl⟩
     rw [←hsk] at hr3 hT hat
     obtain ⟨kd,pv,pp,vv,vb,kv,qs⟩:=sk
     obtain ⟨i0,⟨i1,i2,i3⟩,q1,q2,q3,q4⟩:=hT
     dsimp only at i0 i1 i2 i3 q1 q2 q3 q4
     obtain ⟨pa,pc,rfl,_⟩:=i1.form' _ rfl
     obtain ⟨va,vc,rfl,_⟩:=i2.form' _ rfl
     obtain ⟨qa,qc,rfl,_⟩:=i3.1.form' _ rfl
     obtain ⟨pn,hpn⟩:∃ x,x=pp.length:=⟨_,rfl⟩
     obtain ⟨vn,hvn⟩:∃ x,x=vb.length:=⟨_,rfl⟩
     obtain ⟨qn,hqn⟩:∃ x,x=qs.length:=⟨_,rfl⟩
     rw [←hpn] at hr3 i1 hat q1
     rw [←hvn] at hr3 i2 hat q2
     rw [←hqn] at hr3 i0 i3 hat q3
     change wr.rangeAt bS (oS+k*4) [.int .i64 kd,.slice pa pn pc,.slice va vn vc,.slice qa qn qc] at hr3
     have hcode:∀ u:World,Below wS.heap.size wS u→Calls Tryz.prog 136 #[.agg #[.int .i64 kd,.slice pa pn pc,.slice va vn vc,.slice qa qn qc]] u (CodePost (okQ (kd,pp,vb,qs.map (·.2))) (bQ (kd,pp,vb,qs.map (·.2))) u):=fun u hu=>hcode_any kd pa va qa pn pc vn vc qn qc pp vb qs hpn.symm hvn.symm hqn.symm u (i1.below hu) (i2.below hu) (i3.below hu) q1 q2 q3 q4
     have hfin:∀ u u':World,Below wS.heap.size wS u→Blk 133 u w.heap.size zsh→u.grownBy u' (some w.heap.size)→Below w.heap.size w u'→RdPost (some (kd,pp,vb,qs.map (·.2))) w (.returned (.tuple #[.agg #[.int .i64 kd,.slice pa pn pc,.slice va vn vc,.slice qa qn qc],.int .i64 0])) u':=fun u u' hu hz hg hb=>⟨hb,pa,pc,va,vc,qa,qc,qs,by rw [List.length_map,←hpn,←hvn,←hqn],by rw [←hpn];exact Bytes.off_v (i1.below hu) hz (by intro x hx k;simp [zsh] at hx;rcases hx with rfl|rfl<;>simp) hg,by rw [←hvn];exact Bytes.off_v (i2.below hu) hz (by intro x hx k;simp [zsh] at hx;rcases hx with rfl|rfl<;>simp) hg,by rw [List.length_map,←hqn];exact Texts.offB (i3.below hu) hz (by intro x hx k;simp [zsh] at hx;rcases hx with rfl|rfl<;>simp) hg i0,rfl⟩
     have bA:Below wr.heap.size wr (wr.alloc (.cells #[.int .i64 kd,.slice pa pn pc,.slice va vn vc,.slice qa qn qc] 133)):=(Below.refl _ _).alloc (Nat.le_refl _) _
     have G8:=G.kept bA
     have hb8:=Below.then hbS bA
     have h14:=Blk.new wr 133 [.int .i64 kd,.slice pa pn pc,.slice va vn vc,.slice qa qn qc]
     have h14':Blk 133 (wr.alloc (.cells #[.int .i64 kd,.slice pa pn pc,.slice va vn vc,.slice qa qn qc] 133)) wr.heap.size [.int .i64 kd,.slice pa pn pc,.slice va vn vc,.slice qa qn qc]:=h14
     have hq0:toQ ⟨kd,.slice pa pn pc,pp,.slice va vn vc,vb,.slice qa qn qc,qs⟩=(kd,pp,vb,qs.map (·.2)):=rfl
     have hhit:hitQ b (kd,pp,vb,qs.map (·.2))=true→O=some (kd,pp,vb,qs.map (·.2)):=fun hh=>by
      rw [←Hres.out,hrd_find,Htr.out]
      refine find_at (k:=k) (fun j x hj hx=>?_) (by rw [List.getElem?_map,hat];rfl) hh
      rw [List.getElem?_map] at hx
      cases hj2:SS[j]? with
      | none=>rw [hj2] at hx;simp at hx
      | some y =>
       rw [hj2] at hx
       simp only [Option.map_some,Option.some.injEq] at hx
       subst hx
       exact Hno.out j y hj hj2
     have hmiss:hitQ b (kd,pp,vb,qs.map (·.2))=false→∀ (j:Nat) (x:Shp),j<k+1→SS[j]?=some x→hitQ b (toQ x)=false:=fun hm j x hj hx=>by
      rcases Nat.lt_or_ge j k with h|h
      ·exact Hno.out j x h hx
      ·obtain rfl:j=k:=by omega
       rw [hat] at hx
       simp only [Option.some.injEq] at hx
       subst hx
       exact hm
     obtain ⟨ok,hok⟩:∃ x,x=okQ (kd,pp,vb,qs.map (·.2)):=⟨_,rfl⟩
     obtain ⟨TB,hTB⟩:∃ x,x=bQ (kd,pp,vb,qs.map (·.2)):=⟨_,rfl⟩
     have hhq:hitQ b (kd,pp,vb,qs.map (·.2))=(ok&&decide (TB=b)):=by unfold hitQ;rw [←hok,←hTB]
     rw [hhq] at hhit hmiss
     simp only [←hok,←hTB] at hcode
     obtain ⟨sq,hsq⟩:∃ x,x=((kd,pp,vb,qs.map (·.2)):Shq):=⟨_,rfl⟩
     rw [←hsq] at hhit hfin
     have Hfin:=Lib.hid hfin
     clear hfin hq0 hhq hok hTB hsq h14 i0 i1 i2 i3 q1 q2 q3 q4 hpn hvn hqn hsk hat hl1 Hno
     cases ok with
     | false =>
      have hm2:=hmiss (by simp)
      have Hm2:=Lib.hid hm2
      have hcode2:∀ u:World,Below wS.heap.size wS u→Calls Tryz.prog 136 #[.agg #[.int .i64 kd,.slice pa pn pc,.slice va vn vc,.slice qa qn qc]] u fun e w'=>∃ v,e=.returned (.tuple #[v,.int .i64 1])∧Bytes w' v []∧Below u.heap.size u w':=hcode
      have Hcode:=Lib.hid hcode2
      clear hcode hcode2 hhit hmiss hm2
      go_wp2_with (first
       |(refine wpList_load_mid (op:=⟨some 84,_,_,_,_,_⟩) (by rfl) 133 (.tmp 83) (by rfl) bS (oS+k*4) (by rfl) [.int .i64 kd,.slice pa pn pc,.slice va vn vc,.slice qa qn qc] _ hr3 Tryz.underlying133 rfl (by kernel_rfl) ?_)
       |(go_at_call 136;(with_reducible refine (Hcode.out _ hb8).mono ?_);rintro e w8 ⟨v8,rfl,r8,bb8⟩;have G9:=G8.kept bb8;have hb9:=Below.then hb8 bb8))
      go_roundw
      case rel=>exact ⟨k+1,by omega,by go_num,G9,hb9,Hm2⟩
      case measure=>simp [intOf];omega
     | true =>
      have hcode2:∀ u:World,Below wS.heap.size wS u→Calls Tryz.prog 136 #[.agg #[.int .i64 kd,.slice pa pn pc,.slice va vn vc,.slice qa qn qc]] u fun e w'=>∃ v,e=.returned (.tuple #[v,.int .i64 0])∧Bytes w' v TB∧Below u.heap.size u w':=hcode
      have Hcode:=Lib.hid hcode2
      clear hcode hcode2
      by_cases heq:TB=b
      ·have hOS:=hhit (by rw [heq];simp)
       subst hOS
       clear hhit hmiss
       go_wp2_with (first
        |(refine wpList_load_mid (op:=⟨some 84,_,_,_,_,_⟩) (by rfl) 133 (.tmp 83) (by rfl) bS (oS+k*4) (by rfl) [.int .i64 kd,.slice pa pn pc,.slice va vn vc,.slice qa qn qc] _ hr3 Tryz.underlying133 rfl (by kernel_rfl) ?_)
        |(go_at_call 136;(with_reducible refine (Hcode.out _ hb8).mono ?_);rintro e w8 ⟨v8,rfl,r8,bb8⟩;have G9:=G8.kept bb8;have hb9:=Below.then hb8 bb8;have h15:=h14'.kept bb8;have s1:=run_str (P:=Tryz.prog) (src:=25) (dst:=9) elU8.ht (by kernel_rfl) (by kernel_rfl) r8;have s2:=run_str (P:=Tryz.prog) (src:=25) (dst:=9) elU8.ht (by kernel_rfl) (by kernel_rfl) (h.below G9.hb);rw [heq] at s1)
        |(refine wpList_loadA (o:=⟨some 99,_,_,_,_,_⟩) (by rfl) 133 (.tmp 14) (by rfl) wr.heap.size (by rfl) aggShape h15 (by rfl) ?_)
        |((with_reducible show wpList _ _ _ (⟨none,.store _ _ (.tmp 99),_,_,_,_⟩::_) _ _);refine wpList_storeA (o:=⟨none,_,_,_,_,_⟩) (by rfl) 133 (.tmp 2) (.tmp 99) (by rfl) w.heap.size [.int .i64 kd,.slice pa pn pc,.slice va vn vc,.slice qa qn qc] (by rfl) (by rfl) aggShape G9.hz (by rfl) (by rfl) (by intro u hu;simp at hu;rcases hu with rfl|rfl|rfl|rfl<;>rfl) G9.hb (Nat.le_refl _) ?_;intro w10 h10 hbel10 gg10))
       exact bodyPost_ret (v:=.tuple #[.agg #[.int .i64 kd,.slice pa pn pc,.slice va vn vc,.slice qa qn qc],.int .i64 0]) (results_blk_tmp rfl _ _ w.heap.size aggShape h10 rfl rfl rfl) rfl (Hfin.out _ w10 hb9 G9.hz gg10 hbel10)
      ·have hsb:(TB==b)=false:=by rw [beq_eq_false_iff_ne];exact heq
       have hsc:decide (TB=b)=false:=decide_eq_false heq
       have hsnd:decide ((⟨TB.toArray⟩:ByteArray)=⟨b.toArray⟩)=false:=by
        rw [decide_eq_false_iff_not];intro e;apply heq;simpa using congrArg (fun x:ByteArray=>x.data.toList) e
       have hm2:=hmiss (by rw [hsc];rfl)
       have Hm2:=Lib.hid hm2
       clear heq hhit hmiss hm2
       go_wp2_with (first
        |(refine wpList_load_mid (op:=⟨some 84,_,_,_,_,_⟩) (by rfl) 133 (.tmp 83) (by rfl) bS (oS+k*4) (by rfl) [.int .i64 kd,.slice pa pn pc,.slice va vn vc,.slice qa qn qc] _ hr3 Tryz.underlying133 rfl (by kernel_rfl) ?_)
        |(go_at_call 136;(with_reducible refine (Hcode.out _ hb8).mono ?_);rintro e w8 ⟨v8,rfl,r8,bb8⟩;have G9:=G8.kept bb8;have hb9:=Below.then hb8 bb8;have s1:=run_str (P:=Tryz.prog) (src:=25) (dst:=9) elU8.ht (by kernel_rfl) (by kernel_rfl) r8;have s2:=run_str (P:=Tryz.prog) (src:=25) (dst:=9) elU8.ht (by kernel_rfl) (by kernel_rfl) (h.below G9.hb)))
       go_roundw
       case rel=>exact ⟨k+1,by omega,by go_num,G9,hb9,Hm2⟩
       case measure=>simp [intOf];omega
    ·obtain rfl:k=2:=by omega
     have hON:O=none:=by
      rw [←Hres.out,hrd_find,Htr.out]
      exact find_no (fun j x hx=>by
       rw [List.getElem?_map] at hx
       cases hj:SS[j]? with
       | none=>rw [hj] at hx;simp at hx
       | some y =>
        rw [hj] at hx
        simp only [Option.map_some,Option.some.injEq] at hx
        subst hx
        exact Hno.out j y (by have:=(List.getElem?_eq_some_iff.1 hj).1;rw [HSl.out] at this;exact this) hj)
     subst hON
     have hzz:=G.hz
     go_wp2_with ((with_reducible show wpList _ _ _ (⟨none,.store _ _ (.tmp 101),_,_,_,_⟩::_) _ _);refine wpList_storeA (o:=⟨none,_,_,_,_,_⟩) (by rfl) 133 (.tmp 2) (.tmp 101) (by rfl) w.heap.size zsh (by rfl) (by rfl) aggShape hzz (by rfl) (by rfl) (by intro u hu;simp [zsh] at hu;rcases hu with rfl|rfl<;>rfl) G.hb (Nat.le_refl _) ?_;intro w9 h9 hbel9 _)
     exact bodyPost_ret (v:=.tuple #[.agg #[.int .i64 0,.slice none 0 0,.slice none 0 0,.slice none 0 0],.int .i64 1]) (results_blk_tmp rfl _ _ w.heap.size aggShape h9 rfl rfl rfl) rfl ⟨hbel9,rfl⟩
theorem hread_fork (a:Option Addr)(L c:Nat)(b:List UInt8)(hL:b.length=L)(hLs:L≤1048576)(p:Pit)(hd:dec b=some p)(h17:kidsN p=17)(w:World)(h:Bytes w (.slice a L c) b):Calls Tryz.prog 127 #[.slice a L c] w (RdPost (rdB b) w):=by
 have hz:Blk 133 (w.alloc (.cells zsh.toArray 133)) w.heap.size zsh:=Blk.new w _ _
 have hbel:Below w.heap.size w (w.alloc (.cells zsh.toArray 133)):=(Below.refl _ _).alloc (Nat.le_refl _) _
 have hlt0:=hz.lt
 have cc:=fun u (hu:Bytes u (.slice a L c) b)=>pdecode_any a L c b hL hLs u hu
 have hE:decE b=0:=by unfold decE;rw [hd];rfl
 have hP:decP b=p:=by unfold decP;rw [hd];rfl
 have hle:(encP p).length≤1048576:=by rw [←dec_back hd,hL];exact hLs
 have hlaw:=fun (l:List (List UInt8)) (hk:KidsOf p l)=>hrd_rd b p l hd (by omega) hk
 obtain ⟨O,hO⟩:∃ O,O=rdB b:=⟨_,rfl⟩
 rw [←hO] at hlaw
 rw [←hO]
 rw [hE] at cc
 have C:=Lib.hid cc
 have HP:=Lib.hid hP
 have Hle:=Lib.hid hle
 have Hlaw:=Lib.hid hlaw
 have HL:=Lib.hid hL
 have H17:=Lib.hid h17
 clear h17
 clear cc hE hP hle hlaw hO hd hL
 go_enter Tryz.func127,Tryz.ntmps127
 go_wp2_with (first
  |(go_at_call 45;(with_reducible refine (C.out _ (h.alloc _)).mono ?_);rintro e w1 ⟨it,rfl,b1,hF,hbare,he⟩;have hz1:=hz.kept b1;have hbel1:=Below.then hbel b1;obtain ⟨l,tv,t,kv,ks⟩:=it;have hkk:ks.length=kidsN p∧KidsOf p (ks.map itt)∧ks.map itt=kidT p:=kids_of hbare (he.trans HP.out);obtain ⟨ta,tc,rfl,_,_⟩:=hF.is.inv.1.form;obtain ⟨ka,kc,rfl,_,_⟩:=hF.is.inv.2.1.form;obtain ⟨tn,htn⟩:∃ tn,tn=t.length:=⟨_,rfl⟩;obtain ⟨kn,hkn⟩:∃ kn,kn=ks.length:=⟨_,rfl⟩;have hI1:=hF.is;rw [←htn,←hkn] at hI1;rw [←htn,←hkn];have Hkn:=Lib.hid hkn.symm;have Hkk:=Lib.hid hkk;have hs1:=b1.size;clear htn hkn hkk he hbare;simp only [icells])
  |((with_reducible show wpList _ _ _ (⟨none,.store _ _ (.tmp 20),_,_,_,_⟩::_) _ _);refine wpList_storeA (o:=⟨none,_,_,_,_,_⟩) (by rfl) 77 (.tmp 4) (.tmp 20) (by rfl) w1.heap.size [.bool l,.slice ta tn tc,.slice ka kn kc] (by rfl) (by rfl) aggItem (Blk.new w1 77 [.bool false,.slice none 0 0,.slice none 0 0]) (by rfl) (by rfl) (by intro u hu;simp at hu;rcases hu with rfl|rfl|rfl<;>rfl) (((Below.refl w1.heap.size w1).alloc (Nat.le_refl _) (.cells #[.bool false,.slice none 0 0,.slice none 0 0] 77))) (Nat.le_refl _) ?_;intro w4 h4 b4 _;have G4:HrW w w1.heap.size [.bool l,.slice ta tn tc,.slice ka kn kc] w4:=⟨Below.then hbel1 b4,hz1.kept b4,h4,Nat.lt_of_lt_of_le hlt0 hs1⟩;have hI4:=hI1.kept b4;have c42:w4.cell? ⟨w1.heap.size,2,none⟩=some (.slice ka kn kc):=h4.cell 2))
 have hrow:=hI4.inv.2.1
 have hkids:=hI4.inv.2.2
 obtain ⟨g4,hg4⟩:∃ g4,g4=w1.heap.size:=⟨_,rfl⟩
 rw [←hg4] at G4
 rw [←hg4]
 have hlt4:g4<w4.heap.size:=G4.h4.lt
 have Hkids:=Lib.hid hkids
 have hk8:kn≤1048576:=by have h1:=kidsN_le p;have h2:=Hle.out;have h3:=Hkk.out.1;have h4:=Hkn.out;omega
 clear c42 hkids hg4 hz1 hbel1 b1 hI1 hF hs1 h4 b4
 go_loopw [6,28] (fun lv ix wr=>∃ (i:Nat) (ps:List (Value × List UInt8)),i≤kn∧ix=.int .i64 (i:Int)∧HrW w g4 [.bool l,.slice ta tn tc,.slice ka kn kc] wr∧Below w4.heap.size w4 wr∧OwnOf tcell 1 25 wr w4.heap.size lv ps∧Hid (ps.map (·.2)=(ks.map itt).take i)∧Hid (∀ q∈ps,Bytes w4 q.1 q.2)) (fun _ ix _=>kn - (intOf ix).toNat)
 case atStart=>exact ⟨0,[],by omega,rfl,G4,Below.refl _ _,OwnOf.nil tcell 1 _ _ _,Lib.hid rfl,Lib.hid (by simp)⟩
 case round =>
  clear G4
  obtain ⟨i,ps,hin,rfl,G,hb4,hO,Hps,Hall⟩:=hrel
  have hpl:ps.length=i:=by
   have:=congrArg List.length Hps.out
   simp only [List.length_map,List.length_take] at this
   have h2:=Hkn.out
   omega
  obtain ⟨la,lc,rfl,_⟩:=hO.form' i hpl
  have Hpl:=Lib.hid hpl
  clear hpl
  by_cases hlt:i<kn
  ·have hii:(i:Int)<(kn:Int):=by omega
   have hl1:i<ks.length:=by rw [Hkn.out];exact hlt
   obtain ⟨b2,off2,rfl,hr⟩:=RowOf.range icells_len (hrow.below hb4) i hl1
   have hI0:=Hkids.out _ (List.getElem_mem hl1)
   have hnext:(ks.map itt).take (i+1)=(ks.map itt).take i++[itt ks[i]]:=by
    rw [List.take_succ_eq_append_getElem (by rw [List.length_map];exact hl1),List.getElem_map]
   obtain ⟨kid,hkid⟩:∃ x,x=ks[i]:=⟨_,rfl⟩
   rw [←hkid] at hr hI0 hnext
   obtain ⟨l2,tv2,t2,kv2,ks2⟩:=kid
   obtain ⟨ta2,tc2,rfl,_,_⟩:=hI0.inv.1.form
   obtain ⟨ka2,kc2,rfl,_,_⟩:=hI0.inv.2.1.form
   have hb2:Bytes w4 (.slice ta2 t2.length tc2) t2:=hI0.inv.1
   obtain ⟨tn2,htn2⟩:∃ tn2,tn2=t2.length:=⟨_,rfl⟩
   obtain ⟨kn2,hkn2⟩:∃ kn2,kn2=ks2.length:=⟨_,rfl⟩
   rw [←htn2,←hkn2] at hr
   rw [←htn2] at hb2
   change wr.rangeAt b2 (off2+i*3) [.bool l2,.slice ta2 tn2 tc2,.slice ka2 kn2 kc2] at hr
   change (ks.map itt).take (i+1)=(ks.map itt).take i++[t2] at hnext
   have Hnext:=Lib.hid hnext
   have Hb2:=Lib.hid hb2
   have bA:Below wr.heap.size wr (wr.alloc (.cells #[.bool l2,.slice ta2 tn2 tc2,.slice ka2 kn2 kc2] 77)):=(Below.refl _ _).alloc (Nat.le_refl _) _
   have G2:=G.kept bA
   have hb42:=Below.then hb4 bA
   have O2:=hO.kept bA
   clear hkid hI0 htn2 hkn2 hnext hb2 hl1
   go_wp2_with (first
    |(refine wpList_load_mid (op:=⟨some 31,_,_,_,_,_⟩) (by rfl) 77 (.tmp 30) (by rfl) b2 (off2+i*3) (by rfl) [.bool l2,.slice ta2 tn2 tc2,.slice ka2 kn2 kc2] _ hr Tryz.underlying77 rfl (by kernel_rfl) ?_)
    |(refine wpList_buildW (o:=⟨some 35,_,_,_,_,_⟩) (by rfl) 44 1 [(0,.tmp 34)] (by rfl) elTxt [(.slice ta2 tn2 tc2,t2)] [.slice ta2 tn2 tc2] (by rfl) (by rfl) (by rfl) (by omega) (by omega) ?_;intro w6 _ hr6 b6;have G6:=G2.kept b6;have O6:=O2.kept b6;have hb46:=Below.then hb42 b6;have hlt6:w4.heap.size≤w6.heap.size:=hb46.size)
    |(refine wpList_appB (o:=⟨some 36,_,_,_,_,_⟩) (by rfl) (.tmp 32) (.tmp 35) 44 (by rfl) elTxt (by intro u hu;simp [tcell] at hu;subst hu;rfl) (by rfl) O6 (by rfl) hr6 hlt6 (by rw [Hpl.out];simp;omega) (by rw [Hpl.out];unfold maxLen;simp;omega) ?_;intro v7 w7 hO7 gg7 _;obtain ⟨la7,lc7,rfl,_⟩:=hO7.form' (i+1) (by rw [List.length_append,Hpl.out];rfl);have G7:=G6.grown gg7 (fun x hx=>by have:=O6.lt x hx;omega);have hb47:=hb46.grown gg7 hb46.size (fun x hx=>O6.lt x hx)))
   go_roundw
   case rel=>exact ⟨i+1,ps++[(.slice ta2 tn2 tc2,t2)],by omega,by go_num,G7,hb47,hO7,Lib.hid (by rw [List.map_append,Hps.out,Hnext.out];rfl),Lib.hid (by intro q hq;rcases List.mem_append.1 hq with hq|hq;exact Hall.out q hq;rw [List.mem_singleton] at hq;subst hq;exact Hb2.out)⟩
   case measure=>simp [intOf];omega
  ·obtain rfl:kn=i:=by omega
   have hps:ps.map (·.2)=ks.map itt:=by rw [Hps.out,List.take_of_length_le (by rw [List.length_map,Hkn.out];exact Nat.le_refl _)]
   have hres:hrd (ks.map itt) b=O:=Hlaw.out _ Hkk.out.2.1
   have hk17:kn=17:=Hkn.out.symm.trans (Hkk.out.1.trans H17.out)
   have h17t:((kn:Int)==17)=true:=by rw [beq_iff_eq];omega
   have h2f:((kn:Int)==2)=false:=by rw [beq_eq_false_iff_ne];omega
   have i16:(16:Int)<(kn:Int):=by omega
   have i16n:16<kn:=by omega
   have i16l:(16:Int)≤(kn:Int):=by omega
   have hkT:ks.map itt=kidT p:=Hkk.out.2.2
   have hpl17:ps.length=17:=by rw [Hpl.out,hk17]
   have hle1:∀ q∈ps,q.2.length≤1048576:=fun q hq=>Nat.le_trans (kidT_le p q.2 (by rw [←hkT,←hps];exact List.mem_map_of_mem hq)) Hle.out
   have h16:ps[16]?=some (ps[16]'(by omega)):=List.getElem?_eq_getElem (by omega)
   obtain ⟨y16,hy16⟩:∃ y,y=ps[16]'(by omega):=⟨_,rfl⟩
   rw [←hy16] at h16
   have hmem:=List.mem_of_getElem? h16
   have r16:Bytes w4 y16.1 y16.2:=Hall.out _ hmem
   have hl16:=hle1 _ hmem
   have hrw:=hO.row
   have hbl:∀ x,(Value.slice la kn lc).ownBlock=some x→w4.heap.size≤x:=fun x hx=>hO.lt x hx
   obtain ⟨bl,ol,rfl,hc0⟩:=RowOf.cells (f:=tcell) (size:=1) (fun _=>rfl) hrw 16 (by omega)
   rw [←hy16] at hc0
   obtain ⟨v16,t16⟩:=y16
   change Bytes w4 v16 t16 at r16
   change t16.length≤1048576 at hl16
   have hc16:wr.cell? ⟨bl,ol+16,none⟩=some v16:=by simpa using hc0 0 v16 rfl
   have hblt:=World.block_lt_of_cell? wr _ hc16
   obtain ⟨a16,q16,rfl,_,_⟩:=r16.form
   obtain ⟨a72,c72,run72,row72,own72⟩:=to_anyB elTxt hrw 16 (by omega) 16 rfl
   have htr:triesL (ks.map itt)=([zShp]++[(⟨3,.slice none 0 0,[],.slice a16 t16.length q16,t16,.slice a72 16 c72,ps.take 16⟩:Shp)]).map toQ:=by
    unfold triesL
    rw [←hps,List.length_map,hpl17]
    show _::((if 17=2 then _ else [])++(if 17=17 then _ else []))=_
    rw [if_neg (by decide),if_pos rfl,List.getElem?_map,h16,←List.map_take];rfl
   have Htr0:=Lib.hid htr
   have Hres:=Lib.hid hres
   have Hle1:=Lib.hid hle1
   have Hpl17:=Lib.hid hpl17
   clear htr hres hps hkT hk17 hle1 h16 hy16 hmem hc0 hpl17
   go_wp2_with (refine wpList_buildW (o:=⟨some 39,_,_,_,_,_⟩) (by rfl) 208 1 [(0,.tmp 38)] (by rfl) elShp [zShp] [.agg #[.int .i64 0,.slice none 0 0,.slice none 0 0,.slice none 0 0]] (by rfl) (by rfl) (by rfl) (by omega) (by omega) ?_;intro w6 hblk6 hr6 b6;have G6:=G.kept b6;have e60:w6.cell? ⟨bl,ol+16,none⟩=some (.slice a16 t16.length q16):=by rw [b6.cell (p:=⟨bl,ol+16,none⟩) hblt];exact hc16)
   have k1:=fun u:Ext w6=>u.cell e60
   refine wp_region_typed w6 8 (by kernel_rfl) (by kernel_rfl) (Below.refl _ _) ?_;simp only [List.take_succ_cons,List.take_zero,List.take_nil]
   iterate 7 (refine wpX_step (by rfl) (fun K hK=>?_);go_simp;first|(refine hK _ ?_;clear hK K)|(apply Exists.intro;refine ⟨fun _=>?_,hK _ ?_⟩;fail;clear hK K))
   refine wpX_rel 77 (OneS ⟨3,.slice none 0 0,[],.slice a16 t16.length q16,t16,.slice a72 16 c72,ps.take 16⟩) rfl (of_decide_eq_true rfl) (OneS.mono _) (fun w2 hw2=>?_) ?_
   ·simp only [relOf,List.filter_nil,forallRel]
    refine ⟨rfl,?_⟩
    go_simp
    exact ⟨(Below.refl _ _).alloc (Nat.le_refl _) _,w2.heap.size,rfl,Row.built (f:=shcells) (size:=4) (fun _=>rfl) w2 133 [⟨3,.slice none 0 0,[],.slice a16 t16.length q16,t16,.slice a72 16 c72,ps.take 16⟩] 1 rfl (by unfold maxLen;omega)⟩
   refine wpX_nil ?_
   intro u2 hb2 v77 h77
   change wpList _ _ _ [_,_] _ _
   obtain ⟨g77,rfl,r77⟩:=h77
   have G8:=G6.kept hb2
   have b68:=Below.then b6 hb2
   have hr68:=hr6.below hb2
   clear k1
   go_wp2_with (refine wpList_appF (o:=⟨some 78,_,_,_,_,_⟩) (by rfl) (.tmp 70) (.tmp 77) 208 (by rfl) elShp (by intro u hu;simp [shcells] at hu;rcases hu with rfl|rfl|rfl|rfl<;>rfl) (by rfl) hr68 (by rfl) r77 (by simp) (by simp) (by simp) (by simp [maxLen]) ?_;intro v9 wS hrS bS;have GS:=G8.kept bS;have b6S:=Below.then b68 bS;obtain ⟨lS,cS,rfl,_⟩:=hrS.form' 2 rfl)
   obtain ⟨bS,oS,rfl,_⟩:=RowOf.cells (f:=shcells) (size:=4) (fun _=>rfl) hrS 0 (by simp)
   have hT2:TrS w.heap.size wS (⟨3,.slice none 0 0,[],.slice a16 t16.length q16,t16,.slice a72 16 c72,ps.take 16⟩:Shp):=⟨(by intro x hx;have h1:=hbl x (own72 x hx _ _);have:=GS.hg;omega),⟨(RowOf.nil _ 1 wS),((r16.below hb4).below b6S),⟨row72.below b6S,fun q hq=>((Hall.out q (List.mem_of_mem_take hq)).below hb4).below b6S⟩⟩,(by simp),hl16,(by rw [List.length_take];show min 16 ps.length≤_;omega),fun q hq=>Hle1.out q (List.mem_of_mem_take hq)⟩
   have hTT:∀ x∈[zShp]++[(⟨3,.slice none 0 0,[],.slice a16 t16.length q16,t16,.slice a72 16 c72,ps.take 16⟩:Shp)],TrS w.heap.size wS x:=TrS.two hT2
   have hll:([zShp]++[(⟨3,.slice none 0 0,[],.slice a16 t16.length q16,t16,.slice a72 16 c72,ps.take 16⟩:Shp)]).length=2:=rfl
   have htr2:triesL (ks.map itt)=([zShp]++[(⟨3,.slice none 0 0,[],.slice a16 t16.length q16,t16,.slice a72 16 c72,ps.take 16⟩:Shp)]).map toQ:=Htr0.out
   obtain ⟨SS,hSS⟩:∃ SS,SS=[zShp]++[(⟨3,.slice none 0 0,[],.slice a16 t16.length q16,t16,.slice a72 16 c72,ps.take 16⟩:Shp)]:=⟨_,rfl⟩
   rw [←hSS] at hrS hTT hll htr2
   have HS:=Lib.hid hTT
   have HSl:=Lib.hid hll
   have Htr:=Lib.hid htr2
   clear hSS hTT hll htr2 hT2 G hb4 hO G6 G8 e60 hr6 r77 hr68 hc16 i16 i16n i16l h17t hblk6 run72
   go_loopw [81] (fun ix wr=>∃ k:Nat,k≤2∧ix=.int .i64 (k:Int)∧HrW w g4 [.bool l,.slice ta tn tc,.slice ka kn kc] wr∧Below wS.heap.size wS wr∧Hid (∀ (j:Nat) (x:Shp),j<k→SS[j]?=some x→hitQ b (toQ x)=false)) (fun ix _=>2 - (intOf ix).toNat)
   case atStart=>exact ⟨0,by omega,rfl,GS,Below.refl _ _,Lib.hid (fun j x hj=>by omega)⟩
   case round =>
    clear GS
    obtain ⟨k,hk1,rfl,G,hbS,Hno⟩:=hrel
    by_cases hlk:k<2
    ·have hki:(k:Int)<2:=by omega
     have hl1:k<SS.length:=by rw [HSl.out];exact hlk
     obtain ⟨b3,o3,e3,hr3⟩:=RowOf.range (f:=shcells) (size:=4) (fun _=>rfl) (hrS.below hbS) k hl1
     simp only [Option.some.injEq,Addr.mk.injEq,and_true] at e3
     obtain ⟨rfl,rfl⟩:=e3
     have hT:=HS.out _ (List.getElem_mem hl1)
     have hat:SS[k]?=some SS[k]:=List.getElem?_eq_getElem hl1
     obtain ⟨sk,hsk⟩:∃ x,x=SS[k]:=⟨_,rfl⟩
     rw [←hsk] at hr3 hT hat
     obtain ⟨kd,pv,pp,vv,vb,kv,qs⟩:=sk
     obtain ⟨i0,⟨i1,i2,i3⟩,q1,q2,q3,q4⟩:=hT
     dsimp only at i0 i1 i2 i3 q1 q2 q3 q4
     obtain ⟨pa,pc,rfl,_⟩:=i1.form' _ rfl
     obtain ⟨va,vc,rfl,_⟩:=i2.form' _ rfl
     obtain ⟨qa,qc,rfl,_⟩:=i3.1.form' _ rfl
     obtain ⟨pn,hpn⟩:∃ x,x=pp.length:=⟨_,rfl⟩
     obtain ⟨vn,hvn⟩:∃ x,x=vb.length:=⟨_,rfl⟩
     obtain ⟨qn,hqn⟩:∃ x,x=qs.length:=⟨_,rfl⟩
     rw [←hpn] at hr3 i1 hat q1
     rw [←hvn] at hr3 i2 hat q2
     rw [←hqn] at hr3 i0 i3 hat q3
     change wr.rangeAt bS (oS+k*4) [.int .i64 kd,.slice pa pn pc,.slice va vn vc,.slice qa qn qc] at hr3
     have hcode:∀ u:World,Below wS.heap.size wS u→Calls Tryz.prog 136 #[.agg #[.int .i64 kd,.slice pa pn pc,.slice va vn vc,.slice qa qn qc]] u (CodePost (okQ (kd,pp,vb,qs.map (·.2))) (bQ (kd,pp,vb,qs.map (·.2))) u):=fun u hu=>hcode_any kd pa va qa pn pc vn vc qn qc pp vb qs hpn.symm hvn.symm hqn.symm u (i1.below hu) (i2.below hu) (i3.below hu) q1 q2 q3 q4
     have hfin:∀ u u':World,Below wS.heap.size wS u→Blk 133 u w.heap.size zsh→u.grownBy u' (some w.heap.size)→Below w.heap.size w u'→RdPost (some (kd,pp,vb,qs.map (·.2))) w (.returned (.tuple #[.agg #[.int .i64 kd,.slice pa pn pc,.slice va vn vc,.slice qa qn qc],.int .i64 0])) u':=fun u u' hu hz hg hb=>⟨hb,pa,pc,va,vc,qa,qc,qs,by rw [List.length_map,←hpn,←hvn,←hqn],by rw [←hpn];exact Bytes.off_v (i1.below hu) hz (by intro x hx k;simp [zsh] at hx;rcases hx with rfl|rfl<;>simp) hg,by rw [←hvn];exact Bytes.off_v (i2.below hu) hz (by intro x hx k;simp [zsh] at hx;rcases hx with rfl|rfl<;>simp) hg,by rw [List.length_map,←hqn];exact Texts.offB (i3.below hu) hz (by intro x hx k;simp [zsh] at hx;rcases hx with rfl|rfl<;>simp) hg i0,rfl⟩
     have bA:Below wr.heap.size wr (wr.alloc (.cells #[.int .i64 kd,.slice pa pn pc,.slice va vn vc,.slice qa qn qc] 133)):=(Below.refl _ _).alloc (Nat.le_refl _) _
     have G8:=G.kept bA
     have hb8:=Below.then hbS bA
     have h14:=Blk.new wr 133 [.int .i64 kd,.slice pa pn pc,.slice va vn vc,.slice qa qn qc]
     have h14':Blk 133 (wr.alloc (.cells #[.int .i64 kd,.slice pa pn pc,.slice va vn vc,.slice qa qn qc] 133)) wr.heap.size [.int .i64 kd,.slice pa pn pc,.slice va vn vc,.slice qa qn qc]:=h14
     have hq0:toQ ⟨kd,.slice pa pn pc,pp,.slice va vn vc,vb,.slice qa qn qc,qs⟩=(kd,pp,vb,qs.map (·.2)):=rfl
     have hhit:hitQ b (kd,pp,vb,qs.map (·.2))=true→O=some (kd,pp,vb,qs.map (·.2)):=fun hh=>by
      rw [←Hres.out,hrd_find,Htr.out]
      refine find_at (k:=k) (fun j x hj hx=>?_) (by rw [List.getElem?_map,hat];rfl) hh
      rw [List.getElem?_map] at hx
      cases hj2:SS[j]? with
      | none=>rw [hj2] at hx;simp at hx
      | some y =>
       rw [hj2] at hx
       simp only [Option.map_some,Option.some.injEq] at hx
       subst hx
       exact Hno.out j y hj hj2
     have hmiss:hitQ b (kd,pp,vb,qs.map (·.2))=false→∀ (j:Nat) (x:Shp),j<k+1→SS[j]?=some x→hitQ b (toQ x)=false:=fun hm j x hj hx=>by
      rcases Nat.lt_or_ge j k with h|h
      ·exact Hno.out j x h hx
      ·obtain rfl:j=k:=by omega
       rw [hat] at hx
       simp only [Option.some.injEq] at hx
       subst hx
       exact hm
     obtain ⟨ok,hok⟩:∃ x,x=okQ (kd,pp,vb,qs.map (·.2)):=⟨_,rfl⟩
     obtain ⟨TB,hTB⟩:∃ x,x=bQ (kd,pp,vb,qs.map (·.2)):=⟨_,rfl⟩
     have hhq:hitQ b (kd,pp,vb,qs.map (·.2))=(ok&&decide (TB=b)):=by unfold hitQ;rw [←hok,←hTB]
     rw [hhq] at hhit hmiss
     simp only [←hok,←hTB] at hcode
     obtain ⟨sq,hsq⟩:∃ x,x=((kd,pp,vb,qs.map (·.2)):Shq):=⟨_,rfl⟩
     rw [←hsq] at hhit hfin
     have Hfin:=Lib.hid hfin
     clear hfin hq0 hhq hok hTB hsq h14 i0 i1 i2 i3 q1 q2 q3 q4 hpn hvn hqn hsk hat hl1 Hno
     cases ok with
     | false =>
      have hm2:=hmiss (by simp)
      have Hm2:=Lib.hid hm2
      have hcode2:∀ u:World,Below wS.heap.size wS u→Calls Tryz.prog 136 #[.agg #[.int .i64 kd,.slice pa pn pc,.slice va vn vc,.slice qa qn qc]] u fun e w'=>∃ v,e=.returned (.tuple #[v,.int .i64 1])∧Bytes w' v []∧Below u.heap.size u w':=hcode
      have Hcode:=Lib.hid hcode2
      clear hcode hcode2 hhit hmiss hm2
      go_wp2_with (first
       |(refine wpList_load_mid (op:=⟨some 84,_,_,_,_,_⟩) (by rfl) 133 (.tmp 83) (by rfl) bS (oS+k*4) (by rfl) [.int .i64 kd,.slice pa pn pc,.slice va vn vc,.slice qa qn qc] _ hr3 Tryz.underlying133 rfl (by kernel_rfl) ?_)
       |(go_at_call 136;(with_reducible refine (Hcode.out _ hb8).mono ?_);rintro e w8 ⟨v8,rfl,r8,bb8⟩;have G9:=G8.kept bb8;have hb9:=Below.then hb8 bb8))
      go_roundw
      case rel=>exact ⟨k+1,by omega,by go_num,G9,hb9,Hm2⟩
      case measure=>simp [intOf];omega
     | true =>
      have hcode2:∀ u:World,Below wS.heap.size wS u→Calls Tryz.prog 136 #[.agg #[.int .i64 kd,.slice pa pn pc,.slice va vn vc,.slice qa qn qc]] u fun e w'=>∃ v,e=.returned (.tuple #[v,.int .i64 0])∧Bytes w' v TB∧Below u.heap.size u w':=hcode
      have Hcode:=Lib.hid hcode2
      clear hcode hcode2
      by_cases heq:TB=b
      ·have hOS:=hhit (by rw [heq];simp)
       subst hOS
       clear hhit hmiss
       go_wp2_with (first
        |(refine wpList_load_mid (op:=⟨some 84,_,_,_,_,_⟩) (by rfl) 133 (.tmp 83) (by rfl) bS (oS+k*4) (by rfl) [.int .i64 kd,.slice pa pn pc,.slice va vn vc,.slice qa qn qc] _ hr3 Tryz.underlying133 rfl (by kernel_rfl) ?_)
        |(go_at_call 136;(with_reducible refine (Hcode.out _ hb8).mono ?_);rintro e w8 ⟨v8,rfl,r8,bb8⟩;have G9:=G8.kept bb8;have hb9:=Below.then hb8 bb8;have h15:=h14'.kept bb8;have s1:=run_str (P:=Tryz.prog) (src:=25) (dst:=9) elU8.ht (by kernel_rfl) (by kernel_rfl) r8;have s2:=run_str (P:=Tryz.prog) (src:=25) (dst:=9) elU8.ht (by kernel_rfl) (by kernel_rfl) (h.below G9.hb);rw [heq] at s1)
        |(refine wpList_loadA (o:=⟨some 99,_,_,_,_,_⟩) (by rfl) 133 (.tmp 14) (by rfl) wr.heap.size (by rfl) aggShape h15 (by rfl) ?_)
        |((with_reducible show wpList _ _ _ (⟨none,.store _ _ (.tmp 99),_,_,_,_⟩::_) _ _);refine wpList_storeA (o:=⟨none,_,_,_,_,_⟩) (by rfl) 133 (.tmp 2) (.tmp 99) (by rfl) w.heap.size [.int .i64 kd,.slice pa pn pc,.slice va vn vc,.slice qa qn qc] (by rfl) (by rfl) aggShape G9.hz (by rfl) (by rfl) (by intro u hu;simp at hu;rcases hu with rfl|rfl|rfl|rfl<;>rfl) G9.hb (Nat.le_refl _) ?_;intro w10 h10 hbel10 gg10))
       exact bodyPost_ret (v:=.tuple #[.agg #[.int .i64 kd,.slice pa pn pc,.slice va vn vc,.slice qa qn qc],.int .i64 0]) (results_blk_tmp rfl _ _ w.heap.size aggShape h10 rfl rfl rfl) rfl (Hfin.out _ w10 hb9 G9.hz gg10 hbel10)
      ·have hsb:(TB==b)=false:=by rw [beq_eq_false_iff_ne];exact heq
       have hsc:decide (TB=b)=false:=decide_eq_false heq
       have hsnd:decide ((⟨TB.toArray⟩:ByteArray)=⟨b.toArray⟩)=false:=by
        rw [decide_eq_false_iff_not];intro e;apply heq;simpa using congrArg (fun x:ByteArray=>x.data.toList) e
       have hm2:=hmiss (by rw [hsc];rfl)
       have Hm2:=Lib.hid hm2
       clear heq hhit hmiss hm2
       go_wp2_with (first
        |(refine wpList_load_mid (op:=⟨some 84,_,_,_,_,_⟩) (by rfl) 133 (.tmp 83) (by rfl) bS (oS+k*4) (by rfl) [.int .i64 kd,.slice pa pn pc,.slice va vn vc,.slice qa qn qc] _ hr3 Tryz.underlying133 rfl (by kernel_rfl) ?_)
        |(go_at_call 136;(with_reducible refine (Hcode.out _ hb8).mono ?_);rintro e w8 ⟨v8,rfl,r8,bb8⟩;have G9:=G8.kept bb8;have hb9:=Below.then hb8 bb8;have s1:=run_str (P:=Tryz.prog) (src:=25) (dst:=9) elU8.ht (by kernel_rfl) (by kernel_rfl) r8;have s2:=run_str (P:=Tryz.prog) (src:=25) (dst:=9) elU8.ht (by kernel_rfl) (by kernel_rfl) (h.below G9.hb)))
       go_roundw
       case rel=>exact ⟨k+1,by omega,by go_num,G9,hb9,Hm2⟩
       case measure=>simp [intOf];omega
    ·obtain rfl:k=2:=by omega
     have hON:O=none:=by
      rw [←Hres.out,hrd_find,Htr.out]
      exact find_no (fun j x hx=>by
       rw [List.getElem?_map] at hx
       cases hj:SS[j]? with
       | none=>rw [hj] at hx;simp at hx
       | some y =>
        rw [hj] at hx
        simp only [Option.map_some,Option.some.injEq] at hx
        subst hx
        exact Hno.out j y (by have:=(List.getElem?_eq_some_iff.1 hj).1;rw [HSl.out] at this;exact this) hj)
     subst hON
     have hzz:=G.hz
     go_wp2_with ((with_reducible show wpList _ _ _ (⟨none,.store _ _ (.tmp 101),_,_,_,_⟩::_) _ _);refine wpList_storeA (o:=⟨none,_,_,_,_,_⟩) (by rfl) 133 (.tmp 2) (.tmp 101) (by rfl) w.heap.size zsh (by rfl) (by rfl) aggShape hzz (by rfl) (by rfl) (by intro u hu;simp [zsh] at hu;rcases hu with rfl|rfl<;>rfl) G.hb (Nat.le_refl _) ?_;intro w9 h9 hbel9 _)
     exact bodyPost_ret (v:=.tuple #[.agg #[.int .i64 0,.slice none 0 0,.slice none 0 0,.slice none 0 0],.int .i64 1]) (results_blk_tmp rfl _ _ w.heap.size aggShape h9 rfl rfl rfl) rfl ⟨hbel9,rfl⟩
theorem hread_any (a:Option Addr)(L c:Nat)(b:List UInt8)(hL:b.length=L)(hLs:L≤1048576)(w:World)(h:Bytes w (.slice a L c) b):Calls Tryz.prog 127 #[.slice a L c] w (RdPost (rdB b) w):=by
 cases hd:dec b with
 | none =>
  have hr:rdB b=none:=by unfold rdB;rw [hd]
  rw [hr]
  exact hread_no a L c b hL hLs hd w h
 | some p =>
  by_cases h2:kidsN p=2
  ·by_cases hf:unLeaf ((kidT p)[0]?.getD [])=true
   ·exact hread_leaf a L c b hL hLs p hd h2 hf w h
   ·exact hread_road a L c b hL hLs p hd h2 (by simpa using hf) w h
  ·by_cases h17:kidsN p=17
   ·exact hread_fork a L c b hL hLs p hd h17 w h
   ·exact hread_other a L c b hL hLs p hd h2 h17 w h
end Go.Proofs.YtcgpjceopnfahaaGreat
