/- The reference's HRead. | Parts of slices of anything, with their block; append onto a full row. -/
import Derived.Test.YtcgpjceopnfahaaGreatWorldChecksK35
import Derived.Test.YtcgpjceopnfahaaGreatWorldChecksK14
import Derived.Test.YtcgpjceopnfahaaGreatWorldChecksK01
import Derived.Test.YtcgpjceopnfahaaGreatWorldChecksK02
set_option linter.unusedSimpArgs false
set_option linter.unusedVariables false
set_option maxHeartbeats 4000000
set_option maxRecDepth 100000
namespace Go.Proofs.YtcgpjceopnfahaaGreat
open Go.RowKit
theorem elShp:El0 Tryz.prog 208 133 (.agg #[.int .i64 0,.slice none 0 0,.slice none 0 0,.slice none 0 0]) 4 80 shcells:=⟨by kernel_rfl,by kernel_rfl,rfl,by omega,fun _=>rfl⟩
def toQ (s:Shp):Shq:=(s.kd,s.p,s.v,s.ps.map (·.2))
def zShp:Shp:=⟨0,.slice none 0 0,[],.slice none 0 0,[],.slice none 0 0,[]⟩
theorem zShp_is (w:World):IsShp w zShp:=⟨RowOf.nil b8 1 w,RowOf.nil b8 1 w,⟨RowOf.nil tcell 1 w,by simp [zShp]⟩⟩
def hitQ (b:List UInt8)(s:Shq):Bool:=okQ s && decide (bQ s=b)
theorem find_at {b:List UInt8}:∀ {l:List Shq} {k:Nat} {s:Shq},(∀ (j:Nat) (x:Shq),j<k→l[j]?=some x→hitQ b x=false)→l[k]?=some s→hitQ b s=true→l.find? (hitQ b)=some s
 | [],k,s,_,h,_=>by simp at h
 | x::l,0,s,_,h,hs=>by
  simp only [List.getElem?_cons_zero,Option.some.injEq] at h
  subst h
  rw [List.find?_cons_of_pos hs]
 | x::l,k+1,s,hj,h,hs=>by
  rw [List.find?_cons_of_neg (by rw [hj 0 x (by omega) rfl];simp)]
  exact find_at (k:=k) (fun j y hjk hy=>hj (j+1) y (by omega) (by simpa using hy)) (by simpa using h) hs
theorem find_no {b:List UInt8}{l:List Shq}(h:∀ (j:Nat) (x:Shq),l[j]?=some x→hitQ b x=false):l.find? (hitQ b)=none:=by
 rw [List.find?_eq_none]
 intro x hx
 obtain ⟨j,hj⟩:=List.getElem?_of_mem hx
 rw [h j x hj];simp
theorem hrd_find (l:List (List UInt8))(b:List UInt8):hrd l b=(triesL l).find? (hitQ b):=rfl
structure HrW (w:World)(g4:Nat)(box:List Value)(u:World):Prop where
 hb:Below w.heap.size w u
 hz:Blk 133 u w.heap.size zsh
 h4:Blk 77 u g4 box
 hg:w.heap.size<g4
theorem HrW.kept {w u u':World}{g4:Nat}{box:List Value}(h:HrW w g4 box u)(hb:Below u.heap.size u u'):HrW w g4 box u':=⟨Below.then h.hb hb,h.hz.kept hb,h.h4.kept hb,h.hg⟩
theorem HrW.grown {w u u':World}{g4:Nat}{box:List Value}{row:Option Nat}(h:HrW w g4 box u)(hg:u.grownBy u' row)(hr:∀ x,row=some x→g4<x):HrW w g4 box u' :=
 ⟨h.hb.grown hg h.hb.size (fun x hx=>by have:=hr x hx;have:=h.hg;omega),h.hz.grown hg (fun e=>by have:=hr _ e;have:=h.hg;omega),h.h4.grown hg (fun e=>by have:=hr _ e;omega),h.hg⟩
theorem hread_other (a:Option Addr)(L c:Nat)(b:List UInt8)(hL:b.length=L)(hLs:L≤1048576)(p:Pit)(hd:dec b=some p)(h2:kidsN p≠2)(h17:kidsN p≠17)(w:World)(h:Bytes w (.slice a L c) b):Calls Tryz.prog 127 #[.slice a L c] w (RdPost (rdB b) w):=by
 have hz:Blk 133 (w.alloc (.cells zsh.toArray 133)) w.heap.size zsh:=Blk.new w _ _
 have hbel:Below w.heap.size w (w.alloc (.cells zsh.toArray 133)):=(Below.refl _ _).alloc (Nat.le_refl _) _
 have hlt0:=hz.lt
 have cc:=fun u (hu:Bytes u (.slice a L c) b)=>pdecode_any a L c b hL hLs u hu
 have hE:decE b=0:=by unfold decE;rw [hd];rfl
 have hP:decP b=p:=by unfold decP;rw [hd];rfl
 have hle:(encP p).length≤1048576:=by rw [←dec_back hd,hL];exact hLs
 have hlaw:=fun (l:List (List UInt8)) (hk:KidsOf p l)=>hrd_rd b p l hd (by omega) hk
 obtain ⟨O,hO⟩:∃ O,O=rdB b:=⟨_,rfl⟩
 rw [←hO] at hlaw
 rw [←hO]
 rw [hE] at cc
 have C:=Lib.hid cc
 have HP:=Lib.hid hP
 have Hle:=Lib.hid hle
 have Hlaw:=Lib.hid hlaw
 have HL:=Lib.hid hL
 clear cc hE hP hle hlaw hO hd hL
 go_enter Tryz.func127,Tryz.ntmps127
 go_wp2_with (first
  |(go_at_call 45;(with_reducible refine (C.out _ (h.alloc _)).mono ?_);rintro e w1 ⟨it,rfl,b1,hF,hbare,he⟩;have hz1:=hz.kept b1;have hbel1:=Below.then hbel b1;obtain ⟨l,tv,t,kv,ks⟩:=it;have hkk:ks.length=kidsN p∧KidsOf p (ks.map itt)∧ks.map itt=kidT p:=kids_of hbare (he.trans HP.out);obtain ⟨ta,tc,rfl,_,_⟩:=hF.is.inv.1.form;obtain ⟨ka,kc,rfl,_,_⟩:=hF.is.inv.2.1.form;obtain ⟨tn,htn⟩:∃ tn,tn=t.length:=⟨_,rfl⟩;obtain ⟨kn,hkn⟩:∃ kn,kn=ks.length:=⟨_,rfl⟩;have hI1:=hF.is;rw [←htn,←hkn] at hI1;rw [←htn,←hkn];have Hkn:=Lib.hid hkn.symm;have Hkk:=Lib.hid hkk;have hs1:=b1.size;clear htn hkn hkk he hbare;simp only [icells])
  |((with_reducible show wpList _ _ _ (⟨none,.store _ _ (.tmp 20),_,_,_,_⟩::_) _ _);refine wpList_storeA (o:=⟨none,_,_,_,_,_⟩) (by rfl) 77 (.tmp 4) (.tmp 20) (by rfl) w1.heap.size [.bool l,.slice ta tn tc,.slice ka kn kc] (by rfl) (by rfl) aggItem (Blk.new w1 77 [.bool false,.slice none 0 0,.slice none 0 0]) (by rfl) (by rfl) (by intro u hu;simp at hu;rcases hu with rfl|rfl|rfl<;>rfl) (((Below.refl w1.heap.size w1).alloc (Nat.le_refl _) (.cells #[.bool false,.slice none 0 0,.slice none 0 0] 77))) (Nat.le_refl _) ?_;intro w4 h4 b4 _;have G4:HrW w w1.heap.size [.bool l,.slice ta tn tc,.slice ka kn kc] w4:=⟨Below.then hbel1 b4,hz1.kept b4,h4,Nat.lt_of_lt_of_le hlt0 hs1⟩;have hI4:=hI1.kept b4;have c42:w4.cell? ⟨w1.heap.size,2,none⟩=some (.slice ka kn kc):=h4.cell 2))
 have hrow:=hI4.inv.2.1
 have hkids:=hI4.inv.2.2
 obtain ⟨g4,hg4⟩:∃ g4,g4=w1.heap.size:=⟨_,rfl⟩
 rw [←hg4] at G4
 rw [←hg4]
 have hlt4:g4<w4.heap.size:=G4.h4.lt
 have Hkids:=Lib.hid hkids
 have hk8:kn≤1048576:=by have h1:=kidsN_le p;have h2:=Hle.out;have h3:=Hkk.out.1;have h4:=Hkn.out;omega
 clear c42 hkids hg4 hz1 hbel1 b1 hI1 hF hs1 h4 b4
 go_loopw [6,28] (fun lv ix wr=>∃ (i:Nat) (ps:List (Value × List UInt8)),i≤kn∧ix=.int .i64 (i:Int)∧HrW w g4 [.bool l,.slice ta tn tc,.slice ka kn kc] wr∧Below w4.heap.size w4 wr∧OwnOf tcell 1 25 wr w4.heap.size lv ps∧Hid (ps.map (·.2)=(ks.map itt).take i)∧Hid (∀ q∈ps,Bytes w4 q.1 q.2)) (fun _ ix _=>kn - (intOf ix).toNat)
 case atStart=>exact ⟨0,[],by omega,rfl,G4,Below.refl _ _,OwnOf.nil tcell 1 _ _ _,Lib.hid rfl,Lib.hid (by simp)⟩
 case round =>
  clear G4
  obtain ⟨i,ps,hin,rfl,G,hb4,hO,Hps,Hall⟩:=hrel
  have hpl:ps.length=i:=by
   have:=congrArg List.length Hps.out
   simp only [List.length_map,List.length_take] at this
   have h2:=Hkn.out
   omega
  obtain ⟨la,lc,rfl,_⟩:=hO.form' i hpl
  have Hpl:=Lib.hid hpl
  clear hpl
  by_cases hlt:i<kn
  ·have hii:(i:Int)<(kn:Int):=by omega
   have hl1:i<ks.length:=by rw [Hkn.out];exact hlt
   obtain ⟨b2,off2,rfl,hr⟩:=RowOf.range icells_len (hrow.below hb4) i hl1
   have hI0:=Hkids.out _ (List.getElem_mem hl1)
   have hnext:(ks.map itt).take (i+1)=(ks.map itt).take i++[itt ks[i]]:=by
    rw [List.take_succ_eq_append_getElem (by rw [List.length_map];exact hl1),List.getElem_map]
   obtain ⟨kid,hkid⟩:∃ x,x=ks[i]:=⟨_,rfl⟩
   rw [←hkid] at hr hI0 hnext
   obtain ⟨l2,tv2,t2,kv2,ks2⟩:=kid
   obtain ⟨ta2,tc2,rfl,_,_⟩:=hI0.inv.1.form
   obtain ⟨ka2,kc2,rfl,_,_⟩:=hI0.inv.2.1.form
   have hb2:Bytes w4 (.slice ta2 t2.length tc2) t2:=hI0.inv.1
   obtain ⟨tn2,htn2⟩:∃ tn2,tn2=t2.length:=⟨_,rfl⟩
   obtain ⟨kn2,hkn2⟩:∃ kn2,kn2=ks2.length:=⟨_,rfl⟩
   rw [←htn2,←hkn2] at hr
   rw [←htn2] at hb2
   change wr.rangeAt b2 (off2+i*3) [.bool l2,.slice ta2 tn2 tc2,.slice ka2 kn2 kc2] at hr
   change (ks.map itt).take (i+1)=(ks.map itt).take i++[t2] at hnext
   have Hnext:=Lib.hid hnext
   have Hb2:=Lib.hid hb2
   have bA:Below wr.heap.size wr (wr.alloc (.cells #[.bool l2,.slice ta2 tn2 tc2,.slice ka2 kn2 kc2] 77)):=(Below.refl _ _).alloc (Nat.le_refl _) _
   have G2:=G.kept bA
   have hb42:=Below.then hb4 bA
   have O2:=hO.kept bA
   clear hkid hI0 htn2 hkn2 hnext hb2 hl1
   go_wp2_with (first
    |(refine wpList_load_mid (op:=⟨some 31,_,_,_,_,_⟩) (by rfl) 77 (.tmp 30) (by rfl) b2 (off2+i*3) (by rfl) [.bool l2,.slice ta2 tn2 tc2,.slice ka2 kn2 kc2] _ hr Tryz.underlying77 rfl (by kernel_rfl) ?_)
    |(refine wpList_buildW (o:=⟨some 35,_,_,_,_,_⟩) (by rfl) 44 1 [(0,.tmp 34)] (by rfl) elTxt [(.slice ta2 tn2 tc2,t2)] [.slice ta2 tn2 tc2] (by rfl) (by rfl) (by rfl) (by omega) (by omega) ?_;intro w6 _ hr6 b6;have G6:=G2.kept b6;have O6:=O2.kept b6;have hb46:=Below.then hb42 b6;have hlt6:w4.heap.size≤w6.heap.size:=hb46.size)
    |(refine wpList_appB (o:=⟨some 36,_,_,_,_,_⟩) (by rfl) (.tmp 32) (.tmp 35) 44 (by rfl) elTxt (by intro u hu;simp [tcell] at hu;subst hu;rfl) (by rfl) O6 (by rfl) hr6 hlt6 (by rw [Hpl.out];simp;omega) (by rw [Hpl.out];unfold maxLen;simp;omega) ?_;intro v7 w7 hO7 gg7 _;obtain ⟨la7,lc7,rfl,_⟩:=hO7.form' (i+1) (by rw [List.length_append,Hpl.out];rfl);have G7:=G6.grown gg7 (fun x hx=>by have:=O6.lt x hx;omega);have hb47:=hb46.grown gg7 hb46.size (fun x hx=>O6.lt x hx)))
   go_roundw
   case rel=>exact ⟨i+1,ps++[(.slice ta2 tn2 tc2,t2)],by omega,by go_num,G7,hb47,hO7,Lib.hid (by rw [List.map_append,Hps.out,Hnext.out];rfl),Lib.hid (by intro q hq;rcases List.mem_append.1 hq with hq|hq;exact Hall.out q hq;rw [List.mem_singleton] at hq;subst hq;exact Hb2.out)⟩
   case measure=>simp [intOf];omega
  ·obtain rfl:kn=i:=by omega
   have hps:ps.map (·.2)=ks.map itt:=by rw [Hps.out,List.take_of_length_le (by rw [List.length_map,Hkn.out];exact Nat.le_refl _)]
   have hres:hrd (ks.map itt) b=O:=Hlaw.out _ Hkk.out.2.1
   have hkn2:kn≠2:=fun e=>h2 (by rw [←Hkk.out.1,Hkn.out];exact e)
   have hkn17:kn≠17:=fun e=>h17 (by rw [←Hkk.out.1,Hkn.out];exact e)
   have h17f:((kn:Int)==17)=false:=by rw [beq_eq_false_iff_ne];omega
   have h2f:((kn:Int)==2)=false:=by rw [beq_eq_false_iff_ne];omega
   have htr:triesL (ks.map itt)=[zShp].map toQ:=by
    unfold triesL
    rw [List.length_map,Hkn.out,if_neg hkn2,if_neg hkn17];rfl
   have Htr:=Lib.hid htr
   have Hres:=Lib.hid hres
   have Hps2:=Lib.hid hps
   clear htr hres hps h2 h17 hkn2 hkn17
   go_wp2_with (refine wpList_buildW (o:=⟨some 39,_,_,_,_,_⟩) (by rfl) 208 1 [(0,.tmp 38)] (by rfl) elShp [zShp] [.agg #[.int .i64 0,.slice none 0 0,.slice none 0 0,.slice none 0 0]] (by rfl) (by rfl) (by rfl) (by omega) (by omega) ?_;intro w6 hblk6 hr6 b6;have G6:=G.kept b6)
   clear G hb4 hO
   go_loopw [81] (fun ix wr=>∃ k:Nat,k≤1∧ix=.int .i64 (k:Int)∧HrW w g4 [.bool l,.slice ta tn tc,.slice ka kn kc] wr∧Below w6.heap.size w6 wr∧Hid (∀ (j:Nat) (x:Shp),j<k→[zShp][j]?=some x→hitQ b (toQ x)=false)) (fun ix _=>1 - (intOf ix).toNat)
   case atStart=>exact ⟨0,by omega,rfl,G6,Below.refl _ _,Lib.hid (fun j x hj=>by omega)⟩
   case round =>
    obtain ⟨k,hk1,rfl,G,hb6,Hno⟩:=hrel
    by_cases hlk:k<1
    ·have hki:(k:Int)<1:=by omega
     obtain ⟨b3,o3,e3,hr3⟩:=RowOf.range (f:=shcells) (size:=4) (fun _=>rfl) (hr6.below hb6) k (by simpa using hlk)
     obtain ⟨rfl,rfl⟩:b3=_∧o3=_:=by simpa using e3.symm
     obtain rfl:k=0:=by omega
     change wr.rangeAt _ (0+0*4) [.int .i64 0,.slice none 0 0,.slice none 0 0,.slice none 0 0] at hr3
     have hcode:∀ u:World,Calls Tryz.prog 136 #[.agg #[.int .i64 0,.slice none 0 0,.slice none 0 0,.slice none 0 0]] u fun e w'=>∃ v,e=.returned (.tuple #[v,.int .i64 0])∧Bytes w' v (textB [])∧Below u.heap.size u w':=fun u=>hcode_any 0 none none none 0 0 0 0 0 0 [] [] [] rfl rfl rfl u (RowOf.nil b8 1 u) (RowOf.nil b8 1 u) ⟨RowOf.nil tcell 1 u,by simp⟩ (by omega) (by omega) (by omega) (by simp)
     have bA:Below wr.heap.size wr (wr.alloc (.cells #[.int .i64 0,.slice none 0 0,.slice none 0 0,.slice none 0 0] 133)):=(Below.refl _ _).alloc (Nat.le_refl _) _
     have G8:=G.kept bA
     have hb8:=Below.then hb6 bA
     have h14:=Blk.new wr 133 zsh
     have h14':Blk 133 (wr.alloc (.cells #[.int .i64 0,.slice none 0 0,.slice none 0 0,.slice none 0 0] 133)) wr.heap.size zsh:=h14
     have Hcode:=Lib.hid hcode
     have hq0:toQ zShp=(0,[],[],[]):=rfl
     clear hcode h14 e3
     by_cases heq:textB []=b
     ·have hOS:O=some (0,[],[],[]):=by
       rw [←Hres.out,hrd_find,Htr.out]
       exact find_at (k:=0) (fun j x hj=>by omega) rfl (by show (okQ (0,[],[],[])&&decide (bQ (0,[],[],[])=b))=true;rw [decide_eq_true (show bQ (0,[],[],[])=b from heq)];rfl)
      subst hOS
      go_wp2_with (first
       |(refine wpList_load_mid (op:=⟨some 84,_,_,_,_,_⟩) (by rfl) 133 (.tmp 83) (by rfl) _ (0+0*4) (by rfl) [.int .i64 0,.slice none 0 0,.slice none 0 0,.slice none 0 0] _ hr3 Tryz.underlying133 rfl (by kernel_rfl) ?_)
       |(go_at_call 136;(with_reducible refine (Hcode.out _).mono ?_);rintro e w8 ⟨v8,rfl,r8,bb8⟩;have G9:=G8.kept bb8;have h15:=h14'.kept bb8;have s1:=run_str (P:=Tryz.prog) (src:=25) (dst:=9) elU8.ht (by kernel_rfl) (by kernel_rfl) r8;have s2:=run_str (P:=Tryz.prog) (src:=25) (dst:=9) elU8.ht (by kernel_rfl) (by kernel_rfl) (h.below G9.hb);rw [heq] at s1)
       |(refine wpList_loadA (o:=⟨some 99,_,_,_,_,_⟩) (by rfl) 133 (.tmp 14) (by rfl) wr.heap.size (by rfl) aggShape h15 (by rfl) ?_)
       |((with_reducible show wpList _ _ _ (⟨none,.store _ _ (.tmp 99),_,_,_,_⟩::_) _ _);refine wpList_storeA (o:=⟨none,_,_,_,_,_⟩) (by rfl) 133 (.tmp 2) (.tmp 99) (by rfl) w.heap.size zsh (by rfl) (by rfl) aggShape G9.hz (by rfl) (by rfl) (by intro u hu;simp [zsh] at hu;rcases hu with rfl|rfl<;>rfl) G9.hb (Nat.le_refl _) ?_;intro w10 h10 hbel10 _))
      exact bodyPost_ret (v:=.tuple #[.agg #[.int .i64 0,.slice none 0 0,.slice none 0 0,.slice none 0 0],.int .i64 0]) (results_blk_tmp rfl _ _ w.heap.size aggShape h10 rfl rfl rfl) rfl ⟨hbel10,none,0,none,0,none,0,[],rfl,RowOf.nil b8 1 w10,RowOf.nil b8 1 w10,⟨RowOf.nil tcell 1 w10,by simp⟩,rfl⟩
     ·have hsb:(textB []==b)=false:=by rw [beq_eq_false_iff_ne];exact heq
      have hsc:decide (textB []=b)=false:=decide_eq_false heq
      have hsnd:decide ((⟨(textB []).toArray⟩:ByteArray)=⟨b.toArray⟩)=false:=by
       rw [decide_eq_false_iff_not];intro e;apply heq;simpa using congrArg (fun x:ByteArray=>x.data.toList) e
      have hno2:∀ (j:Nat) (x:Shp),j<1→[zShp][j]?=some x→hitQ b (toQ x)=false:=fun j x hj hx=>by
       obtain rfl:j=0:=by omega
       simp only [List.getElem?_cons_zero,Option.some.injEq] at hx
       subst hx
       unfold hitQ;rw [decide_eq_false (show ¬ bQ (toQ zShp)=b from heq)];simp
      have Hno2:=Lib.hid hno2
      obtain ⟨TB,hTB⟩:∃ TB,TB=textB []:=⟨_,rfl⟩
      rw [←hTB] at hsnd hsb hsc
      have HTB:=Lib.hid hTB
      clear hno2 heq hTB
      go_wp2_with (first
       |(refine wpList_load_mid (op:=⟨some 84,_,_,_,_,_⟩) (by rfl) 133 (.tmp 83) (by rfl) _ (0+0*4) (by rfl) [.int .i64 0,.slice none 0 0,.slice none 0 0,.slice none 0 0] _ hr3 Tryz.underlying133 rfl (by kernel_rfl) ?_)
       |(go_at_call 136;(with_reducible refine (Hcode.out _).mono ?_);rintro e w8 ⟨v8,rfl,r8,bb8⟩;have G9:=G8.kept bb8;have hb9:=Below.then hb8 bb8;rw [←HTB.out] at r8;have s1:=run_str (P:=Tryz.prog) (src:=25) (dst:=9) elU8.ht (by kernel_rfl) (by kernel_rfl) r8;have s2:=run_str (P:=Tryz.prog) (src:=25) (dst:=9) elU8.ht (by kernel_rfl) (by kernel_rfl) (h.below G9.hb)))
      go_roundw
      case rel=>exact ⟨1,by omega,by go_num,G9,hb9,Hno2⟩
      case measure=>simp [intOf]
    ·obtain rfl:k=1:=by omega
     have hON:O=none:=by
      rw [←Hres.out,hrd_find,Htr.out]
      exact find_no (fun j x hx=>by
       rw [List.getElem?_map] at hx
       cases hj:[zShp][j]? with
       | none=>rw [hj] at hx;simp at hx
       | some y =>
        rw [hj] at hx
        simp only [Option.map_some,Option.some.injEq] at hx
        subst hx
        exact Hno.out j y (by have:=(List.getElem?_eq_some_iff.1 hj).1;simpa using this) hj)
     subst hON
     have hzz:=G.hz
     go_wp2_with ((with_reducible show wpList _ _ _ (⟨none,.store _ _ (.tmp 101),_,_,_,_⟩::_) _ _);refine wpList_storeA (o:=⟨none,_,_,_,_,_⟩) (by rfl) 133 (.tmp 2) (.tmp 101) (by rfl) w.heap.size zsh (by rfl) (by rfl) aggShape hzz (by rfl) (by rfl) (by intro u hu;simp [zsh] at hu;rcases hu with rfl|rfl<;>rfl) G.hb (Nat.le_refl _) ?_;intro w9 h9 hbel9 _)
     exact bodyPost_ret (v:=.tuple #[.agg #[.int .i64 0,.slice none 0 0,.slice none 0 0,.slice none 0 0],.int .i64 1]) (results_blk_tmp rfl _ _ w.heap.size aggShape h9 rfl rfl rfl) rfl ⟨hbel9,rfl⟩
theorem hread_no (a:Option Addr)(L c:Nat)(b:List UInt8)(hL:b.length=L)(hLs:L≤1048576)(hd:dec b=none)(w:World)(h:Bytes w (.slice a L c) b):Calls Tryz.prog 127 #[.slice a L c] w (RdPost none w):=by
 have hz:Blk 133 (w.alloc (.cells zsh.toArray 133)) w.heap.size zsh:=Blk.new w _ _
 have hbel:Below w.heap.size w (w.alloc (.cells zsh.toArray 133)):=(Below.refl _ _).alloc (Nat.le_refl _) _
 have cc:=fun u (hu:Bytes u (.slice a L c) b)=>pdecode_any a L c b hL hLs u hu
 have hE:decE b=1:=by unfold decE;rw [hd];rfl
 rw [hE] at cc
 have C:=Lib.hid cc
 clear cc hE hd hL
 go_enter Tryz.func127,Tryz.ntmps127
 go_wp2_with (first
  |(go_at_call 45;(with_reducible refine (C.out _ (h.alloc _)).mono ?_);rintro e w1 ⟨it,rfl,b1,hF,hbare,he⟩;have hz1:=hz.kept b1;have hbel1:=Below.then hbel b1;obtain ⟨l,tv,t,kv,ks⟩:=it;obtain ⟨ta,tc,rfl,_,_⟩:=hF.is.inv.1.form;obtain ⟨ka,kc,rfl,_,_⟩:=hF.is.inv.2.1.form;obtain ⟨tn,htn⟩:∃ tn,tn=t.length:=⟨_,rfl⟩;obtain ⟨kn,hkn⟩:∃ kn,kn=ks.length:=⟨_,rfl⟩;simp only [icells];rw [←htn,←hkn];clear htn hkn)
  |((with_reducible show wpList _ _ _ (⟨none,.store _ _ (.tmp 20),_,_,_,_⟩::_) _ _);refine wpList_storeA (o:=⟨none,_,_,_,_,_⟩) (by rfl) 77 (.tmp 4) (.tmp 20) (by rfl) w1.heap.size [.bool l,.slice ta tn tc,.slice ka kn kc] (by rfl) (by rfl) aggItem (Blk.new w1 77 [.bool false,.slice none 0 0,.slice none 0 0]) (by rfl) (by rfl) (by intro u hu;simp at hu;rcases hu with rfl|rfl|rfl<;>rfl) (((Below.refl w1.heap.size w1).alloc (Nat.le_refl _) (.cells #[.bool false,.slice none 0 0,.slice none 0 0] 77))) (Nat.le_refl _) ?_;intro w4 h4 b4 _;have hz4:=hz1.kept b4;have hbel4:=Below.then hbel1 b4)
  |((with_reducible show wpList _ _ _ (⟨none,.store _ _ (.tmp 24),_,_,_,_⟩::_) _ _);refine wpList_storeA (o:=⟨none,_,_,_,_,_⟩) (by rfl) 133 (.tmp 2) (.tmp 24) (by rfl) w.heap.size zsh (by rfl) (by rfl) aggShape hz4 (by rfl) (by rfl) (by intro u hu;simp [zsh] at hu;rcases hu with rfl|rfl<;>rfl) hbel4 (Nat.le_refl _) ?_;intro w9 h9 hbel9 _))
 exact bodyPost_ret (v:=.tuple #[.agg #[.int .i64 0,.slice none 0 0,.slice none 0 0,.slice none 0 0],.int .i64 1]) (results_blk_tmp rfl _ _ w.heap.size aggShape h9 rfl rfl rfl) rfl ⟨hbel9,rfl⟩
theorem sliced_own {a a':Option Addr}{lo hi c size m c':Nat}(h:sliced a lo hi c size=.slice a' m c')(k:Nat)(hk:(Value.slice a' m c').ownBlock=some k):∀ n d,(Value.slice a n d).ownBlock=some k:=by
 intro n d
 unfold sliced at h
 simp only [Value.slice.injEq] at h
 rw [←h.1] at hk
 cases a with
 | none=>simp [Value.ownBlock] at hk
 | some p =>
  have hadd:∀ j,(p.add j).block=p.block:=fun j=>by unfold Addr.add;split<;>rfl
  by_cases hc:c=lo
  ·rw [if_pos hc] at hk;exact hk
  ·rw [if_neg hc] at hk
   simp only [Option.map_some,Value.ownBlock,hadd] at hk
   exact hk
theorem from_anyB {α:Type}{f:α→List Value}{P:Program}{t e:TypeId}{z:Value}{size bytes:Nat}(el:El0 P t e z size bytes f){w:World}{a:Option Addr}{n c:Nat}{l:List α}(h:RowOf f size w (.slice a n c) l)(lo:Nat)(h1:lo≤n)(x:Int)(hx:x=lo) :
  ∃ a' c',(∀ k w',(Instr.slice t (.slice a n c) (some (.int k x)) none none).run P w'=.ok (.slice a' (n - lo) c') w')∧RowOf f size w (.slice a' (n - lo) c') (l.drop lo)∧∀ k,(Value.slice a' (n - lo) c').ownBlock=some k→∀ m d,(Value.slice a m d).ownBlock=some k:=by
 subst hx
 obtain ⟨hn,hnc,hcm⟩:=h.fits
 obtain ⟨a',c',h2,h3⟩:=h.part el.hf el.hsz lo n h1 (Nat.le_refl _)
 obtain ⟨i,hi,_,hsi,_⟩:=el.info
 have hel:P.elem t=e:=by unfold Program.elem;rw [el.ht]
 refine ⟨a',c',fun k w'=>?_,by subst hn;simpa using h3,fun k hk=>sliced_own h2 k hk⟩
 rw [run_slice_l (P:=P) w' (t:=t) (a:=a) (len:=n) (cap:=c) (by rw [hel];exact el.ht) k (lo:Int) (by omega) (by omega)]
 rw [hel]
 simp [sizeOf,typeInfo,hi,hsi,←h2]
theorem to_anyB {α:Type}{f:α→List Value}{P:Program}{t e:TypeId}{z:Value}{size bytes:Nat}(el:El0 P t e z size bytes f){w:World}{a:Option Addr}{n c:Nat}{l:List α}(h:RowOf f size w (.slice a n c) l)(hi:Nat)(h1:hi≤n)(x:Int)(hx:x=hi) :
  ∃ a' c',(∀ k w',(Instr.slice t (.slice a n c) none (some (.int k x)) none).run P w'=.ok (.slice a' hi c') w')∧RowOf f size w (.slice a' hi c') (l.take hi)∧∀ k,(Value.slice a' hi c').ownBlock=some k→∀ m d,(Value.slice a m d).ownBlock=some k:=by
 subst hx
 obtain ⟨hn,hnc,hcm⟩:=h.fits
 obtain ⟨a',c',h2,h3⟩:=h.part el.hf el.hsz 0 hi (Nat.zero_le _) h1
 obtain ⟨i,hi',_,hsi,_⟩:=el.info
 have hel:P.elem t=e:=by unfold Program.elem;rw [el.ht]
 refine ⟨a',c',fun k w'=>?_,by simpa using h3,fun k hk=>sliced_own h2 k hk⟩
 rw [run_slice_h (P:=P) w' (t:=t) (a:=a) (len:=n) (cap:=c) (by rw [hel];exact el.ht) k (hi:Int) (by omega) (by omega)]
 rw [hel]
 simp [sizeOf,typeInfo,hi',hsi] at h2 ⊢
 exact h2
theorem wpList_appF {α:Type}{f:α→List Value}{P:Program}{w:World}{ops:Array Oper}{rest:List Oper}{o:Oper}{a:Act}{Q:Exit→Act→World→Prop}(hgd:o.guard=none)(s x:Operand)(t:TypeId)
  (ho:o.op=.call { callee:=.builtin .append,args:=#[s,x],argTypes:=#[t,t] })
  {e:TypeId} {z:Value} {size bytes:Nat}(el:El0 P t e z size bytes f)
  {ao:Option Addr} {n cap:Nat} {l m:List α}(h1:∀ u∈m.flatMap f,u.oneCell'=true) (hs:a.eval s=.slice ao n cap) (hrow1:RowOf f size w (.slice ao n cap) l)
  {u:Value}(hx:a.eval x=u) (hrow:RowOf f size w u m) (hm0:m.length≠0) (hfull:cap<n+m.length)
  (hbytes:(l.length+m.length)*bytes≤140737488355328) (h63:l.length+m.length≤maxLen)
  (h:∀ v' w',RowOf f size w' v' (l++m)→Below w.heap.size w w'→wpList P ops Q rest (a.put o.dst v') w'):wpList P ops Q (o::rest) a w:=by
 obtain ⟨i,hi,hz,hsi,hby⟩:=el.info
 have hadd:∀ (b off j:Nat),(⟨b,off,none⟩:Addr).add j=⟨b,off+j,none⟩:=fun b off j=>by unfold Addr.add;split<;>simp_all
 obtain ⟨k0,ao',c',hv',_,_,k3⟩:=hrow1
 simp only [Value.slice.injEq] at hv'
 obtain ⟨rfl,rfl,rfl⟩:=hv'
 obtain ⟨h0,ad,c,rfl,_,_,h3⟩:=hrow
 rcases h3 with ⟨_,hm,_⟩|⟨b,off,sp,rfl,hsp,h3⟩
 ·exact absurd hm hm0
 ·obtain rfl:sp=none:=hsp.resolve_right hm0
  refine wpList_append_grows w hgd s x t ho e i z size bytes el.ht hi hz hsi hby el.hzs el.hsz ao l.length cap (l.flatMap f) hs ?_ k0 ?_ ⟨b,off,none⟩ m.length c (m.flatMap f) hx h0 (fun j y hy=>by rw [hadd];exact h3 j y hy) h1 hfull h63 hbytes
   (fun v' w' q1 q2=>h v' w' (by
    have:OwnOf f size e w' w.heap.size v' (l++m):=by unfold OwnOf;rw [List.length_append,List.flatMap_append];exact q1
    exact this.row) ((Below.refl _ _).grown q2 (Nat.le_refl _) (fun k hk=>by cases hk)))
  ·rintro rfl
   rcases k3 with ⟨_,q1,q2⟩|⟨b2,off2,sp2,q,_⟩
   ·exact ⟨q1,q2⟩
   ·cases q
  ·rintro b1 rfl j u hu
   rcases k3 with ⟨q,_,_⟩|⟨b2,off2,sp2,q,hsp2,q3⟩
   ·cases q
   ·cases q
    have:sp2=none:=by
     rcases hsp2 with rfl|hl0
     ·rfl
     ·have:l=[]:=List.eq_nil_of_length_eq_zero hl0
      subst this;simp at hu
    subst this
    rw [hadd];exact q3 j u hu
end Go.Proofs.YtcgpjceopnfahaaGreat
