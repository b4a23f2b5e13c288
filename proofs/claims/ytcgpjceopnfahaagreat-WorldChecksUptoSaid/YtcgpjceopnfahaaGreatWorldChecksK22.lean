/- The reference's SameItem (of items that mean the same) and Bare (of bare items): true. | pack.Split and the reference's PSplit: one answer. | pack.Decode and th -/
import Derived.Test.YtcgpjceopnfahaaGreatWorldChecksK18
import Derived.Test.YtcgpjceopnfahaaGreatWorldChecksK01
import Derived.Test.YtcgpjceopnfahaaGreatWorldChecksK20
import Derived.Test.YtcgpjceopnfahaaGreatWorldChecksK21
import Derived.Test.YtcgpjceopnfahaaGreatWorldChecksK19
set_option linter.unusedSimpArgs false
set_option linter.unusedVariables false
set_option maxHeartbeats 4000000
set_option maxRecDepth 100000
namespace Go.Proofs.YtcgpjceopnfahaaGreat
open Go.RowKit
mutual
def bulkP:Pit→Nat
 | .txt t=>1+t.length
 | .lst ks=>1+bulkPL ks
def bulkPL:List Pit→Nat
 | []=>0
 | k::ks=>bulkP k+bulkPL ks
end
theorem bulk_er {it:Itm}(hb:BareI it):bulkI it=bulkP (erI it):=by
 induction hb with
 | txt tv t kv=>rw [erI_mk];simp [bulkI,bulkL,bulkP]
 | lst tv kv ks h ih =>
  rw [erI_mk]
  have:∀ l:List Itm,(∀ k∈l,bulkI k=bulkP (erI k))→bulkL l=bulkPL (l.map erI):=by
   intro l
   induction l with
   | nil=>intro _;simp [bulkL,bulkPL]
   | cons k l ihl =>
    intro hl
    rw [List.map_cons,bulkL,bulkPL,hl k List.mem_cons_self,ihl (fun j hj=>hl j (List.mem_cons_of_mem _ hj))]
  simp [bulkI,bulkP,this ks ih]
theorem parL_bulk {f:List UInt8→Option (Pit × List UInt8)}(hf:∀ b p r,f b=some (p,r)→bulkP p+2*r.length≤2*b.length):∀ (m:Nat) (b:List UInt8) (ps:List Pit),parL f m b=some ps→bulkPL ps≤2*b.length
 | m,[],ps,h=>by rw [parL_nil] at h;simp at h;subst h;simp [bulkPL]
 | 0,_::_,ps,h=>by simp [parL] at h
 | m+1,x::b,ps,h=>by
  simp only [parL] at h
  cases hx:f (x::b) with
  | none=>rw [hx] at h;simp at h
  | some pr =>
   obtain ⟨p,r⟩:=pr
   rw [hx] at h
   dsimp only at h
   cases hr:parL f m r with
   | none=>rw [hr] at h;simp at h
   | some qs =>
    rw [hr] at h
    simp only [Option.some.injEq] at h
    subst h
    have h1:=hf _ _ _ hx
    have h2:=parL_bulk hf m r qs hr
    rw [bulkPL]
    omega
theorem par_bulk:∀ (n:Nat)(b:List UInt8)(p:Pit)(r:List UInt8),par n b=some (p,r)→bulkP p+2*r.length≤2*b.length
 | 0,[],p,r,h=>by simp [par] at h
 | n+1,[],p,r,h=>by simp [par] at h
 | 0,_::_,p,r,h=>by simp [par] at h
 | n+1,c::b,p,r,h=>by
  unfold par at h
  split at h
  ·simp only [Option.some.injEq,Prod.mk.injEq] at h
   obtain ⟨rfl,rfl⟩:=h
   simp [bulkP];omega
  ·split at h
   ·split at h
    ·simp at h
    ·rename_i k r' hh
     obtain ⟨j,hj,hjl⟩:=hdr_suf hh
     have hl:r'.length=b.length - j:=by rw [hj,List.length_drop]
     split at h
     ·simp at h
     ·rename_i hk
      simp only [Option.some.injEq,Prod.mk.injEq] at h
      obtain ⟨rfl,rfl⟩:=h
      simp [bulkP];omega
   ·split at h
    ·simp at h
    ·rename_i k r' hh
     obtain ⟨j,hj,hjl⟩:=hdr_suf hh
     have hl:r'.length=b.length - j:=by rw [hj,List.length_drop]
     split at h
     ·simp at h
     ·rename_i hk
      split at h
      ·simp at h
      ·rename_i ks hks
       simp only [Option.some.injEq,Prod.mk.injEq] at h
       obtain ⟨rfl,rfl⟩:=h
       have:=parL_bulk (par_bulk n) k _ ks hks
       simp [bulkP] at this ⊢;omega
def splP (b:List UInt8):Pit:=match par b.length b with
 | none=>.txt []
 | some (p,_)=>p
def splN (b:List UInt8):Nat:=match par b.length b with
 | none=>0
 | some (_,r)=>b.length - r.length
def splE (b:List UInt8):Int:=match par b.length b with
 | none=>1
 | some _=>0
theorem Fp.nil (S:Nat→Prop)(w:World):Fp S w (.mk false (.slice none 0 0) [] (.slice none 0 0) []):=fun u _=>.mk false _ [] _ [] (RowOf.nil b8 1 u) (RowOf.nil icells 3 u) (by simp)
theorem split_one (a:Option Addr)(L c:Nat)(b:List UInt8)(hL:b.length=L)(hLs:L≤1048576)(w:World)(h:Bytes w (.slice a L c) b) :
  Calls Tryz.prog 84 #[.slice a L c] w fun e w'=>∃ it,e=.returned (.tuple #[.agg (icells it).toArray,.int .i64 (splN b:Int),.int .i64 (splE b)])∧Below w.heap.size w w'∧Fp (fun x=>w.heap.size≤x) w' it∧BareI it∧erI it=splP b∧bulkI it≤10000000:=by
 have hs:=split_any b.length a L c b hL (by omega) hLs w h
 cases hp:par b.length b with
 | none =>
  rw [hp,SplitPost_none] at hs
  refine hs.mono ?_
  rintro e w' ⟨rfl,hb⟩
  refine ⟨.mk false (.slice none 0 0) [] (.slice none 0 0) [],?_,hb,Fp.nil _ _,.txt _ _ _,by simp [splP,hp,erI_mk],by simp [bulkI,bulkL]⟩
  simp [splN,splE,hp,icells]
 | some pr =>
  obtain ⟨p,r⟩:=pr
  rw [hp,SplitPost_some] at hs
  have hbk:=par_bulk _ _ _ _ hp
  refine hs.mono ?_
  rintro e w' ⟨it,rfl,hb,hI,he,hbare⟩
  refine ⟨it,?_,hb,hI,hbare,by simp [splP,hp,he],by rw [bulk_er hbare,he];omega⟩
  have e1:splN b=L - r.length:=by unfold splN;rw [hp,←hL]
  have e2:splE b=0:=by unfold splE;rw [hp]
  rw [e1,e2]
theorem psplit_one (a:Option Addr)(L c:Nat)(b:List UInt8)(hL:b.length=L)(hLs:L≤16777216)(w:World)(h:Bytes w (.slice a L c) b) :
  Calls Tryz.prog 86 #[.slice a L c] w fun e w'=>∃ it,e=.returned (.tuple #[.agg (icells it).toArray,.int .i64 (splN b:Int),.int .i64 (splE b)])∧Below w.heap.size w w'∧Fp (fun x=>w.heap.size≤x) w' it∧BareI it∧erI it=splP b:=by
 have hs:=psplit_any b.length b (Nat.le_refl _) (by omega) a L c w hL h
 cases hp:par b.length b with
 | none =>
  rw [hp,PSplitPost_none] at hs
  refine hs.mono ?_
  rintro e w' ⟨rfl,hb⟩
  refine ⟨.mk false (.slice none 0 0) [] (.slice none 0 0) [],?_,hb,Fp.nil _ _,.txt _ _ _,by simp [splP,hp,erI_mk]⟩
  simp [splN,splE,hp,icells]
 | some pr =>
  obtain ⟨p,r⟩:=pr
  rw [hp,PSplitPost_some] at hs
  refine hs.mono ?_
  rintro e w' ⟨it,rfl,hb,hF,he,hbare⟩
  refine ⟨it,?_,hb,hF,hbare,by simp [splP,hp,he]⟩
  have e1:splN b=L - r.length:=by unfold splN;rw [hp,←hL]
  have e2:splE b=0:=by unfold splE;rw [hp]
  rw [e1,e2]
theorem splE_01 (b:List UInt8):splE b=0∨splE b=1:=by unfold splE;split <;> simp
def dec (b:List UInt8):Option Pit:=match par b.length b with
 | some (p,[])=>some p
 | _=>none
def decP (b:List UInt8):Pit:=(dec b).getD (.txt [])
def decE (b:List UInt8):Int:=if (dec b).isSome=true then 0 else 1
theorem dec_yes {b:List UInt8}(h1:splE b=0)(h2:splN b=b.length):decE b=0∧decP b=splP b:=by
 unfold decE decP dec
 unfold splE at h1
 unfold splN at h2
 unfold splP
 cases hp:par b.length b with
 | none=>rw [hp] at h1;simp at h1
 | some pr =>
  obtain ⟨p,r⟩:=pr
  rw [hp] at h2
  have hl:=par_len hp
  dsimp only at h2
  obtain rfl:r=[]:=List.eq_nil_of_length_eq_zero (by omega)
  exact ⟨rfl,rfl⟩
theorem dec_no {b:List UInt8}(h:¬ (splE b=0∧splN b=b.length)):decE b=1∧decP b=.txt []:=by
 unfold splE splN at h
 unfold decE decP dec
 cases hp:par b.length b with
 | none=>exact ⟨rfl,rfl⟩
 | some pr =>
  obtain ⟨p,r⟩:=pr
  rw [hp] at h
  cases r with
  | nil=>exact absurd ⟨rfl,by simp⟩ h
  | cons x r=>exact ⟨rfl,rfl⟩
theorem decode_any (a:Option Addr)(L c:Nat)(b:List UInt8)(hL:b.length=L)(hLs:L≤1048576)(w:World)(h:Bytes w (.slice a L c) b) :
  Calls Tryz.prog 42 #[.slice a L c] w fun e w'=>∃ it,e=.returned (.tuple #[.agg (icells it).toArray,.int .i64 (decE b)])∧Below w.heap.size w w'∧Fp (fun x=>w.heap.size≤x) w' it∧BareI it∧erI it=decP b∧bulkI it≤10000000:=by
 have hz:=Blk.new w 77 [.bool false,.slice none 0 0,.slice none 0 0]
 have hbel:Below w.heap.size w (w.alloc (.cells #[.bool false,.slice none 0 0,.slice none 0 0] 77)):=(Below.refl _ _).alloc (Nat.le_refl _) _
 have hszw:w.heap.size<(w.alloc (.cells #[.bool false,.slice none 0 0,.slice none 0 0] 77)).heap.size:=by simp
 have cc:=fun u (hu:Bytes u (.slice a L c) b)=>split_one a L c b hL hLs u hu
 by_cases hok:splE b=0∧splN b=b.length
 ·have H:=dec_yes hok.1 hok.2
  rw [H.1]
  rw [hok.1,hok.2,hL] at cc
  have HP:=Lib.hid H.2
  have C:=Lib.hid cc
  have hne:((L:Int) != (L:Int))=false:=by simp
  clear cc hok H hL
  go_enter Tryz.func42,Tryz.ntmps42
  go_wp2_with (first
   |(go_at_call 84;(with_reducible refine (C.out _ (h.alloc _)).mono ?_);rintro e w1 ⟨it,rfl,b1,hF,hbare,he,hbk⟩;have hz1:=hz.kept b1;have hbel1:=Below.then hbel b1;obtain ⟨l,tv,t,kv,ks⟩:=it;obtain ⟨ta,tc,rfl,_,_⟩:=hF.is.inv.1.form;obtain ⟨ka,kc,rfl,_,_⟩:=hF.is.inv.2.1.form;obtain ⟨tn,htn⟩:∃ tn,tn=t.length:=⟨_,rfl⟩;obtain ⟨kn,hkn⟩:∃ kn,kn=ks.length:=⟨_,rfl⟩;rw [←htn,←hkn] at hF he hbare hbk;rw [←htn,←hkn];clear htn hkn;simp only [icells])
   |((with_reducible show wpList _ _ _ (⟨none,.store _ _ (.tmp 10),_,_,_,_⟩::_) _ _);refine wpList_storeA (o:=⟨none,_,_,_,_,_⟩) (by rfl) 77 (.tmp 4) (.tmp 10) (by rfl) w1.heap.size [.bool l,.slice ta tn tc,.slice ka kn kc] (by rfl) (by rfl) aggItem (Blk.new w1 77 [.bool false,.slice none 0 0,.slice none 0 0]) (by rfl) (by rfl) (by intro u hu;simp at hu;rcases hu with rfl|rfl|rfl<;>rfl) (((Below.refl w1.heap.size w1).alloc (Nat.le_refl _) (.cells #[.bool false,.slice none 0 0,.slice none 0 0] 77))) (Nat.le_refl _) ?_;intro w4 h4 b4 _;have hz4:=hz1.kept b4;have hF4:=hF.to b4.size (fun x hx hl=>⟨b4.block x hl,hx⟩);have hbel4:=Below.then hbel1 b4)
   |(refine wpList_loadA (o:=⟨some 22,_,_,_,_,_⟩) (by rfl) 77 (.tmp 4) (by rfl) w1.heap.size (by rfl) aggItem h4 (by rfl) ?_)
   |((with_reducible show wpList _ _ _ (⟨none,.store _ _ (.tmp 22),_,_,_,_⟩::_) _ _);refine wpList_storeA (o:=⟨none,_,_,_,_,_⟩) (by rfl) 77 (.tmp 2) (.tmp 22) (by rfl) w.heap.size [.bool l,.slice ta tn tc,.slice ka kn kc] (by rfl) (by rfl) aggItem hz4 (by rfl) (by rfl) (by intro u hu;simp at hu;rcases hu with rfl|rfl|rfl<;>rfl) hbel4 (Nat.le_refl _) ?_;intro w5 h5 hbel5 g5;have hF5:=hF4.to (S':=fun x=>w.heap.size≤x) g5.size (fun x hx hl=>⟨g5.block x hl (by simp<;>omega),by omega⟩)))
  exact bodyPost_ret (results_blk_tmp rfl _ _ w.heap.size aggItem h5 rfl rfl rfl) rfl ⟨.mk l (.slice ta tn tc) t (.slice ka kn kc) ks,rfl,hbel5,hF5,hbare,he.trans HP.out.symm,hbk⟩
 ·have H:=dec_no hok
  rw [H.1]
  have HP:=Lib.hid H.2
  rcases splE_01 b with h0|h0
  ·have hN:splN b≠L:=fun e=>hok ⟨h0,by rw [hL];exact e⟩
   rw [h0] at cc
   obtain ⟨N,hNN⟩:∃ N,N=splN b:=⟨_,rfl⟩
   rw [←hNN] at cc hN
   have hne:((N:Int) != (L:Int))=true:=by rw [bne_iff_ne];omega
   have C:=Lib.hid cc
   clear cc hok H hL hNN h0 hN
   go_enter Tryz.func42,Tryz.ntmps42
   go_wp2_with (first
    |(go_at_call 84;(with_reducible refine (C.out _ (h.alloc _)).mono ?_);rintro e w1 ⟨it,rfl,b1,hF,hbare,he,hbk⟩;have hz1:=hz.kept b1;have hbel1:=Below.then hbel b1;obtain ⟨l,tv,t,kv,ks⟩:=it;obtain ⟨ta,tc,rfl,_,_⟩:=hF.is.inv.1.form;obtain ⟨ka,kc,rfl,_,_⟩:=hF.is.inv.2.1.form;obtain ⟨tn,htn⟩:∃ tn,tn=t.length:=⟨_,rfl⟩;obtain ⟨kn,hkn⟩:∃ kn,kn=ks.length:=⟨_,rfl⟩;rw [←htn,←hkn] at hF he hbare hbk;rw [←htn,←hkn];clear htn hkn;simp only [icells])
    |((with_reducible show wpList _ _ _ (⟨none,.store _ _ (.tmp 10),_,_,_,_⟩::_) _ _);refine wpList_storeA (o:=⟨none,_,_,_,_,_⟩) (by rfl) 77 (.tmp 4) (.tmp 10) (by rfl) w1.heap.size [.bool l,.slice ta tn tc,.slice ka kn kc] (by rfl) (by rfl) aggItem (Blk.new w1 77 [.bool false,.slice none 0 0,.slice none 0 0]) (by rfl) (by rfl) (by intro u hu;simp at hu;rcases hu with rfl|rfl|rfl<;>rfl) (((Below.refl w1.heap.size w1).alloc (Nat.le_refl _) (.cells #[.bool false,.slice none 0 0,.slice none 0 0] 77))) (Nat.le_refl _) ?_;intro w4 h4 b4 _;have hz4:=hz1.kept b4;have hF4:=hF.to b4.size (fun x hx hl=>⟨b4.block x hl,hx⟩);have hbel4:=Below.then hbel1 b4)
    |((with_reducible show wpList _ _ _ (⟨none,.store _ _ (.tmp 21),_,_,_,_⟩::_) _ _);refine wpList_storeA (o:=⟨none,_,_,_,_,_⟩) (by rfl) 77 (.tmp 2) (.tmp 21) (by rfl) w.heap.size [.bool false,.slice none 0 0,.slice none 0 0] (by rfl) (by rfl) aggItem hz4 (by rfl) (by rfl) (by intro u hu;simp at hu;rcases hu with rfl|rfl<;>rfl) hbel4 (Nat.le_refl _) ?_;intro w5 h5 hbel5 g5))
   exact bodyPost_ret (results_blk_tmp rfl _ _ w.heap.size aggItem h5 rfl rfl rfl) rfl ⟨.mk false (.slice none 0 0) [] (.slice none 0 0) [],rfl,hbel5,Fp.nil _ _,.txt _ _ _,by simp [erI_mk,HP.out],by simp [bulkI,bulkL]⟩
  ·rw [h0] at cc
   have C:=Lib.hid cc
   clear cc hok H hL h0
   go_enter Tryz.func42,Tryz.ntmps42
   go_wp2_with (first
    |(go_at_call 84;(with_reducible refine (C.out _ (h.alloc _)).mono ?_);rintro e w1 ⟨it,rfl,b1,hF,hbare,he,hbk⟩;have hz1:=hz.kept b1;have hbel1:=Below.then hbel b1;obtain ⟨l,tv,t,kv,ks⟩:=it;obtain ⟨ta,tc,rfl,_,_⟩:=hF.is.inv.1.form;obtain ⟨ka,kc,rfl,_,_⟩:=hF.is.inv.2.1.form;obtain ⟨tn,htn⟩:∃ tn,tn=t.length:=⟨_,rfl⟩;obtain ⟨kn,hkn⟩:∃ kn,kn=ks.length:=⟨_,rfl⟩;rw [←htn,←hkn] at hF he hbare hbk;rw [←htn,←hkn];clear htn hkn;simp only [icells])
    |((with_reducible show wpList _ _ _ (⟨none,.store _ _ (.tmp 10),_,_,_,_⟩::_) _ _);refine wpList_storeA (o:=⟨none,_,_,_,_,_⟩) (by rfl) 77 (.tmp 4) (.tmp 10) (by rfl) w1.heap.size [.bool l,.slice ta tn tc,.slice ka kn kc] (by rfl) (by rfl) aggItem (Blk.new w1 77 [.bool false,.slice none 0 0,.slice none 0 0]) (by rfl) (by rfl) (by intro u hu;simp at hu;rcases hu with rfl|rfl|rfl<;>rfl) (((Below.refl w1.heap.size w1).alloc (Nat.le_refl _) (.cells #[.bool false,.slice none 0 0,.slice none 0 0] 77))) (Nat.le_refl _) ?_;intro w4 h4 b4 _;have hz4:=hz1.kept b4;have hF4:=hF.to b4.size (fun x hx hl=>⟨b4.block x hl,hx⟩);have hbel4:=Below.then hbel1 b4)
    |((with_reducible show wpList _ _ _ (⟨none,.store _ _ (.tmp 21),_,_,_,_⟩::_) _ _);refine wpList_storeA (o:=⟨none,_,_,_,_,_⟩) (by rfl) 77 (.tmp 2) (.tmp 21) (by rfl) w.heap.size [.bool false,.slice none 0 0,.slice none 0 0] (by rfl) (by rfl) aggItem hz4 (by rfl) (by rfl) (by intro u hu;simp at hu;rcases hu with rfl|rfl<;>rfl) hbel4 (Nat.le_refl _) ?_;intro w5 h5 hbel5 g5))
   exact bodyPost_ret (results_blk_tmp rfl _ _ w.heap.size aggItem h5 rfl rfl rfl) rfl ⟨.mk false (.slice none 0 0) [] (.slice none 0 0) [],rfl,hbel5,Fp.nil _ _,.txt _ _ _,by simp [erI_mk,HP.out],by simp [bulkI,bulkL]⟩
theorem pdecode_big (a:Option Addr)(L c:Nat)(b:List UInt8)(hL:b.length=L)(hLs:L≤16777216)(w:World)(h:Bytes w (.slice a L c) b) :
  Calls Tryz.prog 45 #[.slice a L c] w fun e w'=>∃ it,e=.returned (.tuple #[.agg (icells it).toArray,.int .i64 (decE b)])∧Below w.heap.size w w'∧Fp (fun x=>w.heap.size≤x) w' it∧BareI it∧erI it=decP b:=by
 have hz:=Blk.new w 77 [.bool false,.slice none 0 0,.slice none 0 0]
 have hbel:Below w.heap.size w (w.alloc (.cells #[.bool false,.slice none 0 0,.slice none 0 0] 77)):=(Below.refl _ _).alloc (Nat.le_refl _) _
 have hszw:w.heap.size<(w.alloc (.cells #[.bool false,.slice none 0 0,.slice none 0 0] 77)).heap.size:=by simp
 have cc:=fun u (hu:Bytes u (.slice a L c) b)=>psplit_one a L c b hL hLs u hu
 by_cases hok:splE b=0∧splN b=b.length
 ·have H:=dec_yes hok.1 hok.2
  rw [H.1]
  rw [hok.1,hok.2,hL] at cc
  have HP:=Lib.hid H.2
  have C:=Lib.hid cc
  have hne:((L:Int) != (L:Int))=false:=by simp
  clear cc hok H hL
  go_enter Tryz.func45,Tryz.ntmps45
  go_wp2_with (first
   |(go_at_call 86;(with_reducible refine (C.out _ (h.alloc _)).mono ?_);rintro e w1 ⟨it,rfl,b1,hF,hbare,he⟩;have hz1:=hz.kept b1;have hbel1:=Below.then hbel b1;obtain ⟨l,tv,t,kv,ks⟩:=it;obtain ⟨ta,tc,rfl,_,_⟩:=hF.is.inv.1.form;obtain ⟨ka,kc,rfl,_,_⟩:=hF.is.inv.2.1.form;obtain ⟨tn,htn⟩:∃ tn,tn=t.length:=⟨_,rfl⟩;obtain ⟨kn,hkn⟩:∃ kn,kn=ks.length:=⟨_,rfl⟩;rw [←htn,←hkn] at hF he hbare;rw [←htn,←hkn];clear htn hkn;simp only [icells])
   |((with_reducible show wpList _ _ _ (⟨none,.store _ _ (.tmp 10),_,_,_,_⟩::_) _ _);refine wpList_storeA (o:=⟨none,_,_,_,_,_⟩) (by rfl) 77 (.tmp 4) (.tmp 10) (by rfl) w1.heap.size [.bool l,.slice ta tn tc,.slice ka kn kc] (by rfl) (by rfl) aggItem (Blk.new w1 77 [.bool false,.slice none 0 0,.slice none 0 0]) (by rfl) (by rfl) (by intro u hu;simp at hu;rcases hu with rfl|rfl|rfl<;>rfl) (((Below.refl w1.heap.size w1).alloc (Nat.le_refl _) (.cells #[.bool false,.slice none 0 0,.slice none 0 0] 77))) (Nat.le_refl _) ?_;intro w4 h4 b4 _;have hz4:=hz1.kept b4;have hF4:=hF.to b4.size (fun x hx hl=>⟨b4.block x hl,hx⟩);have hbel4:=Below.then hbel1 b4)
   |(refine wpList_loadA (o:=⟨some 22,_,_,_,_,_⟩) (by rfl) 77 (.tmp 4) (by rfl) w1.heap.size (by rfl) aggItem h4 (by rfl) ?_)
   |((with_reducible show wpList _ _ _ (⟨none,.store _ _ (.tmp 22),_,_,_,_⟩::_) _ _);refine wpList_storeA (o:=⟨none,_,_,_,_,_⟩) (by rfl) 77 (.tmp 2) (.tmp 22) (by rfl) w.heap.size [.bool l,.slice ta tn tc,.slice ka kn kc] (by rfl) (by rfl) aggItem hz4 (by rfl) (by rfl) (by intro u hu;simp at hu;rcases hu with rfl|rfl|rfl<;>rfl) hbel4 (Nat.le_refl _) ?_;intro w5 h5 hbel5 g5;have hF5:=hF4.to (S':=fun x=>w.heap.size≤x) g5.size (fun x hx hl=>⟨g5.block x hl (by simp<;>omega),by omega⟩)))
  exact bodyPost_ret (results_blk_tmp rfl _ _ w.heap.size aggItem h5 rfl rfl rfl) rfl ⟨.mk l (.slice ta tn tc) t (.slice ka kn kc) ks,rfl,hbel5,hF5,hbare,he.trans HP.out.symm⟩
 ·have H:=dec_no hok
  rw [H.1]
  have HP:=Lib.hid H.2
  rcases splE_01 b with h0|h0
  ·have hN:splN b≠L:=fun e=>hok ⟨h0,by rw [hL];exact e⟩
   rw [h0] at cc
   obtain ⟨N,hNN⟩:∃ N,N=splN b:=⟨_,rfl⟩
   rw [←hNN] at cc hN
   have hne:((N:Int) != (L:Int))=true:=by rw [bne_iff_ne];omega
   have C:=Lib.hid cc
   clear cc hok H hL hNN h0 hN
   go_enter Tryz.func45,Tryz.ntmps45
   go_wp2_with (first
    |(go_at_call 86;(with_reducible refine (C.out _ (h.alloc _)).mono ?_);rintro e w1 ⟨it,rfl,b1,hF,hbare,he⟩;have hz1:=hz.kept b1;have hbel1:=Below.then hbel b1;obtain ⟨l,tv,t,kv,ks⟩:=it;obtain ⟨ta,tc,rfl,_,_⟩:=hF.is.inv.1.form;obtain ⟨ka,kc,rfl,_,_⟩:=hF.is.inv.2.1.form;obtain ⟨tn,htn⟩:∃ tn,tn=t.length:=⟨_,rfl⟩;obtain ⟨kn,hkn⟩:∃ kn,kn=ks.length:=⟨_,rfl⟩;rw [←htn,←hkn] at hF he hbare;rw [←htn,←hkn];clear htn hkn;simp only [icells])
    |((with_reducible show wpList _ _ _ (⟨none,.store _ _ (.tmp 10),_,_,_,_⟩::_) _ _);refine wpList_storeA (o:=⟨none,_,_,_,_,_⟩) (by rfl) 77 (.tmp 4) (.tmp 10) (by rfl) w1.heap.size [.bool l,.slice ta tn tc,.slice ka kn kc] (by rfl) (by rfl) aggItem (Blk.new w1 77 [.bool false,.slice none 0 0,.slice none 0 0]) (by rfl) (by rfl) (by intro u hu;simp at hu;rcases hu with rfl|rfl|rfl<;>rfl) (((Below.refl w1.heap.size w1).alloc (Nat.le_refl _) (.cells #[.bool false,.slice none 0 0,.slice none 0 0] 77))) (Nat.le_refl _) ?_;intro w4 h4 b4 _;have hz4:=hz1.kept b4;have hF4:=hF.to b4.size (fun x hx hl=>⟨b4.block x hl,hx⟩);have hbel4:=Below.then hbel1 b4)
    |((with_reducible show wpList _ _ _ (⟨none,.store _ _ (.tmp 21),_,_,_,_⟩::_) _ _);refine wpList_storeA (o:=⟨none,_,_,_,_,_⟩) (by rfl) 77 (.tmp 2) (.tmp 21) (by rfl) w.heap.size [.bool false,.slice none 0 0,.slice none 0 0] (by rfl) (by rfl) aggItem hz4 (by rfl) (by rfl) (by intro u hu;simp at hu;rcases hu with rfl|rfl<;>rfl) hbel4 (Nat.le_refl _) ?_;intro w5 h5 hbel5 g5))
   exact bodyPost_ret (results_blk_tmp rfl _ _ w.heap.size aggItem h5 rfl rfl rfl) rfl ⟨.mk false (.slice none 0 0) [] (.slice none 0 0) [],rfl,hbel5,Fp.nil _ _,.txt _ _ _,by simp [erI_mk,HP.out]⟩
  ·rw [h0] at cc
   have C:=Lib.hid cc
   clear cc hok H hL h0
   go_enter Tryz.func45,Tryz.ntmps45
   go_wp2_with (first
    |(go_at_call 86;(with_reducible refine (C.out _ (h.alloc _)).mono ?_);rintro e w1 ⟨it,rfl,b1,hF,hbare,he⟩;have hz1:=hz.kept b1;have hbel1:=Below.then hbel b1;obtain ⟨l,tv,t,kv,ks⟩:=it;obtain ⟨ta,tc,rfl,_,_⟩:=hF.is.inv.1.form;obtain ⟨ka,kc,rfl,_,_⟩:=hF.is.inv.2.1.form;obtain ⟨tn,htn⟩:∃ tn,tn=t.length:=⟨_,rfl⟩;obtain ⟨kn,hkn⟩:∃ kn,kn=ks.length:=⟨_,rfl⟩;rw [←htn,←hkn] at hF he hbare;rw [←htn,←hkn];clear htn hkn;simp only [icells])
    |((with_reducible show wpList _ _ _ (⟨none,.store _ _ (.tmp 10),_,_,_,_⟩::_) _ _);refine wpList_storeA (o:=⟨none,_,_,_,_,_⟩) (by rfl) 77 (.tmp 4) (.tmp 10) (by rfl) w1.heap.size [.bool l,.slice ta tn tc,.slice ka kn kc] (by rfl) (by rfl) aggItem (Blk.new w1 77 [.bool false,.slice none 0 0,.slice none 0 0]) (by rfl) (by rfl) (by intro u hu;simp at hu;rcases hu with rfl|rfl|rfl<;>rfl) (((Below.refl w1.heap.size w1).alloc (Nat.le_refl _) (.cells #[.bool false,.slice none 0 0,.slice none 0 0] 77))) (Nat.le_refl _) ?_;intro w4 h4 b4 _;have hz4:=hz1.kept b4;have hF4:=hF.to b4.size (fun x hx hl=>⟨b4.block x hl,hx⟩);have hbel4:=Below.then hbel1 b4)
    |((with_reducible show wpList _ _ _ (⟨none,.store _ _ (.tmp 21),_,_,_,_⟩::_) _ _);refine wpList_storeA (o:=⟨none,_,_,_,_,_⟩) (by rfl) 77 (.tmp 2) (.tmp 21) (by rfl) w.heap.size [.bool false,.slice none 0 0,.slice none 0 0] (by rfl) (by rfl) aggItem hz4 (by rfl) (by rfl) (by intro u hu;simp at hu;rcases hu with rfl|rfl<;>rfl) hbel4 (Nat.le_refl _) ?_;intro w5 h5 hbel5 g5))
   exact bodyPost_ret (results_blk_tmp rfl _ _ w.heap.size aggItem h5 rfl rfl rfl) rfl ⟨.mk false (.slice none 0 0) [] (.slice none 0 0) [],rfl,hbel5,Fp.nil _ _,.txt _ _ _,by simp [erI_mk,HP.out]⟩
theorem pdecode_any (a:Option Addr)(L c:Nat)(b:List UInt8)(hL:b.length=L)(hLs:L≤1048576)(w:World)(h:Bytes w (.slice a L c) b) :
  Calls Tryz.prog 45 #[.slice a L c] w fun e w'=>∃ it,e=.returned (.tuple #[.agg (icells it).toArray,.int .i64 (decE b)])∧Below w.heap.size w w'∧Fp (fun x=>w.heap.size≤x) w' it∧BareI it∧erI it=decP b :=
 pdecode_big a L c b hL (Nat.le_trans hLs (by omega)) w h
theorem dec_back {b:List UInt8}{p:Pit}(h:dec b=some p):b=encP p:=by
 unfold dec at h
 cases hp:par b.length b with
 | none=>rw [hp] at h;simp at h
 | some pr =>
  obtain ⟨q,r⟩:=pr
  rw [hp] at h
  cases r with
  | nil =>
   simp only [Option.some.injEq] at h
   subst h
   have:=par_back _ _ _ _ hp
   simpa using this
  | cons x r=>simp at h
def KidsOf:Pit→List (List UInt8)→Prop
 | .txt _,_=>True
 | .lst ks,l=>l.length=ks.length∧∀ (i:Nat) (t:List UInt8),ks[i]?=some (.txt t)→l[i]?=some t
def itl:Itm→Bool
 | .mk l _ _ _ _=>l
def itt:Itm→List UInt8
 | .mk _ _ t _ _=>t
theorem erI_text {it:Itm}(h:itl it=false):erI it=.txt (itt it):=by
 cases it with
 | mk l tv t kv ks =>
  have:l=false:=h
  subst this
  rw [erI_mk];rfl
theorem encPL_len:∀ (ks:List Pit),ks.length≤(encPL ks).length
 | []=>by simp [encPL]
 | k::ks=>by
  have h1:=encPL_len ks
  have h2:0<(encP k).length:=by
   rcases Nat.eq_zero_or_pos (encP k).length with h|h
   ·exact absurd (List.eq_nil_of_length_eq_zero h) (encP_ne k)
   ·exact h
  rw [encPL,List.length_append,List.length_cons];omega
theorem txt_le (t:List UInt8):t.length≤(encP (.txt t)).length:=by
 rw [encP];unfold textB
 split
 ·omega
 ·rw [List.length_append];omega
def kidsN:Pit→Nat
 | .txt _=>0
 | .lst qs=>qs.length
theorem kidsN_le (p:Pit):kidsN p≤(encP p).length:=by
 cases p with
 | txt t=>simp [kidsN]
 | lst qs =>
  have:=encPL_len qs
  rw [encP,List.length_append];show qs.length≤_;omega
def itks:Itm→List Itm
 | .mk _ _ _ _ ks=>ks
def pitT:Pit→List UInt8
 | .txt t=>t
 | .lst _=>[]
def kidT:Pit→List (List UInt8)
 | .txt _=>[]
 | .lst qs=>qs.map pitT
theorem kidT_le (p:Pit):∀ t∈kidT p,t.length≤(encP p).length:=by
 intro t ht
 cases p with
 | txt _=>simp [kidT] at ht
 | lst qs =>
  simp only [kidT,List.mem_map] at ht
  obtain ⟨q,hq,rfl⟩:=ht
  cases q with
  | lst _=>simp [pitT]
  | txt t =>
   have h1:=txt_le t
   have h2:=encPL_mem hq
   simp only [pitT]
   rw [encP,List.length_append];omega
theorem kids_of {it:Itm}{p:Pit}(hb:BareI it)(he:erI it=p):(itks it).length=kidsN p∧KidsOf p ((itks it).map itt)∧(itks it).map itt=kidT p:=by
 subst he
 cases hb with
 | txt tv t kv=>rw [erI_mk];exact ⟨rfl,trivial,rfl⟩
 | lst tv kv ks h =>
  rw [erI_mk,if_pos rfl]
  refine ⟨by simp [kidsN,itks],⟨by simp [itks],fun i t hi=>?_⟩,?_⟩
  rotate_left
  ·show ks.map itt=(ks.map erI).map pitT
   rw [List.map_map]
   apply List.map_congr_left
   intro k hk
   cases h k hk with
   | txt tv t kv=>rw [Function.comp,erI_mk];rfl
   | lst tv kv ks h=>rw [Function.comp,erI_mk];rfl
  show (ks.map itt)[i]?=some t
  rw [List.getElem?_map] at hi ⊢
  cases hk:ks[i]? with
  | none=>rw [hk] at hi;simp at hi
  | some k =>
   rw [hk] at hi
   simp only [Option.map_some,Option.some.injEq] at hi ⊢
   cases k with
   | mk l tv t' kv ks' =>
    rw [erI_mk] at hi
    cases l with
    | false=>simpa [itt] using hi
    | true=>simp at hi
end Go.Proofs.YtcgpjceopnfahaaGreat
