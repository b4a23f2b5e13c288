/- (*reader).item: a list. | (*reader).item; pack.Split's deferred closure. | pack.Split. -/
import Derived.Test.YtcgpjceopnfahaaGreatWorldChecksK18
import Derived.Recover
set_option linter.unusedSimpArgs false
set_option linter.unusedVariables false
set_option maxHeartbeats 4000000
set_option maxRecDepth 100000
namespace Go.Proofs.YtcgpjceopnfahaaGreat
open Go.RowKit
theorem aggReader:Agg Tryz.prog 160 1:=⟨_,Tryz.underlying160,rfl,by kernel_rfl⟩
theorem RItemPost_none (v:Value)(b:List UInt8)(g:Nat)(w:World):RItemPost none v b g w=fun e w'=>e=.panicked mis∧w.grownBy w' (some g):=rfl
theorem RItemPost_some (p:Pit)(r:List UInt8)(v:Value)(b:List UInt8)(g:Nat)(w:World):RItemPost (some (p,r)) v b g w=fun e w'=>∃ it a' c',e=.returned (.agg (icells it).toArray)∧SubB v b (.slice a' r.length c') r∧Blk 160 w' g [.slice a' r.length c']∧w.grownBy w' (some g)∧Fp (fun x=>w.heap.size≤x) w' it∧erI it=p∧BareI it:=rfl
theorem item_list (n:Nat)(ih:∀ (b:List UInt8),b.length≤n→b.length≤1048576→∀ (a:Option Addr) (L c g:Nat) (w:World),b.length=L→Blk 160 w g [.slice a L c]→Bytes w (.slice a L c) b→Calls Tryz.prog 115 #[.pointer (some ⟨g,0,none⟩)] w (RItemPost (par n b) (.slice a L c) b g w))
  (a:Option Addr) (L c:Nat) (x:UInt8) (r:List UInt8) (hL:(x::r).length=L) (hn:L≤n+1) (hLs:L≤1048576) (h192:192≤x.toNat) (g:Nat) (w:World) (hB:Blk 160 w g [.slice a L c]) (h:Bytes w (.slice a L c) (x::r)) :
  Calls Tryz.prog 115 #[.pointer (some ⟨g,0,none⟩)] w (RItemPost (par (n+1) (x::r)) (.slice a L c) (x::r) g w):=by
 have hglt:=hB.lt
 have hLm:L≤maxLen:=by unfold maxLen;omega
 have R0:=Rd.start hB hL hLm
 have h0:∀ u,w.grownBy u (some g)→Bytes u (.slice a L c) (x::r):=fun u hu=>Bytes.off_r h hB ⟨_,_,_,rfl⟩ hu
 have hz1:=Blk.new w 77 [.bool false,.slice none 0 0,.slice none 0 0]
 have R1:=R0.alloc (.cells #[.bool false,.slice none 0 0,.slice none 0 0] 77)
 have hsz1:w.heap.size≤(w.alloc (.cells #[.bool false,.slice none 0 0,.slice none 0 0] 77)).heap.size:=by simp
 obtain ⟨w1,hw1⟩:∃ w1,w1=w.alloc (.cells #[.bool false,.slice none 0 0,.slice none 0 0] 77):=⟨_,rfl⟩
 rw [←hw1] at R1 hsz1
 change Blk _ (w.alloc (.cells #[.bool false,.slice none 0 0,.slice none 0 0] 77)) _ _ at hz1
 rw [←hw1] at hz1
 have hlt1:=hz1.lt
 have Hw1:=Lib.hid hw1
 clear hw1
 have hxlt:=x.toNat_lt
 have hp:par (n+1) (x::r)=match hdr x.toNat 192 r with
   | none=>none
   | some (k,r')=>if r'.length<k then none else match parL (par n) k (r'.take k) with
    | none=>none
    | some ks=>some (.lst ks,r'.drop k):=by
  rw [par,if_neg (by omega),if_neg (by omega)]
  all_goals (cases hdr x.toNat 192 r<;>rfl)
 rw [hp]
 have t1:Calls Tryz.prog 145 #[.pointer (some ⟨g,0,none⟩),.int .u64 1] w1 _:=take_ok a c L 1 (x::r) hL hLm (by rw [←hL];simp) g w1 R1.hB (R1.bytes h0)
 have hrl:r.length=L - 1:=by rw [←hL];simp
 have hxi:¬ (x.toNat:Int)<128:=by omega
 have hxd:decide ((x.toNat:Int)<128)=false:=by rw [decide_eq_false_iff_not];exact hxi
 have hxj:¬ (x.toNat:Int)<192:=by omega
 have hxe:decide ((x.toNat:Int)<192)=false:=by rw [decide_eq_false_iff_not];exact hxj
 simp only [List.take_succ_cons,List.take_zero,List.drop_succ_cons,List.drop_zero] at t1
 have lc:∀ (a2:Option Addr) (c2:Nat) (u:World),Blk 160 u g [.slice a2 (L - 1) c2]→Bytes u (.slice a2 (L - 1) c2) r→Calls Tryz.prog 146 #[.pointer (some ⟨g,0,none⟩),.int .u8 (x.toNat:Int),.int .u8 192] u (HdrPost (hdr x.toNat 192 r) (.slice a2 (L - 1) c2) r g u) :=
  fun a2 c2 u h1 h2=>length_any x.toNat 192 (by omega) h192 (by omega) a2 c2 (L - 1) r hrl (by omega) g u h1 h2
 have T1:=Lib.hid t1
 have Hrl:=Lib.hid hrl
 have H0:=Lib.hid h0
 have HL:=Lib.hid hL
 have Ih:=Lib.hid ih
 clear t1 hp h0 hrl hL h192 h ih hxlt
 cases hh:hdr x.toNat 192 r with
 | none =>
  simp only [hh,HdrPost_none] at lc
  have Lc:=Lib.hid lc
  clear lc hh
  dsimp only
  go_enter Tryz.func115,Tryz.ntmps115
  go_wp2_with fail
  rw [←Hw1.out]
  go_wp2_with (first
   |(go_at_call 145;(with_reducible refine T1.out.mono ?_);rintro e w2 ⟨a1,c1,a2,c2,rfl,r1,r2,B2,g2⟩;have R2:Rd w (.slice a L c) (x::r) g w2 a2 (L - 1) c2 r:=R1.next g2 B2 r2 Hrl.out (by omega);have hz2:=hz1.grown g2 (by simp;omega);obtain ⟨b,off,rfl,hc⟩:=Bytes.at (r1 w2 (H0.out w2 R2.hg)) 0 (by simp);simp only [List.getElem_cons_zero,Nat.add_zero] at hc)
   |(go_at_call 146;(with_reducible refine (Lc.out _ _ _ R2.hB (R2.bytes H0.out)).mono ?_);rintro e w3 ⟨rfl,g3⟩))
  exact ⟨rfl,rfl,grown_trans R2.hg g3⟩
 | some kr =>
  obtain ⟨k,r'⟩:=kr
  obtain ⟨j,hj,hjl⟩:=hdr_suf hh
  have hr'l:r'.length≤L - 1:=by rw [hj,List.length_drop,Hrl.out];omega
  simp only [hh,HdrPost_some] at lc
  have Lc:=Lib.hid lc
  clear lc hh hj hjl
  dsimp only
  obtain ⟨M,hM⟩:∃ M,M=r'.length:=⟨_,rfl⟩
  rw [←hM] at Lc hr'l
  have hMm:M≤maxLen:=by omega
  simp only [←hM]
  have HM:=Lib.hid hM.symm
  clear hM
  by_cases hk:M<k
  ·rw [if_pos hk]
   go_enter Tryz.func115,Tryz.ntmps115
   go_wp2_with fail
   rw [←Hw1.out]
   go_wp2_with (first
    |(go_at_call 145;(with_reducible refine T1.out.mono ?_);rintro e w2 ⟨a1,c1,a2,c2,rfl,r1,r2,B2,g2⟩;have R2:Rd w (.slice a L c) (x::r) g w2 a2 (L - 1) c2 r:=R1.next g2 B2 r2 Hrl.out (by omega);have hz2:=hz1.grown g2 (by simp;omega);obtain ⟨b,off,rfl,hc⟩:=Bytes.at (r1 w2 (H0.out w2 R2.hg)) 0 (by simp);simp only [List.getElem_cons_zero,Nat.add_zero] at hc)
    |(go_at_call 146;(with_reducible refine (Lc.out _ _ _ R2.hB (R2.bytes H0.out)).mono ?_);rintro e w3 ⟨a3,c3,rfl,s3,B3,g3⟩;have R3:=R2.next g3 B3 s3 HM.out (by omega);have hz3:=hz2.grown g3 (by simp;omega))
    |(go_at_call 145;(with_reducible refine (take_bad a3 c3 M k hMm hk g w3 R3.hB).mono ?_);rintro e w4 ⟨rfl,rfl⟩))
   exact ⟨rfl,rfl,R3.hg⟩
  ·rw [if_neg hk]
   have hkM:k≤M:=by omega
   have htl:(r'.take k).length=k:=by rw [List.length_take,HM.out];omega
   have hdl:(r'.drop k).length=M - k:=by rw [List.length_drop,HM.out]
   have tk:∀ (a3:Option Addr) (c3:Nat) (u:World),Blk 160 u g [.slice a3 M c3]→Bytes u (.slice a3 M c3) r'→Calls Tryz.prog 145 #[.pointer (some ⟨g,0,none⟩),.int .u64 (k:Int)] u _:=fun a3 c3 u h1 h2=>take_ok a3 c3 M k r' HM.out hMm hkM g u h1 h2
   obtain ⟨t,ht⟩:∃ t,t=r'.take k:=⟨_,rfl⟩
   obtain ⟨d,hd⟩:∃ d,d=r'.drop k:=⟨_,rfl⟩
   obtain ⟨PL,hPL⟩:∃ PL,PL=parL (par n) k t:=⟨_,rfl⟩
   simp only [←ht,←hd] at tk htl hdl ⊢
   rw [←hPL]
   have Tk:=Lib.hid tk
   have Hdl:=Lib.hid hdl
   have Htl:=Lib.hid htl
   have HPL:=Lib.hid hPL
   clear tk ht hd htl hdl hk hPL
   have hk8:k≤1048576:=by omega
   have hkn:k≤n:=by omega
   go_enter Tryz.func115,Tryz.ntmps115
   go_wp2_with fail
   rw [←Hw1.out]
   go_wp2_with (first
    |(go_at_call 145;(with_reducible refine T1.out.mono ?_);rintro e w2 ⟨a1,c1,a2,c2,rfl,r1,r2,B2,g2⟩;have R2:Rd w (.slice a L c) (x::r) g w2 a2 (L - 1) c2 r:=R1.next g2 B2 r2 Hrl.out (by omega);have hz2:=hz1.grown g2 (by simp;omega);obtain ⟨b,off,rfl,hc⟩:=Bytes.at (r1 w2 (H0.out w2 R2.hg)) 0 (by simp);simp only [List.getElem_cons_zero,Nat.add_zero] at hc)
    |(go_at_call 146;(with_reducible refine (Lc.out _ _ _ R2.hB (R2.bytes H0.out)).mono ?_);rintro e w3 ⟨a3,c3,rfl,s3,B3,g3⟩;have R3:=R2.next g3 B3 s3 HM.out (by omega);have hz3:=hz2.grown g3 (by simp;omega))
    |(go_at_call 145;refine (Tk.out a3 c3 w3 R3.hB (R3.bytes H0.out)).mono ?_;rintro e w4 ⟨a4,c4,a5,c5,rfl,r4,r5,B4,g4⟩;have R4:Rd w (.slice a L c) (x::r) g w4 a5 (M - k) c5 d:=R3.next g4 B4 r5 Hdl.out (by omega);have hz4:=hz3.grown g4 (by simp;omega);have hs4:SubB (.slice a L c) (x::r) (.slice a4 k c4) t:=R3.hs.trans r4;have hI4:=Blk.new w4 160 [.slice none 0 0];have hz5:=hz4.alloc (.cells #[.slice none 0 0] 160);have R5:=R4.alloc (.cells #[.slice none 0 0] 160);have hlt4:=hz4.lt)
    |((with_reducible show wpList _ _ _ (⟨none,.store _ _ (.tmp 45),_,_,_,_⟩::_) _ _);refine wpList_storeA (o:=⟨none,_,_,_,_,_⟩) (by rfl) 160 (.tmp 5) (.tmp 45) (by rfl) w4.heap.size [.slice a4 k c4] (by rfl) (by rfl) aggReader hI4 (by rfl) (by rfl) (by intro u hu;simp at hu;subst hu;rfl) (Below.refl _ _) (Nat.le_refl _) ?_;intro w6 hI6 _ hg6;have R6:=R5.fresh hg6 (fun y hy=>by cases hy;omega) hglt;have hz6:=hz5.grown hg6 (by simp;omega);have hm6:=Blk.new w6 77 [.bool false,.slice none 0 0,.slice none 0 0];have hI7:=hI6.alloc (.cells #[.bool false,.slice none 0 0,.slice none 0 0] 77);have hz7:=hz6.alloc (.cells #[.bool false,.slice none 0 0,.slice none 0 0] 77);have R7:=R6.alloc (.cells #[.bool false,.slice none 0 0,.slice none 0 0] 77);have hlt6:=hI6.lt)
    |((with_reducible show wpList _ _ _ (⟨none,.store _ _ (.tmp 46),_,_,_,_⟩::_) _ _);refine wpList_storeA (o:=⟨none,_,_,_,_,_⟩) (by rfl) 77 (.tmp 6) (.tmp 46) (by rfl) w6.heap.size [.bool true,.slice none 0 0,.slice none 0 0] (by rfl) (by rfl) aggItem hm6 (by rfl) (by rfl) (by intro u hu;simp at hu;rcases hu with rfl|rfl<;>rfl) (Below.refl _ _) (Nat.le_refl _) ?_;intro w8 hm8 _ hg8))
   have F8:LsW w (.slice a L c) (x::r) g w4.heap.size w6.heap.size a5 (M - k) c5 d a4 k c4 t (.slice none 0 0) [] w8 :=
    ⟨R7.fresh hg8 (fun y hy=>by cases hy;omega) hglt,hI7.grown hg8 (by simp;omega),hs4,Htl.out,hm8,hz7.grown hg8 (by simp;omega),OwnOf.nil icells 3 _ _ _,by simp,hlt4,hlt6,hglt⟩
   obtain ⟨gi,hgi⟩:∃ gi,gi=w4.heap.size:=⟨_,rfl⟩
   obtain ⟨g6,hg6'⟩:∃ g6,g6=w6.heap.size:=⟨_,rfl⟩
   rw [←hgi,←hg6'] at F8
   rw [←hgi,←hg6']
   clear R0 R1 hz1 R2 hz2 R3 hz3 R4 hz4 hs4 hI4 hz5 R5 hlt4 hI6 R6 hz6 hm6 hI7 hz7 R7 hlt6 hm8 B2 g2 r1 r2 hc B3 g3 s3 r4 r5 B4 g4 hg6 hg8 hgi hg6' hB
   simp only [Act.put]
   go_loopw [] (fun wr=>∃ (a6:Option Addr) (L6 c6:Nat) (rem:List UInt8) (kv:Value) (ks:List Itm) (m:Nat),LsW w (.slice a L c) (x::r) g gi g6 a5 (M - k) c5 d a6 L6 c6 rem kv ks wr∧L6≤m∧L6≤k∧ks.length+L6≤k∧PL=(parL (par n) m rem).map (fun ps=>ks.map erI++ps)) (fun wr=>lenV ((wr.cell? ⟨gi,0,none⟩).getD undef))
   case atStart=>exact ⟨a4,k,c4,t,.slice none 0 0,[],k,F8,Nat.le_refl _,Nat.le_refl _,by simp,by rw [HPL.out];cases parL (par n) k t<;>simp⟩
   case round =>
    clear F8
    obtain ⟨a6,L6,c6,rem,kv,ks,m,F,hLm6,hLk6,hks,hrel2⟩:=hrel
    have HRel:=Lib.hid hrel2
    clear hrel2
    have hi0:wr.cell? ⟨gi,0,none⟩=some (.slice a6 L6 c6):=F.hI.cell 0
    by_cases hr0:L6=0
    ·subst hr0
     obtain rfl:rem=[]:=List.eq_nil_of_length_eq_zero F.hl
     have hPL2:PL=some (ks.map erI):=by rw [HRel.out,parL_nil];simp
     subst hPL2
     obtain ⟨ka,kc,rfl,_⟩:=F.hO.form
     go_wp2_with (first
      |(refine wpList_loadA (o:=⟨some 57,_,_,_,_,_⟩) (by rfl) 77 (.tmp 6) (by rfl) g6 (by rfl) aggItem F.hm (by rfl) ?_)
      |((with_reducible show wpList _ _ _ (⟨none,.store _ _ (.tmp 57),_,_,_,_⟩::_) _ _);refine wpList_storeA (o:=⟨none,_,_,_,_,_⟩) (by rfl) 77 (.tmp 2) (.tmp 57) (by rfl) w.heap.size [.bool true,.slice none 0 0,.slice ka ks.length kc] (by rfl) (by rfl) aggItem F.hz (by rfl) (by rfl) (by intro u hu;simp at hu;rcases hu with rfl|rfl|rfl<;>rfl) (Below.refl _ _) (Nat.le_refl _) ?_;intro w9 hh9 _ hg9))
     have q1:=F.h1
     have q2:=F.h2
     have R9:=F.hR.fresh hg9 (fun y hy=>by cases hy;exact Nat.le_refl _) hglt
     have o9:=F.hO.grown hg9 (fun y hy e=>by cases hy;have:=F.hO.lt _ e;omega)
     refine bodyPost_ret (results_blk rfl _ _ w.heap.size aggItem hh9 rfl rfl) rfl ⟨.mk true (.slice none 0 0) [] (.slice ka ks.length kc) ks,a5,c5,rfl,?_,?_,R9.hg,Fp.lst o9 (fun k hk=>(F.hF k hk).1.to hg9.size (fun y hy hl=>⟨hg9.block y hl (by simp;omega),by omega⟩)) (fun y hy=>by omega),by rw [erI_mk];rfl,.lst _ _ _ (fun k hk=>(F.hF k hk).2)⟩
     ·rw [Hdl.out];exact R9.hs
     ·rw [Hdl.out];exact R9.hB
    ·have hpos:(0:Int)<(L6:Int):=by omega
     have hposd:decide ((0:Int)<(L6:Int))=true:=by rw [decide_eq_true_eq];exact hpos
     have hposn:decide (0<L6)=true:=by rw [decide_eq_true_eq];omega
     have hrne:rem≠[]:=fun e=>by have:=F.hl;rw [e] at this;simp at this;omega
     have hc:=fun (u:World) (hB:Blk 160 u gi [.slice a6 L6 c6]) (hb:Bytes u (.slice a6 L6 c6) rem)=>Ih.out rem (by have:=F.hl;omega) (by have:=F.hl;omega) a6 L6 c6 gi u F.hl hB hb
     obtain ⟨m',rfl⟩:∃ m',m=m'+1:=⟨m - 1,by omega⟩
     cases hpar:par n rem with
     | none =>
      have hPL2:PL=none:=by rw [HRel.out,parL_none hrne hpar];rfl
      subst hPL2
      simp only [hpar,RItemPost_none] at hc
      have Hc:=Lib.hid hc
      clear hc hpar hrne hr0
      obtain ⟨ka,kc,rfl,_⟩:=F.hO.form
      go_wp2_with fail
      refine wp_region_h (Any) (by kernel_rfl) ?_;intro u0 hu0;simp only [List.length_cons,List.length_nil,Nat.reduceAdd,List.replicate_succ,List.replicate_zero]
      have F0:LsW w (.slice a L c) (x::r) g gi g6 a5 (M - k) c5 d a6 L6 c6 rem (.slice ka ks.length kc) ks u0:=by rw [hu0];exact F.kept (Below.refl _ _).drew
      have hT:Any u0:=trivial
      clear hu0 hi0 F
      have hk0:=(F0.hm.cell 2).trans (show _=some (Value.slice ka ks.length kc) from rfl)
      (refine wpH_take 0 (by rfl) (by kernel_rfl) (by intro _ _ _ h;first|exact h|(cases h.1)) (by intro _ _ _ _ h;first|exact h|(cases h.1)) (by assumption) (fun K hK=>?_);simp only [List.setIfInBounds_toArray,List.set_cons_zero,List.set_cons_succ] at hK;go_simp;first|(refine hK _ ?_;clear hK K)|(apply Exists.intro;refine ⟨fun _=>rfl,hK _ ?_⟩;clear hK K))
      refine wpH_all [1,2] (by kernel_rfl) (by simp) ?_
      intro i hi
      simp only [List.mem_cons,List.not_mem_nil,or_false] at hi
      rcases hi with rfl|rfl
      ·(refine brH_of (i:=1) (by rfl) (fun K hK=>?_);simp only [List.setIfInBounds_toArray,List.set_cons_zero,List.set_cons_succ] at hK;go_simp)
       refine hK _ _ trivial ?_;clear hK K
       (refine wpH_only 2 (by rfl) (by kernel_rfl) (fun K hK=>?_);simp only [List.setIfInBounds_toArray,List.set_cons_zero,List.set_cons_succ] at hK;go_simp)
       refine (Hc.out _ F0.hI (F0.hs _ (H0.out _ F0.hR.hg))).mono ?_
       rintro e u1 ⟨rfl,gg1⟩
       have q1:=F0.h1
       exact ⟨rfl,rfl,grown_fresh F0.hR.hg gg1 (fun y hy=>by cases hy;omega)⟩
      ·(refine brH_of (i:=2) (by rfl) (fun K hK=>?_);simp only [List.setIfInBounds_toArray,List.set_cons_zero,List.set_cons_succ] at hK;go_simp)
       refine (Hc.out _ F0.hI (F0.hs _ (H0.out _ F0.hR.hg))).mono ?_
       rintro e u1 ⟨rfl,gg1⟩
       have q1:=F0.h1
       exact ⟨rfl,rfl,grown_fresh F0.hR.hg gg1 (fun y hy=>by cases hy;omega)⟩
     | some pr =>
      obtain ⟨p,r2⟩:=pr
      have hlen2:=par_len hpar
      have hPL2:PL=(parL (par n) m' r2).map (fun ps=>(ks.map erI++[p])++ps):=by
       rw [HRel.out,parL_some hrne hpar]
       cases parL (par n) m' r2<;>simp
      simp only [hpar,RItemPost_some] at hc
      obtain ⟨L7,hL7⟩:∃ L7,L7=r2.length:=⟨_,rfl⟩
      rw [←hL7] at hlen2
      simp only [←hL7] at hc
      rw [F.hl] at hlen2
      have Hc:=Lib.hid hc
      have HPL2:=Lib.hid hPL2
      have HL7:=Lib.hid hL7.symm
      clear hc hpar hrne hr0 hPL2 hL7
      obtain ⟨ka,kc,rfl,_⟩:=F.hO.form
      obtain ⟨kn,hkn⟩:∃ kn,kn=ks.length:=⟨_,rfl⟩
      rw [←hkn] at F hks
      have Hkn:=Lib.hid hkn.symm
      clear hkn
      go_wp2_with fail
      refine wp_region_via (fun aa b w'=>∃ (l2:Bool) (ta2:Option Addr) (tn2 tc2:Nat) (t2:List UInt8) (ka2:Option Addr) (kn2 kc2:Nat) (ks2:List Itm) (gb:Nat) (a7:Option Addr) (c7:Nat) (ka7:Option Addr) (kc7:Nat),b=(((((aa.put (some 51) (.pointer (some ⟨g6,2,none⟩))).put (some 52) (.slice ka kn kc)).put (some 53) (.agg #[.bool l2,.slice ta2 tn2 tc2,.slice ka2 kn2 kc2])).put (some 54) (.slice (some ⟨gb,0,none⟩) 1 1)).put (some 55) (.slice ka7 (kn+1) kc7)).put (some 56) (.pointer (some ⟨g6,2,none⟩))∧LsW w (.slice a L c) (x::r) g gi g6 a5 (M - k) c5 d a7 L7 c7 r2 (.slice ka7 (kn+1) kc7) (ks++[.mk l2 (.slice ta2 tn2 tc2) t2 (.slice ka2 kn2 kc2) ks2]) w'∧erI (.mk l2 (.slice ta2 tn2 tc2) t2 (.slice ka2 kn2 kc2) ks2)=p) ?_ ?_
      ·refine wp_region_h (Any) (by kernel_rfl) ?_;intro u0 hu0;simp only [List.length_cons,List.length_nil,Nat.reduceAdd,List.replicate_succ,List.replicate_zero]
       have F0:LsW w (.slice a L c) (x::r) g gi g6 a5 (M - k) c5 d a6 L6 c6 rem (.slice ka kn kc) ks u0:=by rw [hu0];exact F.kept (Below.refl _ _).drew
       have hT:Any u0:=trivial
       clear hu0 hi0 F
       have hk0:=(F0.hm.cell 2).trans (show _=some (Value.slice ka kn kc) from rfl)
       (refine wpH_take 0 (by rfl) (by kernel_rfl) (by intro _ _ _ h;first|exact h|(cases h.1)) (by intro _ _ _ _ h;first|exact h|(cases h.1)) (by assumption) (fun K hK=>?_);simp only [List.setIfInBounds_toArray,List.set_cons_zero,List.set_cons_succ] at hK;go_simp;first|(refine hK _ ?_;clear hK K)|(apply Exists.intro;refine ⟨fun _=>rfl,hK _ ?_⟩;clear hK K))
       refine wpH_all [1,2] (by kernel_rfl) (by simp) ?_
       intro i hi
       simp only [List.mem_cons,List.not_mem_nil,or_false] at hi
       rcases hi with rfl|rfl
       ·(refine brH_of (i:=1) (by rfl) (fun K hK=>?_);simp only [List.setIfInBounds_toArray,List.set_cons_zero,List.set_cons_succ] at hK;go_simp)
        refine hK _ _ trivial ?_;clear hK K
        (refine wpH_only 2 (by rfl) (by kernel_rfl) (fun K hK=>?_);simp only [List.setIfInBounds_toArray,List.set_cons_zero,List.set_cons_succ] at hK;go_simp)
        refine (Hc.out _ F0.hI (F0.hs _ (H0.out _ F0.hR.hg))).mono ?_
        rintro e u1 ⟨it,a7,c7,rfl,s1,B1,gg1,Fp1,he1,hb1⟩
        have F1:=F0.read gg1 B1 s1 HL7.out
        have Fp1':=F0.apart Fp1
        obtain ⟨l2,tv2,t2,kv2,ks2⟩:=it
        obtain ⟨ta2,tc2,rfl,_,_⟩:=Fp1'.is.inv.1.form
        obtain ⟨ka2,kc2,rfl,_,_⟩:=Fp1'.is.inv.2.1.form
        obtain ⟨tn2,htn2⟩:∃ tn2,tn2=t2.length:=⟨_,rfl⟩
        obtain ⟨kn2,hkn2⟩:∃ kn2,kn2=ks2.length:=⟨_,rfl⟩
        rw [←htn2,←hkn2] at Fp1' he1 hb1
        rw [←htn2,←hkn2]
        clear htn2 hkn2 Fp1
        simp only [icells]
        refine hK _ _ trivial ?_;clear hK K
        have hT1:Any u1:=trivial
        (refine wpH_only 3 (by rfl) (by kernel_rfl) (fun K hK=>?_);simp only [List.setIfInBounds_toArray,List.set_cons_zero,List.set_cons_succ] at hK;go_simp)
        have F2:=F1.kept ((Below.refl u1.heap.size u1).alloc (Nat.le_refl _) (.cells #[.bool l2,.slice ta2 tn2 tc2,.slice ka2 kn2 kc2] 77))
        have Fp2:=Fp1'.to (w':=u1.alloc (.cells #[.bool l2,.slice ta2 tn2 tc2,.slice ka2 kn2 kc2] 77)) (by simp) (fun y hy hl=>⟨(World.grownBy_alloc u1 _ none).block y hl (by simp),hy⟩)
        have hr2:=Row.built icells_len u1 77 [.mk l2 (.slice ta2 tn2 tc2) t2 (.slice ka2 kn2 kc2) ks2] 1 rfl (by unfold maxLen;omega)
        change RowOf icells 3 (u1.alloc (.cells #[.bool l2,.slice ta2 tn2 tc2,.slice ka2 kn2 kc2] 77)) (.slice (some ⟨u1.heap.size,0,none⟩) 1 1) _ at hr2
        obtain ⟨u2,hu2⟩:∃ u2,u2=u1.alloc (.cells #[.bool l2,.slice ta2 tn2 tc2,.slice ka2 kn2 kc2] 77):=⟨_,rfl⟩
        rw [←hu2] at F2 Fp2 hr2
        first|rw [←hu2]|skip
        refine hK _ _ trivial ?_;clear hK K
        have hT2:Any u2:=trivial
        clear hu2
        refine wpH_only 4 (by rfl) (by kernel_rfl) (fun K hK=>?_)
        refine step_appP (by rfl) (.tmp 52) (.tmp 54) 75 (by rfl) elItem (by intro u hu;simp [icells] at hu;rcases hu with rfl|rfl|rfl<;>rfl) (by rfl) F2.hO (by rfl) hr2 F2.hm.lt (by rw [Hkn.out];simp;omega) (by rw [Hkn.out];unfold maxLen;simp;omega) (fun v7 u3 hO3 gg3 pp3=>?_)
        obtain ⟨ka7,kc7,rfl,_⟩:=hO3.form' (kn+1) (by rw [List.length_append,Hkn.out];rfl)
        have F4:=F2.grew Fp2 hb1 gg3 hO3 pp3
        have hne4:(Value.slice ka kn kc).ownBlock≠some g6:=fun e=>by have:=F2.hO.lt g6 e;omega
        obtain ⟨y5,hy5⟩:=(F2.hm.grown gg3 hne4).has 2 (by simp)
        have hf5:=(F2.hm.grown gg3 hne4).free 2
        refine hK _ _ trivial ?_;clear hK K
        have hT3:Any u3:=trivial
        (refine wpH_take 5 (by rfl) (by kernel_rfl) (by intro _ _ _ h;first|exact h|(cases h.1)) (by intro _ _ _ _ h;first|exact h|(cases h.1)) (by assumption) (fun K hK=>?_);simp only [List.setIfInBounds_toArray,List.set_cons_zero,List.set_cons_succ] at hK;go_simp;first|(refine hK _ ?_;clear hK K)|(apply Exists.intro;refine ⟨fun _=>rfl,hK _ ?_⟩;clear hK K))
        (refine wpH_only 6 (by rfl) (by kernel_rfl) (fun K hK=>?_);simp only [List.setIfInBounds_toArray,List.set_cons_zero,List.set_cons_succ] at hK;go_simp)
        refine hK _ _ trivial ?_;clear hK K
        exact wpH_done (by kernel_rfl) ⟨rfl,l2,ta2,tn2,tc2,t2,ka2,kn2,kc2,ks2,u1.heap.size,a7,c7,ka7,kc7,rfl,F4,he1⟩
       ·(refine brH_of (i:=2) (by rfl) (fun K hK=>?_);simp only [List.setIfInBounds_toArray,List.set_cons_zero,List.set_cons_succ] at hK;go_simp)
        refine (Hc.out _ F0.hI (F0.hs _ (H0.out _ F0.hR.hg))).mono ?_
        rintro e u1 ⟨it,a7,c7,rfl,s1,B1,gg1,Fp1,he1,hb1⟩
        have F1:=F0.read gg1 B1 s1 HL7.out
        have Fp1':=F0.apart Fp1
        obtain ⟨l2,tv2,t2,kv2,ks2⟩:=it
        obtain ⟨ta2,tc2,rfl,_,_⟩:=Fp1'.is.inv.1.form
        obtain ⟨ka2,kc2,rfl,_,_⟩:=Fp1'.is.inv.2.1.form
        obtain ⟨tn2,htn2⟩:∃ tn2,tn2=t2.length:=⟨_,rfl⟩
        obtain ⟨kn2,hkn2⟩:∃ kn2,kn2=ks2.length:=⟨_,rfl⟩
        rw [←htn2,←hkn2] at Fp1' he1 hb1
        rw [←htn2,←hkn2]
        clear htn2 hkn2 Fp1
        simp only [icells]
        refine hK _ _ trivial ?_;clear hK K
        have hT1:Any u1:=trivial
        refine wpH_all [1,3] (by kernel_rfl) (by simp) ?_
        intro i hi
        simp only [List.mem_cons,List.not_mem_nil,or_false] at hi
        rcases hi with rfl|rfl
        ·have hk1:=(F1.hm.cell 2).trans (show _=some (Value.slice ka kn kc) from rfl)
         (refine brH_of (i:=1) (by rfl) (fun K hK=>?_);simp only [List.setIfInBounds_toArray,List.set_cons_zero,List.set_cons_succ] at hK;go_simp)
         refine hK _ _ trivial ?_;clear hK K
         (refine wpH_only 3 (by rfl) (by kernel_rfl) (fun K hK=>?_);simp only [List.setIfInBounds_toArray,List.set_cons_zero,List.set_cons_succ] at hK;go_simp)
         have F2:=F1.kept ((Below.refl u1.heap.size u1).alloc (Nat.le_refl _) (.cells #[.bool l2,.slice ta2 tn2 tc2,.slice ka2 kn2 kc2] 77))
         have Fp2:=Fp1'.to (w':=u1.alloc (.cells #[.bool l2,.slice ta2 tn2 tc2,.slice ka2 kn2 kc2] 77)) (by simp) (fun y hy hl=>⟨(World.grownBy_alloc u1 _ none).block y hl (by simp),hy⟩)
         have hr2:=Row.built icells_len u1 77 [.mk l2 (.slice ta2 tn2 tc2) t2 (.slice ka2 kn2 kc2) ks2] 1 rfl (by unfold maxLen;omega)
         change RowOf icells 3 (u1.alloc (.cells #[.bool l2,.slice ta2 tn2 tc2,.slice ka2 kn2 kc2] 77)) (.slice (some ⟨u1.heap.size,0,none⟩) 1 1) _ at hr2
         obtain ⟨u2,hu2⟩:∃ u2,u2=u1.alloc (.cells #[.bool l2,.slice ta2 tn2 tc2,.slice ka2 kn2 kc2] 77):=⟨_,rfl⟩
         rw [←hu2] at F2 Fp2 hr2
         first|rw [←hu2]|skip
         refine hK _ _ trivial ?_;clear hK K
         have hT2:Any u2:=trivial
         clear hu2
         refine wpH_only 4 (by rfl) (by kernel_rfl) (fun K hK=>?_)
         refine step_appP (by rfl) (.tmp 52) (.tmp 54) 75 (by rfl) elItem (by intro u hu;simp [icells] at hu;rcases hu with rfl|rfl|rfl<;>rfl) (by rfl) F2.hO (by rfl) hr2 F2.hm.lt (by rw [Hkn.out];simp;omega) (by rw [Hkn.out];unfold maxLen;simp;omega) (fun v7 u3 hO3 gg3 pp3=>?_)
         obtain ⟨ka7,kc7,rfl,_⟩:=hO3.form' (kn+1) (by rw [List.length_append,Hkn.out];rfl)
         have F4:=F2.grew Fp2 hb1 gg3 hO3 pp3
         have hne4:(Value.slice ka kn kc).ownBlock≠some g6:=fun e=>by have:=F2.hO.lt g6 e;omega
         obtain ⟨y5,hy5⟩:=(F2.hm.grown gg3 hne4).has 2 (by simp)
         have hf5:=(F2.hm.grown gg3 hne4).free 2
         refine hK _ _ trivial ?_;clear hK K
         have hT3:Any u3:=trivial
         (refine wpH_take 5 (by rfl) (by kernel_rfl) (by intro _ _ _ h;first|exact h|(cases h.1)) (by intro _ _ _ _ h;first|exact h|(cases h.1)) (by assumption) (fun K hK=>?_);simp only [List.setIfInBounds_toArray,List.set_cons_zero,List.set_cons_succ] at hK;go_simp;first|(refine hK _ ?_;clear hK K)|(apply Exists.intro;refine ⟨fun _=>rfl,hK _ ?_⟩;clear hK K))
         (refine wpH_only 6 (by rfl) (by kernel_rfl) (fun K hK=>?_);simp only [List.setIfInBounds_toArray,List.set_cons_zero,List.set_cons_succ] at hK;go_simp)
         refine hK _ _ trivial ?_;clear hK K
         exact wpH_done (by kernel_rfl) ⟨rfl,l2,ta2,tn2,tc2,t2,ka2,kn2,kc2,ks2,u1.heap.size,a7,c7,ka7,kc7,rfl,F4,he1⟩
        ·(refine brH_of (i:=3) (by rfl) (fun K hK=>?_);simp only [List.setIfInBounds_toArray,List.set_cons_zero,List.set_cons_succ] at hK;go_simp)
         have F2:=F1.kept ((Below.refl u1.heap.size u1).alloc (Nat.le_refl _) (.cells #[.bool l2,.slice ta2 tn2 tc2,.slice ka2 kn2 kc2] 77))
         have Fp2:=Fp1'.to (w':=u1.alloc (.cells #[.bool l2,.slice ta2 tn2 tc2,.slice ka2 kn2 kc2] 77)) (by simp) (fun y hy hl=>⟨(World.grownBy_alloc u1 _ none).block y hl (by simp),hy⟩)
         have hr2:=Row.built icells_len u1 77 [.mk l2 (.slice ta2 tn2 tc2) t2 (.slice ka2 kn2 kc2) ks2] 1 rfl (by unfold maxLen;omega)
         change RowOf icells 3 (u1.alloc (.cells #[.bool l2,.slice ta2 tn2 tc2,.slice ka2 kn2 kc2] 77)) (.slice (some ⟨u1.heap.size,0,none⟩) 1 1) _ at hr2
         obtain ⟨u2,hu2⟩:∃ u2,u2=u1.alloc (.cells #[.bool l2,.slice ta2 tn2 tc2,.slice ka2 kn2 kc2] 77):=⟨_,rfl⟩
         rw [←hu2] at F2 Fp2 hr2
         first|rw [←hu2]|skip
         refine hK _ _ trivial ?_;clear hK K
         have hT2:Any u2:=trivial
         clear hu2
         have hk2:=(F2.hm.cell 2).trans (show _=some (Value.slice ka kn kc) from rfl)
         (refine wpH_only 1 (by rfl) (by kernel_rfl) (fun K hK=>?_);simp only [List.setIfInBounds_toArray,List.set_cons_zero,List.set_cons_succ] at hK;go_simp)
         refine hK _ _ trivial ?_;clear hK K
         refine wpH_only 4 (by rfl) (by kernel_rfl) (fun K hK=>?_)
         refine step_appP (by rfl) (.tmp 52) (.tmp 54) 75 (by rfl) elItem (by intro u hu;simp [icells] at hu;rcases hu with rfl|rfl|rfl<;>rfl) (by rfl) F2.hO (by rfl) hr2 F2.hm.lt (by rw [Hkn.out];simp;omega) (by rw [Hkn.out];unfold maxLen;simp;omega) (fun v7 u3 hO3 gg3 pp3=>?_)
         obtain ⟨ka7,kc7,rfl,_⟩:=hO3.form' (kn+1) (by rw [List.length_append,Hkn.out];rfl)
         have F4:=F2.grew Fp2 hb1 gg3 hO3 pp3
         have hne4:(Value.slice ka kn kc).ownBlock≠some g6:=fun e=>by have:=F2.hO.lt g6 e;omega
         obtain ⟨y5,hy5⟩:=(F2.hm.grown gg3 hne4).has 2 (by simp)
         have hf5:=(F2.hm.grown gg3 hne4).free 2
         refine hK _ _ trivial ?_;clear hK K
         have hT3:Any u3:=trivial
         (refine wpH_take 5 (by rfl) (by kernel_rfl) (by intro _ _ _ h;first|exact h|(cases h.1)) (by intro _ _ _ _ h;first|exact h|(cases h.1)) (by assumption) (fun K hK=>?_);simp only [List.setIfInBounds_toArray,List.set_cons_zero,List.set_cons_succ] at hK;go_simp;first|(refine hK _ ?_;clear hK K)|(apply Exists.intro;refine ⟨fun _=>rfl,hK _ ?_⟩;clear hK K))
         (refine wpH_only 6 (by rfl) (by kernel_rfl) (fun K hK=>?_);simp only [List.setIfInBounds_toArray,List.set_cons_zero,List.set_cons_succ] at hK;go_simp)
         refine hK _ _ trivial ?_;clear hK K
         exact wpH_done (by kernel_rfl) ⟨rfl,l2,ta2,tn2,tc2,t2,ka2,kn2,kc2,ks2,u1.heap.size,a7,c7,ka7,kc7,rfl,F4,he1⟩
      rintro b w' ⟨l2,ta2,tn2,tc2,t2,ka2,kn2,kc2,ks2,gb,a7,c7,ka7,kc7,rfl,F7,he7⟩
      simp only [Act.put,List.setIfInBounds_toArray,List.set_cons_zero,List.set_cons_succ]
      have hi7:w'.cell? ⟨gi,0,none⟩=some (.slice a7 L7 c7):=F7.hI.cell 0
      have hrel3:∃ (a6:Option Addr) (L6 c6:Nat) (rem:List UInt8) (kv:Value) (ks:List Itm) (m:Nat),LsW w (.slice a L c) (x::r) g gi g6 a5 (M - k) c5 d a6 L6 c6 rem kv ks w'∧L6≤m∧L6≤k∧ks.length+L6≤k∧PL=(parL (par n) m rem).map (fun ps=>ks.map erI++ps):=⟨a7,L7,c7,r2,_,_,m',F7,by omega,by omega,by rw [List.length_append,Hkn.out];simp;omega,by rw [HPL2.out,List.map_append,List.map_singleton,he7]⟩
      go_roundw
      case rel=>first|exact hrel3|((repeat apply Exists.intro);exact ⟨hrel3,rfl⟩)
      case measure=>rw [hi7,hi0];simp only [Option.getD_some,lenV];omega
theorem ritem_any:∀ (n:Nat)(b:List UInt8),b.length≤n→b.length≤1048576→∀ (a:Option Addr) (L c g:Nat) (w:World),b.length=L→Blk 160 w g [.slice a L c]→Bytes w (.slice a L c) b→Calls Tryz.prog 115 #[.pointer (some ⟨g,0,none⟩)] w (RItemPost (par n b) (.slice a L c) b g w)
 | 0,[],_,_,a,L,c,g,w,hL,hB,h=>by
  have:=item_low 0 a L c [] hL (by unfold maxLen;simp at hL;omega) (by simp) g w hB h
  simpa [par] using this
 | n+1,[],_,_,a,L,c,g,w,hL,hB,h=>item_low n a L c [] hL (by unfold maxLen;simp at hL;omega) (by simp) g w hB h
 | 0,x::r,h0,_,_,_,_,_,_,_,_,_=>by simp at h0
 | n+1,x::r,h0,h1,a,L,c,g,w,hL,hB,h=>by
  by_cases h128:x.toNat<128
  ·exact item_low n a L c (x::r) hL (by unfold maxLen;omega) (fun y s e=>by cases e;exact h128) g w hB h
  ·by_cases h192:x.toNat<192
   ·exact item_text n a L c x r hL (by omega) (by omega) h192 g w hB h
   ·exact item_list n (ritem_any n) a L c x r hL (by omega) (by omega) (by omega) g w hB h
theorem run_ta (w:World):(Instr.typeAssert (.iface 157 (.agg #[])) 20 157 true).run Tryz.prog w=.ok (.tuple #[.agg #[],.bool true]) w:=by
 unfold Instr.typeAssert
 simp only [Sem.run_bind,run_underlying Tryz.underlying157,Result.andThen_ok]
 rfl
theorem catch_mis (g2 g3 g4:Nat)(x:List Value)(y z:Value)(w:World)(h2:Blk 77 w g2 x)(hx:x.length=3)(h3:Blk 3 w g3 [y])(h4:Blk 33 w g4 [z])(h23:g2≠g3)(h24:g2≠g4)(h34:g3≠g4)
  (B:Nat) (w0:World) (hbel:Below B w0 w) (b2:B≤g2) (b3:B≤g3) (b4:B≤g4) :
  CallsD Tryz.prog 114 #[.pointer (some ⟨g2,0,none⟩),.pointer (some ⟨g3,0,none⟩),.pointer (some ⟨g4,0,none⟩)] (.panicking mis) w fun e u' w' =>
   e=.returned (.tuple #[])∧u'=.panicking [{ v:=.iface 157 (.agg #[]),recovered:=true }]∧Blk 77 w' g2 [.bool false,.slice none 0 0,.slice none 0 0]∧Blk 3 w' g3 [.int .i64 0]∧Blk 33 w' g4 [.int .i64 1]∧Below B w0 w':=by
 refine callsD_of_wpS Tryz.func114 rfl fun c₀ cs hu=>?_
 simp only [Tryz.ntmps114,List.size_toArray,List.length_cons,List.length_nil,Nat.reduceAdd,Nat.reduceSub,Array.replicate_succ,Array.replicate_zero,List.push_toArray,List.append_toArray,List.nil_append,List.cons_append]
 apply wpS_seq
 apply wpS_region
 unfold mis at hu
 simp [wpOpsS,go_sem,recoverD,hu,Exit.thenS]
 refine wpS_of_wp ?_
 have h2':=h2.alloc (.cells #[] 157)
 have h3':=h3.alloc (.cells #[] 157)
 have h4':=h4.alloc (.cells #[] 157)
 have hbel':=hbel.alloc (by have:=hbel.size;have:=h2.lt;omega) (.cells #[] 157)
 have hta:=run_ta
 go_wp2_with ((with_reducible show wpList _ _ _ (⟨none,.store _ _ (.tmp 17),_,_,_,_⟩::_) _ _);refine wpList_storeA (o:=⟨none,_,_,_,_,_⟩) (by rfl) 77 (.tmp 0) (.tmp 17) (by rfl) g2 [.bool false,.slice none 0 0,.slice none 0 0] (by rfl) (by rfl) aggItem h2' (by rfl) hx (by intro u hu;simp at hu;rcases hu with rfl|rfl<;>rfl) hbel' b2 ?_;intro w5 hh5 hbel5 hg5;have h35:=h3'.grown hg5 (by simpa using h23);have h45:=h4'.grown hg5 (by simpa using h24);have hc3:w5.cell? ⟨g3,0,none⟩=some y:=h35.cell 0;have hf3:=h35.free 0;have h46:=h45.other ⟨g3,0,none⟩ (by simpa using h34) (.int .i64 0);have hc4:(w5.setCell ⟨g3,0,none⟩ (.int .i64 0)).cell? ⟨g4,0,none⟩=some z:=h46.cell 0;have hf4:=h46.free 0)
 refine ⟨rfl,_,rfl,_,results_none rfl _ _ _,rfl,rfl,?_,?_,?_,?_⟩
 ·exact (hh5.other ⟨g3,0,none⟩ (by simpa using Ne.symm h23) _).other ⟨g4,0,none⟩ (by simpa using Ne.symm h24) _
 ·exact (h35.set 0 (.int .i64 0)).other ⟨g4,0,none⟩ (by simpa using Ne.symm h34) _
 ·exact h46.set 0 (.int .i64 1)
 ·exact (hbel5.setCell b3 _).setCell b4 _
theorem catch_idle (g2 g3 g4:Nat)(w:World) :
  CallsD Tryz.prog 114 #[.pointer (some ⟨g2,0,none⟩),.pointer (some ⟨g3,0,none⟩),.pointer (some ⟨g4,0,none⟩)] .returning w fun e u' w'=>e=.returned (.tuple #[])∧u'=.returning∧w=w':=by
 refine callsD_of_wpS Tryz.func114 rfl fun c₀ cs hu=>?_
 simp only [Tryz.ntmps114,List.size_toArray,List.length_cons,List.length_nil,Nat.reduceAdd,Nat.reduceSub,Array.replicate_succ,Array.replicate_zero,List.push_toArray,List.append_toArray,List.nil_append,List.cons_append]
 apply wpS_seq
 apply wpS_region
 simp [wpOpsS,go_sem,recoverD,hu,Exit.thenS]
 refine wpS_of_wp ?_
 go_wp2_with fail
 exact ⟨rfl,_,rfl,_,results_none rfl _ _ _,rfl,hu,rfl⟩
def SplitPost (o:Option (Pit × List UInt8))(L:Nat)(w:World)(e:Ending)(w':World):Prop :=
 match o with
 | none=>e=.returned (.tuple #[.agg #[.bool false,.slice none 0 0,.slice none 0 0],.int .i64 0,.int .i64 1])∧Below w.heap.size w w'
 | some (p,r)=>∃ it,e=.returned (.tuple #[.agg (icells it).toArray,.int .i64 ((L - r.length:Nat):Int),.int .i64 0])∧Below w.heap.size w w'∧Fp (fun x=>w.heap.size≤x) w' it∧erI it=p∧BareI it
theorem SplitPost_none (L:Nat)(w:World):SplitPost none L w=fun e w'=>e=.returned (.tuple #[.agg #[.bool false,.slice none 0 0,.slice none 0 0],.int .i64 0,.int .i64 1])∧Below w.heap.size w w':=rfl
theorem SplitPost_some (p:Pit)(r:List UInt8)(L:Nat)(w:World):SplitPost (some (p,r)) L w=fun e w'=>∃ it,e=.returned (.tuple #[.agg (icells it).toArray,.int .i64 ((L - r.length:Nat):Int),.int .i64 0])∧Below w.heap.size w w'∧Fp (fun x=>w.heap.size≤x) w' it∧erI it=p∧BareI it:=rfl
theorem split_any (n:Nat)(a:Option Addr)(L c:Nat)(b:List UInt8)(hL:b.length=L)(hn:L≤n)(hLs:L≤1048576)(w:World)(h:Bytes w (.slice a L c) b) :
  Calls Tryz.prog 84 #[.slice a L c] w (SplitPost (par n b) L w):=by
 have hmf:∀ (fn:Fn) (first cap:Array Value) (w:World),(Instr.makeFunc fn first cap).run Tryz.prog w=.ok (.func fn first cap) w:=fun _ _ _ _=>rfl
 have hc:=fun (g:Nat) (u:World) (hB:Blk 160 u g [.slice a L c]) (hb:Bytes u (.slice a L c) b)=>ritem_any n b (by omega) (by omega) a L c g u hL hB hb
 have HL:=Lib.hid hL
 clear hL
 obtain ⟨w1,hw1⟩:∃ w1,w1=((w.alloc (.cells #[.bool false,.slice none 0 0,.slice none 0 0] 77)).alloc (.cells #[.int .i64 0] 3)).alloc (.cells #[.int .i64 0] 33):=⟨_,rfl⟩
 have h2:Blk 77 w1 w.heap.size [.bool false,.slice none 0 0,.slice none 0 0]:=by rw [hw1];exact ((Blk.new w 77 [.bool false,.slice none 0 0,.slice none 0 0]).alloc _).alloc _
 have h3:Blk 3 w1 (w.heap.size+1) [.int .i64 0]:=by
  have:=(Blk.new (w.alloc (.cells #[.bool false,.slice none 0 0,.slice none 0 0] 77)) 3 [.int .i64 0]).alloc (.cells #[.int .i64 0] 33)
  rw [hw1];simpa using this
 have h4:Blk 33 w1 (w.heap.size+1+1) [.int .i64 0]:=by
  have:=Blk.new ((w.alloc (.cells #[.bool false,.slice none 0 0,.slice none 0 0] 77)).alloc (.cells #[.int .i64 0] 3)) 33 [.int .i64 0]
  rw [hw1];simpa using this
 have hbel1:Below w.heap.size w w1:=by rw [hw1];exact (((Below.refl _ _).alloc (Nat.le_refl _) _).alloc (by simp) _).alloc (by simp<;>omega) _
 have Hw1:=Lib.hid hw1
 have b1:=h.below hbel1
 have hs1:=hbel1.size
 have hsz1:w1.heap.size=w.heap.size+1+1+1:=by rw [hw1];simp
 have hI1:Blk 160 (w1.alloc (.cells #[.slice a L c] 160)) (w.heap.size+1+1+1) [.slice a L c]:=by rw [←hsz1];exact Blk.new w1 160 [.slice a L c]
 have h2':=h2.alloc (.cells #[.slice a L c] 160)
 have h3':=h3.alloc (.cells #[.slice a L c] 160)
 have h4':=h4.alloc (.cells #[.slice a L c] 160)
 have hbel2:=hbel1.alloc hs1 (.cells #[.slice a L c] 160)
 have q4:=h4.lt
 obtain ⟨w2,hw2⟩:∃ w2,w2=w1.alloc (.cells #[.slice a L c] 160):=⟨_,rfl⟩
 rw [←hw2] at hI1 h2' h3' h4' hbel2
 have Hw2:=Lib.hid hw2
 clear hw1 hsz1 hw2 h2 h3 h4 hbel1 b1
 cases hp:par n b with
 | none =>
  simp only [hp,RItemPost_none] at hc
  have Hc:=Lib.hid hc
  clear hc hp
  go_enter_defers Tryz.func84,Tryz.ntmps84
  go_wp2_with fail
  rw [←Hw1.out,←Hw2.out]
  go_wp2_with (go_at_call 115;(with_reducible refine (Hc.out _ w2 hI1 (h.below hbel2)).mono ?_);rintro e w4 ⟨rfl,g4⟩;have h24:=h2'.grown g4 (by simp<;>omega);have h34:=h3'.grown g4 (by simp<;>omega);have h44:=h4'.grown g4 (by simp<;>omega);have hbel4:=hbel2.grown g4 hbel2.size (fun y hy=>by cases hy;omega))
  refine leaves_cons (f:=114) (args:=#[.pointer (some ⟨w.heap.size,0,none⟩),.pointer (some ⟨w.heap.size+1,0,none⟩),.pointer (some ⟨w.heap.size+1+1,0,none⟩)]) (by simp) (by simp [go_sem]) ?_
  refine (catch_mis w.heap.size (w.heap.size+1) (w.heap.size+1+1) _ _ _ w4 h24 rfl h34 h44 (by omega) (by omega) (by omega) w.heap.size w hbel4 (by omega) (by omega) (by omega)).mono ?_
  rintro e u' w5 ⟨rfl,rfl,h25,h35,h45,hbel5⟩
  have k0:=h25.cell 0
  have k1:=h25.cell 1
  have k2:=h25.cell 2
  have k3:=h35.cell 0
  have k4:=h45.cell 0
  simp only [List.getElem?_cons_zero,List.getElem?_cons_succ] at k0 k1 k2 k3 k4
  simp [Leaves,settle,results,Tryz.results84,go_sem,k0,k1,k2,k3,k4]
  exact ⟨rfl,hbel5⟩
 | some pr =>
  obtain ⟨p,r⟩:=pr
  have hrl:=par_len hp
  simp only [hp,RItemPost_some] at hc
  obtain ⟨L5,hL5⟩:∃ L5,L5=r.length:=⟨_,rfl⟩
  rw [←hL5,HL.out] at hrl
  simp only [←hL5] at hc
  have Hc:=Lib.hid hc
  have hsub:IntKind.i64.wrap ((L:Int) - (L5:Int))=((L - L5:Nat):Int):=by rw [show (L:Int) - (L5:Int)=((L - L5:Nat):Int) from by omega];exact IntWalk.i64_in _ (by omega)
  obtain ⟨D,hD⟩:∃ D,D=L - L5:=⟨_,rfl⟩
  rw [←hD] at hsub
  rw [SplitPost_some,←hL5,←hD]
  clear hc hp hL5 hD
  go_enter_defers Tryz.func84,Tryz.ntmps84
  go_wp2_with fail
  rw [←Hw1.out,←Hw2.out]
  go_wp2_with (first
   |(go_at_call 115;(with_reducible refine (Hc.out _ w2 hI1 (h.below hbel2)).mono ?_);rintro e w4 ⟨it,a5,c5,rfl,s5,B5,g4,F5,he5,hb5⟩;have h24:=h2'.grown g4 (by simp<;>omega);have h34:=h3'.grown g4 (by simp<;>omega);have h44:=h4'.grown g4 (by simp<;>omega);have hbel4:=hbel2.grown g4 hbel2.size (fun y hy=>by cases hy;omega);obtain ⟨l,tv,t,kv,ks⟩:=it;obtain ⟨ta,tc,rfl,_,_⟩:=F5.is.inv.1.form;obtain ⟨ka,kc,rfl,_,_⟩:=F5.is.inv.2.1.form;obtain ⟨tn,htn⟩:∃ tn,tn=t.length:=⟨_,rfl⟩;obtain ⟨kn,hkn⟩:∃ kn,kn=ks.length:=⟨_,rfl⟩;rw [←htn,←hkn] at F5 he5 hb5;rw [←htn,←hkn];clear htn hkn;simp only [icells];have q2:=h2'.lt;have q5:=hI1.lt)
   |((with_reducible show wpList _ _ _ (⟨none,.store _ _ (.tmp 9),_,_,_,_⟩::_) _ _);refine wpList_storeA (o:=⟨none,_,_,_,_,_⟩) (by rfl) 77 (.tmp 2) (.tmp 9) (by rfl) w.heap.size [.bool l,.slice ta tn tc,.slice ka kn kc] (by rfl) (by rfl) aggItem h24 (by rfl) (by rfl) (by intro u hu;simp at hu;rcases hu with rfl|rfl|rfl<;>rfl) hbel4 (Nat.le_refl _) ?_;intro w5 h25 hbel5 g5))
  have h35:=h34.grown g5 (by simp<;>omega)
  have h45:=h44.grown g5 (by simp<;>omega)
  have B6:=B5.grown g5 (by simp<;>omega)
  have F6:Fp (fun x=>w2.heap.size≤x) w5 (.mk l (.slice ta tn tc) t (.slice ka kn kc) ks):=F5.to g5.size (fun x hx hl=>⟨g5.block x hl (by simp<;>omega),hx⟩)
  clear h2' h3' h4' hI1 hbel2 h24 h34 h44 B5 F5 g5 g4 hbel4 s5
  refine wp_region_via (fun aa b w'=>b=(((((((aa.put (some 10) (.agg #[.bool l,.slice ta tn tc,.slice ka kn kc])).put (some 11) (.slice a L c)).put (some 12) (.int .i64 (L:Int))).put (some 13) (.pointer (some ⟨w.heap.size+1+1+1,0,none⟩))).put (some 14) (.slice a5 L5 c5)).put (some 15) (.int .i64 (L5:Int))).put (some 16) (.int .i64 (D:Int))) ∧
   Blk 77 w' w.heap.size [.bool l,.slice ta tn tc,.slice ka kn kc]∧Blk 3 w' (w.heap.size+1) [.int .i64 (D:Int)]∧Blk 33 w' (w.heap.size+1+1) [.int .i64 0]∧Below w.heap.size w w'∧Fp (fun x=>w.heap.size≤x) w' (.mk l (.slice ta tn tc) t (.slice ka kn kc) ks)) ?_ ?_
  ·refine wp_region_h ((fun u=>Blk 77 u w.heap.size [.bool l,.slice ta tn tc,.slice ka kn kc]∧Blk 160 u (w.heap.size+1+1+1) [.slice a5 L5 c5])) (by kernel_rfl) ?_;intro u0 hu0;simp only [List.length_cons,List.length_nil,Nat.reduceAdd,List.replicate_succ,List.replicate_zero]
   have h26:Blk 77 u0 w.heap.size [.bool l,.slice ta tn tc,.slice ka kn kc]:=by rw [hu0];exact h25.drew
   have h36:Blk 3 u0 (w.heap.size+1) [.int .i64 0]:=by rw [hu0];exact h35.drew
   have h46:Blk 33 u0 (w.heap.size+1+1) [.int .i64 0]:=by rw [hu0];exact h45.drew
   have B7:Blk 160 u0 (w.heap.size+1+1+1) [.slice a5 L5 c5]:=by rw [hu0];exact B6.drew
   have F7:Fp (fun x=>w2.heap.size≤x) u0 (.mk l (.slice ta tn tc) t (.slice ka kn kc) ks):=by rw [hu0];exact F6.to (Nat.le_refl _) (fun x hx hl=>⟨rfl,hx⟩)
   have hbel6:Below w.heap.size w u0:=by rw [hu0];exact hbel5.drew
   have hS:(fun u=>Blk 77 u w.heap.size [.bool l,.slice ta tn tc,.slice ka kn kc]∧Blk 160 u (w.heap.size+1+1+1) [.slice a5 L5 c5]) u0:=⟨h26,B7⟩
   have k3:∀ u:In (fun u=>Blk 77 u w.heap.size [.bool l,.slice ta tn tc,.slice ka kn kc]∧Blk 160 u (w.heap.size+1+1+1) [.slice a5 L5 c5]),u.val.cell? ⟨w.heap.size+1+1+1,0,none⟩=some (.slice a5 L5 c5):=fun u=>(u.held.2.cell 0).trans rfl
   clear hu0 h25 h35 h45 F6 hbel5 B6
   (refine wpH_take 0 (by rfl) (by kernel_rfl) (by intro _ _ _ h;first|exact h|(cases h.1)) (by intro _ _ _ _ h;first|exact h|(cases h.1)) (by assumption) (fun K hK=>?_);simp only [List.setIfInBounds_toArray,List.set_cons_zero,List.set_cons_succ] at hK;refine take_loadA (by rfl) 77 (.tmp 2) (by rfl) (w.heap.size) (by rfl) aggItem (fun u hu=>hu.1) (by rfl) (hK _ ?_);clear hK K;simp only [Act.put,List.getElem_toArray,List.getElem_cons_zero,List.getElem_cons_succ,List.setIfInBounds_toArray,List.set_cons_zero,List.set_cons_succ])
   (refine wpH_take 1 (by rfl) (by kernel_rfl) (by intro _ _ _ h;first|exact h|(cases h.1)) (by intro _ _ _ _ h;first|exact h|(cases h.1)) (by assumption) (fun K hK=>?_);simp only [List.setIfInBounds_toArray,List.set_cons_zero,List.set_cons_succ] at hK;go_simp;first|(refine hK _ ?_;clear hK K)|(apply Exists.intro;refine ⟨fun _=>rfl,hK _ ?_⟩;clear hK K));(refine wpH_take 2 (by rfl) (by kernel_rfl) (by intro _ _ _ h;first|exact h|(cases h.1)) (by intro _ _ _ _ h;first|exact h|(cases h.1)) (by assumption) (fun K hK=>?_);simp only [List.setIfInBounds_toArray,List.set_cons_zero,List.set_cons_succ] at hK;go_simp;first|(refine hK _ ?_;clear hK K)|(apply Exists.intro;refine ⟨fun _=>rfl,hK _ ?_⟩;clear hK K));(refine wpH_take 3 (by rfl) (by kernel_rfl) (by intro _ _ _ h;first|exact h|(cases h.1)) (by intro _ _ _ _ h;first|exact h|(cases h.1)) (by assumption) (fun K hK=>?_);simp only [List.setIfInBounds_toArray,List.set_cons_zero,List.set_cons_succ] at hK;go_simp;first|(refine hK _ ?_;clear hK K)|(apply Exists.intro;refine ⟨fun _=>rfl,hK _ ?_⟩;clear hK K));(refine wpH_take 4 (by rfl) (by kernel_rfl) (by intro _ _ _ h;first|exact h|(cases h.1)) (by intro _ _ _ _ h;first|exact h|(cases h.1)) (by assumption) (fun K hK=>?_);simp only [List.setIfInBounds_toArray,List.set_cons_zero,List.set_cons_succ] at hK;go_simp;first|(refine hK _ ?_;clear hK K)|(apply Exists.intro;refine ⟨fun _=>rfl,hK _ ?_⟩;clear hK K));(refine wpH_take 5 (by rfl) (by kernel_rfl) (by intro _ _ _ h;first|exact h|(cases h.1)) (by intro _ _ _ _ h;first|exact h|(cases h.1)) (by assumption) (fun K hK=>?_);simp only [List.setIfInBounds_toArray,List.set_cons_zero,List.set_cons_succ] at hK;go_simp;first|(refine hK _ ?_;clear hK K)|(apply Exists.intro;refine ⟨fun _=>rfl,hK _ ?_⟩;clear hK K));(refine wpH_take 6 (by rfl) (by kernel_rfl) (by intro _ _ _ h;first|exact h|(cases h.1)) (by intro _ _ _ _ h;first|exact h|(cases h.1)) (by assumption) (fun K hK=>?_);simp only [List.setIfInBounds_toArray,List.set_cons_zero,List.set_cons_succ] at hK;go_simp;first|(refine hK _ ?_;clear hK K)|(apply Exists.intro;refine ⟨fun _=>rfl,hK _ ?_⟩;clear hK K))
   clear k3
   refine wpH_only 7 (by rfl) (by kernel_rfl) (fun K hK=>?_)
   refine step_storeA (by rfl) 77 (.tmp 2) (.tmp 10) (by rfl) w.heap.size [.bool l,.slice ta tn tc,.slice ka kn kc] (by rfl) (by rfl) aggItem h26 (by rfl) (by rfl) (by intro u hu;simp at hu;rcases hu with rfl|rfl|rfl<;>rfl) (fun w7 h27 _ g7=>?_)
   have B8:=B7.grown g7 (by simp<;>omega)
   have h37:=h36.grown g7 (by simp<;>omega)
   have h47:=h46.grown g7 (by simp<;>omega)
   have hbel7:=hbel6.grown g7 hbel6.size (fun y hy=>by cases hy;omega)
   have F8:=F7.to g7.size (fun x hx hl=>⟨g7.block x hl (by simp<;>omega),hx⟩)
   refine hK _ _ ⟨h27,B8⟩ ?_;clear hK K
   have c3:w7.cell? ⟨w.heap.size+1,0,none⟩=some (.int .i64 0):=h37.cell 0
   have f3:=h37.free 0
   have h48:=h47.other ⟨w.heap.size+1,0,none⟩ (by simp<;>omega) (.int .i64 (D:Int))
   have h38:=h37.set 0 (.int .i64 (D:Int))
   have h28:=h27.other ⟨w.heap.size+1,0,none⟩ (by simp<;>omega) (.int .i64 (D:Int))
   have B9:=B8.other ⟨w.heap.size+1,0,none⟩ (by simp<;>omega) (.int .i64 (D:Int))
   (refine wpH_only 8 (by rfl) (by kernel_rfl) (fun K hK=>?_);simp only [List.setIfInBounds_toArray,List.set_cons_zero,List.set_cons_succ] at hK;go_simp)
   refine hK _ _ ⟨h28,B9⟩ ?_;clear hK K
   have c4:(w7.setCell ⟨w.heap.size+1,0,none⟩ (.int .i64 (D:Int))).cell? ⟨w.heap.size+1+1,0,none⟩=some (.int .i64 0):=h48.cell 0
   have f4:=h48.free 0
   have h29:=h28.other ⟨w.heap.size+1+1,0,none⟩ (by simp<;>omega) (.int .i64 0)
   have h39:=h38.other ⟨w.heap.size+1+1,0,none⟩ (by simp<;>omega) (.int .i64 0)
   have h49:=h48.set 0 (.int .i64 0)
   have B10:=B9.other ⟨w.heap.size+1+1,0,none⟩ (by simp<;>omega) (.int .i64 0)
   (refine wpH_only 9 (by rfl) (by kernel_rfl) (fun K hK=>?_);simp only [List.setIfInBounds_toArray,List.set_cons_zero,List.set_cons_succ] at hK;go_simp)
   refine hK _ _ ⟨h29,B10⟩ ?_;clear hK K
   have hbel9:=(hbel7.setCell (by show w.heap.size≤w.heap.size+1;omega) (.int .i64 (D:Int)) (p:=⟨w.heap.size+1,0,none⟩)).setCell (by show w.heap.size≤w.heap.size+1+1;omega) (.int .i64 0) (p:=⟨w.heap.size+1+1,0,none⟩)
   have hI9:Fp (fun x=>w.heap.size≤x) ((w7.setCell ⟨w.heap.size+1,0,none⟩ (.int .i64 (D:Int))).setCell ⟨w.heap.size+1+1,0,none⟩ (.int .i64 0)) (.mk l (.slice ta tn tc) t (.slice ka kn kc) ks):=by
    refine F8.to (by simp) (fun x hx hl=>⟨?_,by omega⟩)
    rw [(grown_cell (g:=w.heap.size+1+1) 0 (.int .i64 0)).block x (by simpa using hl) (by simp<;>omega),(grown_cell (g:=w.heap.size+1) 0 (.int .i64 (D:Int))).block x hl (by simp<;>omega)]
   exact wpH_done (by kernel_rfl) ⟨rfl,rfl,h29,h39,h49,hbel9,hI9⟩
  rintro b w9 ⟨rfl,h29,h39,h49,hbel9,hI9⟩
  simp only [Act.put,List.setIfInBounds_toArray,List.set_cons_zero,List.set_cons_succ]
  go_wp2_with fail
  refine leaves_cons (f:=114) (args:=#[.pointer (some ⟨w.heap.size,0,none⟩),.pointer (some ⟨w.heap.size+1,0,none⟩),.pointer (some ⟨w.heap.size+1+1,0,none⟩)]) (by simp) (by simp [go_sem]) ?_
  refine (catch_idle w.heap.size (w.heap.size+1) (w.heap.size+1+1) _).mono ?_
  rintro e u' w10 ⟨rfl,rfl,rfl⟩
  have k0:=h29.cell 0
  have k1:=h29.cell 1
  have k2:=h29.cell 2
  have k3:=h39.cell 0
  have k4:=h49.cell 0
  simp only [List.getElem?_cons_zero,List.getElem?_cons_succ,List.set_cons_zero] at k0 k1 k2 k3 k4
  simp [Leaves,settle,results,Tryz.results84,go_sem,k0,k1,k2,k3,k4]
  exact ⟨.mk l (.slice ta tn tc) t (.slice ka kn kc) ks,rfl,hbel9,hI9,he5,hb5⟩
end Go.Proofs.YtcgpjceopnfahaaGreat
