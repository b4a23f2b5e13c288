/- (*reader).item: a list. | (*reader).item; pack.Split's deferred closure. | pack.Split. -/
import Derived.Test.YtbdmkfjgnjfjbaaGreatBlockListsK21
import Derived.Recover
set_option linter.unusedSimpArgs false
set_option linter.unusedVariables false
set_option maxHeartbeats 4000000
set_option maxRecDepth 100000
open List (getElem_cons_zero length_append length_cons length_nil mem_cons not_mem_nil)
open Nat (add_zero le_refl)
namespace Go.Proofs.YtbdmkfjgnjfjbaaGreat
open Go.RowKit
theorem Qod:Agg Tryz.prog 160 1:=⟨_,Tryz.underlying160,rfl,by kernel_rfl⟩
theorem Q5x (v:Value)(b:List UInt8)(g:Nat)(w:World):Q3l none v b g w=fun e w'=>e=.panicked mis/\w.grownBy w' (some g):=rfl
theorem Q5w (p:Pit)(r:List UInt8)(v:Value)(b:List UInt8)(g:Nat)(w:World):Q3l (some (p,r)) v b g w=fun e w'=>∃ it a' c',e=.returned (.agg (Q0j it).toArray)/\SubB v b (.slice a' r.length c') r/\Blk 160 w' g [.slice a' r.length c']/\w.grownBy w' (some g)/\Fp (fun x=>w.heap.size<=x) w' it/\erI it=p/\Q40 it:=rfl
theorem Qn7 (n:Nat)(ih:∀ (b:List UInt8),b.length<=n->b.length<=1048576->∀ (a:Option Addr) (L c g:Nat) (w:World),b.length=L->Blk 160 w g [.slice a L c]->Q02 w (.slice a L c) b->Calls Tryz.prog 115 #[.pointer (some ⟨g,0,none⟩)] w (Q3l (par n b) (.slice a L c) b g w))
  (a:Option Addr) (L c:Nat) (x:UInt8) (r:List UInt8) (hL:(x::r).length=L) (hn:L<=n+1) (hLs:L<=1048576) (h192:192<=x.toNat) (g:Nat) (w:World) (hB:Blk 160 w g [.slice a L c]) (h:Q02 w (.slice a L c) (x::r)) :
  Calls Tryz.prog 115 #[.pointer (some ⟨g,0,none⟩)] w (Q3l (par (n+1) (x::r)) (.slice a L c) (x::r) g w):=by
 have bg:=hB.lt;have c':L<=maxLen:=by unfold maxLen;omega
 have R0:=Rd.start hB hL c';have h0:∀ u,w.grownBy u (some g)->Q02 u (.slice a L c) (x::r):=fun u U=>Q02.off_r h hB ⟨_,_,_,rfl⟩ U;have aP:=D01 w 77 [.bool false,.slice none 0 0,.slice none 0 0];have R1:=R0.alloc (.cells #[.bool false,.slice none 0 0,.slice none 0 0] 77);have cT:w.heap.size<=(w.alloc (.cells #[.bool false,.slice none 0 0,.slice none 0 0] 77)).heap.size:=by simp
 obtain ⟨w1,bj⟩:=Qe (w.alloc (.cells #[.bool false,.slice none 0 0,.slice none 0 0] 77));rw [<-bj] at R1 cT;change Blk _ (w.alloc (.cells #[.bool false,.slice none 0 0,.slice none 0 0] 77)) _ _ at aP;rw [<-bj] at aP;have d7:=aP.lt;have bs:=Qhd bj;clear bj;have cW:=x.toNat_lt;have hp:par (n+1) (x::r)=match hdr x.toNat 192 r with
   | none=>none
   | some (k,r')=>if r'.length<k then none else match parL (par n) k (r'.take k) with
    | none=>none
    | some ks=>some (.lst ks,r'.drop k):=by
  rw [par,if_neg (by omega),if_neg (by omega)]
  all_goals (cases hdr x.toNat 192 r<;>rfl)
 rw [hp];have t1:Calls Tryz.prog 145 #[.pointer (some ⟨g,0,none⟩),.int .u64 1] w1 _:=Q4t a c L 1 (x::r) hL c' (by rw [<-hL];simp) g w1 R1.hB (R1.bytes h0);have bI:r.length=L - 1:=by rw [<-hL];simp
 have cU:¬ (x.toNat:Int)<128:=by omega
 have d':decide ((x.toNat:Int)<128)=false:=by rw [decide_eq_false_iff_not];exact cU
 have cV:¬ (x.toNat:Int)<192:=by omega
 have da:decide ((x.toNat:Int)<192)=false:=by rw [decide_eq_false_iff_not];exact cV
 simp only [List.take_succ_cons,List.take_zero,List.drop_succ_cons,List.drop_zero] at t1;have lc:∀ (a2:Option Addr) (c2:Nat) (u:World),Blk 160 u g [.slice a2 (L - 1) c2]->Q02 u (.slice a2 (L - 1) c2) r->Calls Tryz.prog 146 #[.pointer (some ⟨g,0,none⟩),.int .u8 (x.toNat:Int),.int .u8 192] u (Q7i (hdr x.toNat 192 r) (.slice a2 (L - 1) c2) r g u) :=
  fun a2 c2 u h1 h2=>Qb0 x.toNat 192 (by omega) h192 (by omega) a2 c2 (L - 1) r bI (by omega) g u h1 h2
 have T1:=Qhd t1;have b':=Qhd bI;have H0:=Qhd h0;have HL:=Qhd hL;have Ih:=Qhd ih;clear t1 hp h0 bI hL h192 h ih cW;cases hh:hdr x.toNat 192 r with
 | none =>
  simp only [hh,Q7t] at lc;have Lc:=Qhd lc;clear lc hh;dsimp only;go_enter Tryz.func115,Tryz.ntmps115
  go_wp2_with fail
  rw [<-bs.out]
  go_wp2_with (first
   |(go_at_call 145;(with_reducible refine T1.out.mono ?_);rintro e w2 ⟨a1,c1,a2,c2,rfl,r1,r2,B2,g2⟩;have W:Rd w (.slice a L c) (x::r) g w2 a2 (L - 1) c2 r:=R1.next g2 B2 r2 b'.out (by omega);have b5:=aP.grown g2 (by simp;omega);obtain ⟨b,off,rfl,hc⟩:=Q02.at (r1 w2 (H0.out w2 W.hg)) 0 (by simp);simp only [getElem_cons_zero,add_zero] at hc)
   |(go_at_call 146;(with_reducible refine (Lc.out _ _ _ W.hB (W.bytes H0.out)).mono ?_);rintro e w3 ⟨rfl,g3⟩))
  exact ⟨rfl,rfl,Q3f W.hg g3⟩
 | some kr =>
  obtain ⟨k,r'⟩:=kr;obtain ⟨j,hj,cN⟩:=Q50 hh;have cS:r'.length<=L - 1:=by rw [hj,List.length_drop,b'.out];omega
  simp only [hh,Q7s] at lc;have Lc:=Qhd lc;clear lc hh hj cN;dsimp only;obtain ⟨M,hM⟩:=Qe (r'.length);rw [<-hM] at Lc cS;have ca:M<=maxLen:=by omega
  simp only [<-hM];have HM:=Qhd hM.symm;clear hM;by_cases hk:M<k
  ·rw [if_pos hk];go_enter Tryz.func115,Tryz.ntmps115
   go_wp2_with fail
   rw [<-bs.out]
   go_wp2_with (first
    |(go_at_call 145;(with_reducible refine T1.out.mono ?_);rintro e w2 ⟨a1,c1,a2,c2,rfl,r1,r2,B2,g2⟩;have W:Rd w (.slice a L c) (x::r) g w2 a2 (L - 1) c2 r:=R1.next g2 B2 r2 b'.out (by omega);have b5:=aP.grown g2 (by simp;omega);obtain ⟨b,off,rfl,hc⟩:=Q02.at (r1 w2 (H0.out w2 W.hg)) 0 (by simp);simp only [getElem_cons_zero,add_zero] at hc)
    |(go_at_call 146;(with_reducible refine (Lc.out _ _ _ W.hB (W.bytes H0.out)).mono ?_);rintro e w3 ⟨a3,c3,rfl,s3,B3,g3⟩;have R3:=W.next g3 B3 s3 HM.out (by omega);have bK:=b5.grown g3 (by simp;omega))
    |(go_at_call 145;(with_reducible refine (Q7y a3 c3 M k ca hk g w3 R3.hB).mono ?_);rintro e w4 ⟨rfl,rfl⟩))
   exact ⟨rfl,rfl,R3.hg⟩
  rw [if_neg hk];have cP:k<=M:=by omega
  have bJ:(r'.take k).length=k:=by rw [List.length_take,HM.out];omega
  have bD:(r'.drop k).length=M - k:=by rw [List.length_drop,HM.out]
  have tk:∀ (a3:Option Addr) (c3:Nat) (u:World),Blk 160 u g [.slice a3 M c3]->Q02 u (.slice a3 M c3) r'->Calls Tryz.prog 145 #[.pointer (some ⟨g,0,none⟩),.int .u64 (k:Int)] u _:=fun a3 c3 u h1 h2=>Q4t a3 c3 M k r' HM.out ca cP g u h1 h2;obtain ⟨t,ht⟩:=Qe (r'.take k);obtain ⟨d,hd⟩:=Qe (r'.drop k);obtain ⟨PL,bC⟩:=Qe (parL (par n) k t);simp only [<-ht,<-hd] at tk bJ bD |-;rw [<-bC];have Tk:=Qhd tk;have br:=Qhd bD;have cE:=Qhd bJ;have cC:=Qhd bC;clear tk ht hd bJ bD hk bC;have d6:k<=1048576:=by omega
  have bh:k<=n:=by omega
  go_enter Tryz.func115,Tryz.ntmps115
  go_wp2_with fail
  rw [<-bs.out]
  go_wp2_with (first
   |(go_at_call 145;(with_reducible refine T1.out.mono ?_);rintro e w2 ⟨a1,c1,a2,c2,rfl,r1,r2,B2,g2⟩;have W:Rd w (.slice a L c) (x::r) g w2 a2 (L - 1) c2 r:=R1.next g2 B2 r2 b'.out (by omega);have b5:=aP.grown g2 (by simp;omega);obtain ⟨b,off,rfl,hc⟩:=Q02.at (r1 w2 (H0.out w2 W.hg)) 0 (by simp);simp only [getElem_cons_zero,add_zero] at hc)
   |(go_at_call 146;(with_reducible refine (Lc.out _ _ _ W.hB (W.bytes H0.out)).mono ?_);rintro e w3 ⟨a3,c3,rfl,s3,B3,g3⟩;have R3:=W.next g3 B3 s3 HM.out (by omega);have bK:=b5.grown g3 (by simp;omega))
   |(go_at_call 145;refine (Tk.out a3 c3 w3 R3.hB (R3.bytes H0.out)).mono ?_;rintro e w4 ⟨a4,c4,a5,c5,rfl,r4,r5,B4,g4⟩;have R4:Rd w (.slice a L c) (x::r) g w4 a5 (M - k) c5 d:=R3.next g4 B4 r5 br.out (by omega);have bL:=bK.grown g4 (by simp;omega);have co:SubB (.slice a L c) (x::r) (.slice a4 k c4) t:=R3.hs.trans r4;have c8:=D01 w4 160 [.slice none 0 0];have cr:=bL.alloc (.cells #[.slice none 0 0] 160);have R5:=R4.alloc (.cells #[.slice none 0 0] 160);have ch:=bL.lt)
   |((with_reducible refine Qgs 45 ?_);refine Qsa 160 5 45 w4.heap.size [.slice a4 k c4] Qod c8 (by rfl) (by rfl) (by intro u U;simp at U;subst U;rfl) (Below.refl _ _) (le_refl _) ?_;intro w6 bB _ bE;have R6:=R5.fresh bE (fun y V=>by cases V;omega) bg;have ct:=cr.grown bE (by simp;omega);have cj:=D01 w6 77 [.bool false,.slice none 0 0,.slice none 0 0];have c9:=bB.alloc (.cells #[.bool false,.slice none 0 0,.slice none 0 0] 77);have cu:=ct.alloc (.cells #[.bool false,.slice none 0 0,.slice none 0 0] 77);have R7:=R6.alloc (.cells #[.bool false,.slice none 0 0,.slice none 0 0] 77);have ci:=bB.lt)
   |((with_reducible refine Qgs 46 ?_);refine Qsa 77 6 46 w6.heap.size [.bool true,.slice none 0 0,.slice none 0 0] Q09 cj (by rfl) (by rfl) (by intro u U;simp at U;rcases U with rfl|rfl<;>rfl) (Below.refl _ _) (le_refl _) ?_;intro w8 ck _ be))
  have F8:LsW w (.slice a L c) (x::r) g w4.heap.size w6.heap.size a5 (M - k) c5 d a4 k c4 t (.slice none 0 0) [] w8 :=
   ⟨R7.fresh be (fun y V=>by cases V;omega) bg,c9.grown be (by simp;omega),co,cE.out,ck,cu.grown be (by simp;omega),Q08.nil Q0j 3 _ _ _,by simp,ch,ci,bg⟩
  obtain ⟨gi,bG⟩:=Qe (w4.heap.size);obtain ⟨Z,bF⟩:=Qe (w6.heap.size);rw [<-bG,<-bF] at F8;rw [<-bG,<-bF];clear R0 R1 aP W b5 R3 bK R4 bL co c8 cr R5 ch bB R6 ct cj c9 cu R7 ci ck B2 g2 r1 r2 hc B3 g3 s3 r4 r5 B4 g4 bE be bG bF hB;simp only [Act.put]
  go_loopw [] (fun wr=>∃ (a6:Option Addr) (T c6:Nat) (ac:List UInt8) (kv:Value) (ks:List Itm) (m:Nat),LsW w (.slice a L c) (x::r) g gi Z a5 (M - k) c5 d a6 T c6 ac kv ks wr/\T<=m/\T<=k/\ks.length+T<=k/\PL=(parL (par n) m ac).map (fun ps=>ks.map erI++ps)) (fun wr=>lenV ((wr.cell? ⟨gi,0,none⟩).getD undef))
  case atStart=>exact ⟨a4,k,c4,t,.slice none 0 0,[],k,F8,le_refl _,le_refl _,by simp,by rw [cC.out];cases parL (par n) k t<;>simp⟩
  case round =>
   clear F8;obtain ⟨a6,T,c6,ac,kv,ks,m,F,d3,d2,cQ,cm⟩:=hrel;have bq:=Qhd cm;clear cm;have bH:wr.cell? ⟨gi,0,none⟩=some (.slice a6 T c6):=F.hI.cell 0;by_cases hr0:T=0
   ·subst hr0;obtain rfl:ac=[]:=List.eq_nil_of_length_eq_zero F.hl;have aR:PL=some (ks.map erI):=by rw [bq.out,Q6l];simp
    subst aR;obtain ⟨ka,kc,rfl,_⟩:=F.hO.form
    go_wp2_with (first
     |(refine Qla 77 6 Z Q09 F.hm (by rfl) ?_)
     |((with_reducible refine Qgs 57 ?_);refine Qsa 77 2 57 w.heap.size [.bool true,.slice none 0 0,.slice ka ks.length kc] Q09 F.hz (by rfl) (by rfl) (by intro u U;simp at U;rcases U with rfl|rfl|rfl<;>rfl) (Below.refl _ _) (le_refl _) ?_;intro w9 cL _ bf))
    have q1:=F.h1;have q2:=F.h2;have R9:=F.hR.fresh bf (fun y V=>by cases V;exact le_refl _) bg;have o9:=F.hO.grown bf (fun y V e=>by cases V;have:=F.hO.lt _ e;omega);refine bodyPost_ret (Q0h rfl _ _ w.heap.size Q09 cL rfl rfl) rfl ⟨.mk true (.slice none 0 0) [] (.slice ka ks.length kc) ks,a5,c5,rfl,?_,?_,R9.hg,Fp.lst o9 (fun k hk=>(F.hF k hk).1.to bf.size (fun y V hl=>⟨bf.block y hl (by simp;omega),by omega⟩)) (fun y V=>by omega),by rw [Q1w];rfl,.lst _ _ _ (fun k hk=>(F.hF k hk).2)⟩
    ·rw [br.out];exact R9.hs
    rw [br.out];exact R9.hB
   have cR:(0:Int)<(T:Int):=by omega
   have d8:decide ((0:Int)<(T:Int))=true:=by rw [decide_eq_true_eq];exact cR
   have d9:decide (0<T)=true:=by rw [decide_eq_true_eq];omega
   have bi:ac≠[]:=fun e=>by have:=F.hl;rw [e] at this;simp at this;omega
   have hc:=fun (u:World) (hB:Blk 160 u gi [.slice a6 T c6]) (hb:Q02 u (.slice a6 T c6) ac)=>Ih.out ac (by have:=F.hl;omega) (by have:=F.hl;omega) a6 T c6 gi u F.hl hB hb;obtain ⟨m',rfl⟩:∃ m',m=m'+1:=⟨m - 1,by omega⟩;cases hpar:par n ac with
   | none =>
    have aR:PL=none:=by rw [bq.out,Qe5 bi hpar];rfl
    subst aR;simp only [hpar,Q5x] at hc;have Hc:=Qhd hc;clear hc hpar bi hr0;obtain ⟨ka,kc,rfl,_⟩:=F.hO.form
    go_wp2_with fail
    refine Q0w (Any) (by kernel_rfl) ?_;intro u0 b4;simp only [length_cons,length_nil,Nat.reduceAdd,List.replicate_succ,List.replicate_zero];have S:LsW w (.slice a L c) (x::r) g gi Z a5 (M - k) c5 d a6 T c6 ac (.slice ka ks.length kc) ks u0:=by rw [b4];exact F.kept (Below.refl _ _).drew
    have hT:Any u0:=trivial;clear b4 bH F;have cO:=(S.hm.cell 2).trans (show _=some (Value.slice ka ks.length kc) from rfl);refine Qtk 0 (fun K z=>?_);simp only [Qzs] at z;go_simp;(first|refine z _ ?_|refine ⟨_,fun _=>rfl,z _ ?_⟩);clear z K;refine Q4q [1,2] (by kernel_rfl) (by simp) ?_;intro i hi;simp only [mem_cons,not_mem_nil,or_false] at hi;rcases hi with rfl|rfl
    ·(refine Q31 (i:=1) (by rfl) (fun K z=>?_);simp only [Qzs] at z;go_simp)
     refine z _ _ trivial ?_;clear z K
     (refine Q0f 2 (by rfl) (by kernel_rfl) (fun K z=>?_);simp only [Qzs] at z;go_simp)
     refine (Hc.out _ S.hI (S.hs _ (H0.out _ S.hR.hg))).mono ?_;rintro e u1 ⟨rfl,aL⟩;have q1:=S.h1;exact ⟨rfl,rfl,Q68 S.hR.hg aL (fun y V=>by cases V;omega)⟩
    (refine Q31 (i:=2) (by rfl) (fun K z=>?_);simp only [Qzs] at z;go_simp)
    refine (Hc.out _ S.hI (S.hs _ (H0.out _ S.hR.hg))).mono ?_;rintro e u1 ⟨rfl,aL⟩;have q1:=S.h1;exact ⟨rfl,rfl,Q68 S.hR.hg aL (fun y V=>by cases V;omega)⟩
   | some pr =>
    obtain ⟨p,r2⟩:=pr;have cg:=Qfv hpar;have aR:PL=(parL (par n) m' r2).map (fun ps=>(ks.map erI++[p])++ps):=by
     rw [bq.out,Q94 bi hpar];cases parL (par n) m' r2<;>simp
    simp only [hpar,Q5w] at hc;obtain ⟨L7,bc⟩:=Qe (r2.length);rw [<-bc] at cg;simp only [<-bc] at hc;rw [F.hl] at cg;have Hc:=Qhd hc;have cD:=Qhd aR;have bT:=Qhd bc.symm;clear hc hpar bi hr0 aR bc;obtain ⟨ka,kc,rfl,_⟩:=F.hO.form;obtain ⟨kn,bh⟩:=Qe (ks.length);rw [<-bh] at F cQ;have ao:=Qhd bh.symm;clear bh
    go_wp2_with fail
    refine Q1g (fun aa b w'=>∃ (I:Bool) (J:Option Addr) (O N:Nat) (t2:List UInt8) (E:Option Addr) (H G:Nat) (ab:List Itm) (gb:Nat) (a7:Option Addr) (c7:Nat) (ax:Option Addr) (ay:Nat),b=(((((aa.put (some 51) (.pointer (some ⟨Z,2,none⟩))).put (some 52) (.slice ka kn kc)).put (some 53) (.agg #[.bool I,.slice J O N,.slice E H G])).put (some 54) (.slice (some ⟨gb,0,none⟩) 1 1)).put (some 55) (.slice ax (kn+1) ay)).put (some 56) (.pointer (some ⟨Z,2,none⟩))/\LsW w (.slice a L c) (x::r) g gi Z a5 (M - k) c5 d a7 L7 c7 r2 (.slice ax (kn+1) ay) (ks++[.mk I (.slice J O N) t2 (.slice E H G) ab]) w'/\erI (.mk I (.slice J O N) t2 (.slice E H G) ab)=p) ?_ ?_
    ·refine Q0w (Any) (by kernel_rfl) ?_;intro u0 b4;simp only [length_cons,length_nil,Nat.reduceAdd,List.replicate_succ,List.replicate_zero];have S:LsW w (.slice a L c) (x::r) g gi Z a5 (M - k) c5 d a6 T c6 ac (.slice ka kn kc) ks u0:=by rw [b4];exact F.kept (Below.refl _ _).drew
     have hT:Any u0:=trivial;clear b4 bH F;have cO:=(S.hm.cell 2).trans (show _=some (Value.slice ka kn kc) from rfl);refine Qtk 0 (fun K z=>?_);simp only [Qzs] at z;go_simp;(first|refine z _ ?_|refine ⟨_,fun _=>rfl,z _ ?_⟩);clear z K;refine Q4q [1,2] (by kernel_rfl) (by simp) ?_;intro i hi;simp only [mem_cons,not_mem_nil,or_false] at hi;rcases hi with rfl|rfl
     ·(refine Q31 (i:=1) (by rfl) (fun K z=>?_);simp only [Qzs] at z;go_simp)
      refine z _ _ trivial ?_;clear z K
      (refine Q0f 2 (by rfl) (by kernel_rfl) (fun K z=>?_);simp only [Qzs] at z;go_simp)
      refine (Hc.out _ S.hI (S.hs _ (H0.out _ S.hR.hg))).mono ?_;rintro e u1 ⟨it,a7,c7,rfl,s1,B1,aL,aZ,aT,aS⟩;have F1:=S.read aL B1 s1 bT.out;have an:=S.apart aZ;obtain ⟨I,cZ,t2,cX,ab⟩:=it;obtain ⟨J,N,rfl,_,_⟩:=an.is.inv.1.form;obtain ⟨E,G,rfl,_,_⟩:=an.is.inv.2.1.form;obtain ⟨O,aO⟩:=Qe (t2.length);obtain ⟨H,aM⟩:=Qe (ab.length);rw [<-aO,<-aM] at an aT aS;rw [<-aO,<-aM];clear aO aM aZ;simp only [Q0j];refine z _ _ trivial ?_;clear z K;have cJ:Any u1:=trivial
      (refine Q0f 3 (by rfl) (by kernel_rfl) (fun K z=>?_);simp only [Qzs] at z;go_simp)
      have D:=F1.kept ((Below.refl u1.heap.size u1).alloc (le_refl _) (.cells #[.bool I,.slice J O N,.slice E H G] 77));have az:=an.to (w':=u1.alloc (.cells #[.bool I,.slice J O N,.slice E H G] 77)) (by simp) (fun y V hl=>⟨(World.grownBy_alloc u1 _ none).block y hl (by simp),V⟩);have ak:=D02 Q0k u1 77 [.mk I (.slice J O N) t2 (.slice E H G) ab] 1 rfl (by unfold maxLen;omega);change Q05 Q0j 3 (u1.alloc (.cells #[.bool I,.slice J O N,.slice E H G] 77)) (.slice (some ⟨u1.heap.size,0,none⟩) 1 1) _ at ak;obtain ⟨u2,al⟩:=Qe (u1.alloc (.cells #[.bool I,.slice J O N,.slice E H G] 77));rw [<-al] at D az ak
      first|rw [<-al]|skip
      refine z _ _ trivial ?_;clear z K;have cb:Any u2:=trivial;clear al;refine Q0f 4 (by rfl) (by kernel_rfl) (fun K z=>?_);refine Q8o (by rfl) (.tmp 52) (.tmp 54) 75 (by rfl) Q5t (by intro u U;simp [Q0j] at U;rcases U with rfl|rfl|rfl<;>rfl) (by rfl) D.hO (by rfl) ak D.hm.lt (by rw [ao.out];simp;omega) (by rw [ao.out];unfold maxLen;simp;omega) (fun v7 u3 aG aj b7=>?_);obtain ⟨ax,ay,rfl,_⟩:=aG.form' (kn+1) (by rw [length_append,ao.out];rfl);have F4:=D.grew az aS aj aG b7;have aJ:(Value.slice ka kn kc).ownBlock≠some Z:=fun e=>by have:=D.hO.lt Z e;omega
      obtain ⟨y5,cq⟩:=(D.hm.grown aj aJ).has 2 (by simp);have ce:=(D.hm.grown aj aJ).free 2;refine z _ _ trivial ?_;clear z K;have cc:Any u3:=trivial;refine Qtk 5 (fun K z=>?_);simp only [Qzs] at z;go_simp;(first|refine z _ ?_|refine ⟨_,fun _=>rfl,z _ ?_⟩);clear z K
      (refine Q0f 6 (by rfl) (by kernel_rfl) (fun K z=>?_);simp only [Qzs] at z;go_simp)
      refine z _ _ trivial ?_;clear z K;exact Q11 (by kernel_rfl) ⟨rfl,I,J,O,N,t2,E,H,G,ab,u1.heap.size,a7,c7,ax,ay,rfl,F4,aT⟩
     (refine Q31 (i:=2) (by rfl) (fun K z=>?_);simp only [Qzs] at z;go_simp)
     refine (Hc.out _ S.hI (S.hs _ (H0.out _ S.hR.hg))).mono ?_;rintro e u1 ⟨it,a7,c7,rfl,s1,B1,aL,aZ,aT,aS⟩;have F1:=S.read aL B1 s1 bT.out;have an:=S.apart aZ;obtain ⟨I,cZ,t2,cX,ab⟩:=it;obtain ⟨J,N,rfl,_,_⟩:=an.is.inv.1.form;obtain ⟨E,G,rfl,_,_⟩:=an.is.inv.2.1.form;obtain ⟨O,aO⟩:=Qe (t2.length);obtain ⟨H,aM⟩:=Qe (ab.length);rw [<-aO,<-aM] at an aT aS;rw [<-aO,<-aM];clear aO aM aZ;simp only [Q0j];refine z _ _ trivial ?_;clear z K;have cJ:Any u1:=trivial;refine Q4q [1,3] (by kernel_rfl) (by simp) ?_;intro i hi;simp only [mem_cons,not_mem_nil,or_false] at hi;rcases hi with rfl|rfl
     ·have d4:=(F1.hm.cell 2).trans (show _=some (Value.slice ka kn kc) from rfl)
      (refine Q31 (i:=1) (by rfl) (fun K z=>?_);simp only [Qzs] at z;go_simp)
      refine z _ _ trivial ?_;clear z K
      (refine Q0f 3 (by rfl) (by kernel_rfl) (fun K z=>?_);simp only [Qzs] at z;go_simp)
      have D:=F1.kept ((Below.refl u1.heap.size u1).alloc (le_refl _) (.cells #[.bool I,.slice J O N,.slice E H G] 77));have az:=an.to (w':=u1.alloc (.cells #[.bool I,.slice J O N,.slice E H G] 77)) (by simp) (fun y V hl=>⟨(World.grownBy_alloc u1 _ none).block y hl (by simp),V⟩);have ak:=D02 Q0k u1 77 [.mk I (.slice J O N) t2 (.slice E H G) ab] 1 rfl (by unfold maxLen;omega);change Q05 Q0j 3 (u1.alloc (.cells #[.bool I,.slice J O N,.slice E H G] 77)) (.slice (some ⟨u1.heap.size,0,none⟩) 1 1) _ at ak;obtain ⟨u2,al⟩:=Qe (u1.alloc (.cells #[.bool I,.slice J O N,.slice E H G] 77));rw [<-al] at D az ak
      first|rw [<-al]|skip
      refine z _ _ trivial ?_;clear z K;have cb:Any u2:=trivial;clear al;refine Q0f 4 (by rfl) (by kernel_rfl) (fun K z=>?_);refine Q8o (by rfl) (.tmp 52) (.tmp 54) 75 (by rfl) Q5t (by intro u U;simp [Q0j] at U;rcases U with rfl|rfl|rfl<;>rfl) (by rfl) D.hO (by rfl) ak D.hm.lt (by rw [ao.out];simp;omega) (by rw [ao.out];unfold maxLen;simp;omega) (fun v7 u3 aG aj b7=>?_);obtain ⟨ax,ay,rfl,_⟩:=aG.form' (kn+1) (by rw [length_append,ao.out];rfl);have F4:=D.grew az aS aj aG b7;have aJ:(Value.slice ka kn kc).ownBlock≠some Z:=fun e=>by have:=D.hO.lt Z e;omega
      obtain ⟨y5,cq⟩:=(D.hm.grown aj aJ).has 2 (by simp);have ce:=(D.hm.grown aj aJ).free 2;refine z _ _ trivial ?_;clear z K;have cc:Any u3:=trivial;refine Qtk 5 (fun K z=>?_);simp only [Qzs] at z;go_simp;(first|refine z _ ?_|refine ⟨_,fun _=>rfl,z _ ?_⟩);clear z K
      (refine Q0f 6 (by rfl) (by kernel_rfl) (fun K z=>?_);simp only [Qzs] at z;go_simp)
      refine z _ _ trivial ?_;clear z K;exact Q11 (by kernel_rfl) ⟨rfl,I,J,O,N,t2,E,H,G,ab,u1.heap.size,a7,c7,ax,ay,rfl,F4,aT⟩
     (refine Q31 (i:=3) (by rfl) (fun K z=>?_);simp only [Qzs] at z;go_simp)
     have D:=F1.kept ((Below.refl u1.heap.size u1).alloc (le_refl _) (.cells #[.bool I,.slice J O N,.slice E H G] 77));have az:=an.to (w':=u1.alloc (.cells #[.bool I,.slice J O N,.slice E H G] 77)) (by simp) (fun y V hl=>⟨(World.grownBy_alloc u1 _ none).block y hl (by simp),V⟩);have ak:=D02 Q0k u1 77 [.mk I (.slice J O N) t2 (.slice E H G) ab] 1 rfl (by unfold maxLen;omega);change Q05 Q0j 3 (u1.alloc (.cells #[.bool I,.slice J O N,.slice E H G] 77)) (.slice (some ⟨u1.heap.size,0,none⟩) 1 1) _ at ak;obtain ⟨u2,al⟩:=Qe (u1.alloc (.cells #[.bool I,.slice J O N,.slice E H G] 77));rw [<-al] at D az ak
     first|rw [<-al]|skip
     refine z _ _ trivial ?_;clear z K;have cb:Any u2:=trivial;clear al;have d5:=(D.hm.cell 2).trans (show _=some (Value.slice ka kn kc) from rfl)
     (refine Q0f 1 (by rfl) (by kernel_rfl) (fun K z=>?_);simp only [Qzs] at z;go_simp)
     refine z _ _ trivial ?_;clear z K;refine Q0f 4 (by rfl) (by kernel_rfl) (fun K z=>?_);refine Q8o (by rfl) (.tmp 52) (.tmp 54) 75 (by rfl) Q5t (by intro u U;simp [Q0j] at U;rcases U with rfl|rfl|rfl<;>rfl) (by rfl) D.hO (by rfl) ak D.hm.lt (by rw [ao.out];simp;omega) (by rw [ao.out];unfold maxLen;simp;omega) (fun v7 u3 aG aj b7=>?_);obtain ⟨ax,ay,rfl,_⟩:=aG.form' (kn+1) (by rw [length_append,ao.out];rfl);have F4:=D.grew az aS aj aG b7;have aJ:(Value.slice ka kn kc).ownBlock≠some Z:=fun e=>by have:=D.hO.lt Z e;omega
     obtain ⟨y5,cq⟩:=(D.hm.grown aj aJ).has 2 (by simp);have ce:=(D.hm.grown aj aJ).free 2;refine z _ _ trivial ?_;clear z K;have cc:Any u3:=trivial;refine Qtk 5 (fun K z=>?_);simp only [Qzs] at z;go_simp;(first|refine z _ ?_|refine ⟨_,fun _=>rfl,z _ ?_⟩);clear z K
     (refine Q0f 6 (by rfl) (by kernel_rfl) (fun K z=>?_);simp only [Qzs] at z;go_simp)
     refine z _ _ trivial ?_;clear z K;exact Q11 (by kernel_rfl) ⟨rfl,I,J,O,N,t2,E,H,G,ab,u1.heap.size,a7,c7,ax,ay,rfl,F4,aT⟩
    rintro b w' ⟨I,J,O,N,t2,E,H,G,ab,gb,a7,c7,ax,ay,rfl,F7,cK⟩;simp only [Act.put,Qzs];have cM:w'.cell? ⟨gi,0,none⟩=some (.slice a7 L7 c7):=F7.hI.cell 0;have cn:∃ (a6:Option Addr) (T c6:Nat) (ac:List UInt8) (kv:Value) (ks:List Itm) (m:Nat),LsW w (.slice a L c) (x::r) g gi Z a5 (M - k) c5 d a6 T c6 ac kv ks w'/\T<=m/\T<=k/\ks.length+T<=k/\PL=(parL (par n) m ac).map (fun ps=>ks.map erI++ps):=⟨a7,L7,c7,r2,_,_,m',F7,by omega,by omega,by rw [length_append,ao.out];simp;omega,by rw [cD.out,List.map_append,List.map_singleton,cK]⟩
    go_roundw
    case rel=>first|exact cn|((repeat apply Exists.intro);exact ⟨cn,rfl⟩)
    case measure=>rw [cM,bH];simp only [Option.getD_some,lenV];omega
theorem Qdu:∀ (n:Nat)(b:List UInt8),b.length<=n->b.length<=1048576->∀ (a:Option Addr) (L c g:Nat) (w:World),b.length=L->Blk 160 w g [.slice a L c]->Q02 w (.slice a L c) b->Calls Tryz.prog 115 #[.pointer (some ⟨g,0,none⟩)] w (Q3l (par n b) (.slice a L c) b g w)
 | 0,[],_,_,a,L,c,g,w,hL,hB,h=>by
  have:=Qck 0 a L c [] hL (by unfold maxLen;simp at hL;omega) (by simp) g w hB h;simpa [par] using this
 | n+1,[],_,_,a,L,c,g,w,hL,hB,h=>Qck n a L c [] hL (by unfold maxLen;simp at hL;omega) (by simp) g w hB h
 | 0,x::r,h0,_,_,_,_,_,_,_,_,_=>by simp at h0
 | n+1,x::r,h0,h1,a,L,c,g,w,hL,hB,h=>by
  by_cases h128:x.toNat<128
  ·exact Qck n a L c (x::r) hL (by unfold maxLen;omega) (fun y s e=>by cases e;exact h128) g w hB h
  by_cases h192:x.toNat<192
  ·exact Qn4 n a L c x r hL (by omega) (by omega) h192 g w hB h
  exact Qn7 n (Qdu n) a L c x r hL (by omega) (by omega) (by omega) g w hB h
theorem Qtf (w:World):(Instr.typeAssert (.iface 157 (.agg #[])) 20 157 true).run Tryz.prog w=.ok (.tuple #[.agg #[],.bool true]) w:=by
 unfold Instr.typeAssert;simp only [Sem.run_bind,run_underlying Tryz.underlying157,Result.andThen_ok];rfl
theorem Qo3 (E h D:Nat)(x:List Value)(y z:Value)(w:World)(J:Blk 77 w E x)(hx:x.length=3)(T:Blk 3 w h [y])(V:Blk 33 w D [z])(K:E≠h)(L:E≠D)(M:h≠D)
  (B:Nat) (w0:World) (hbel:Below B w0 w) (b2:B<=E) (b3:B<=h) (b4:B<=D) :
  CallsD Tryz.prog 114 #[.pointer (some ⟨E,0,none⟩),.pointer (some ⟨h,0,none⟩),.pointer (some ⟨D,0,none⟩)] (.panicking mis) w fun e u' w' =>
   e=.returned (.tuple #[])/\u'=.panicking [{ v:=.iface 157 (.agg #[]),recovered:=true }]/\Blk 77 w' E [.bool false,.slice none 0 0,.slice none 0 0]/\Blk 3 w' h [.int .i64 0]/\Blk 33 w' D [.int .i64 1]/\Below B w0 w':=by
 refine callsD_of_wpS Tryz.func114 rfl fun c₀ cs G=>?_;simp only [Tryz.ntmps114,List.size_toArray,length_cons,length_nil,Nat.reduceAdd,Nat.reduceSub,Array.replicate_succ,Array.replicate_zero,List.push_toArray,List.append_toArray,List.nil_append,List.cons_append];apply wpS_seq;apply wpS_region;unfold mis at G;simp [wpOpsS,go_sem,recoverD,G,Exit.thenS];refine wpS_of_wp ?_;have S:=J.alloc (.cells #[] 157);have U:=T.alloc (.cells #[] 157);have W:=V.alloc (.cells #[] 157);have a0:=hbel.alloc (by have:=hbel.size;have:=J.lt;omega) (.cells #[] 157);have a9:=Qtf
 go_wp2_with ((with_reducible refine Qgs 17 ?_);refine Qsa 77 0 17 E [.bool false,.slice none 0 0,.slice none 0 0] Q09 S (by rfl) hx (by intro u G;simp at G;rcases G with rfl|rfl<;>rfl) a0 b2 ?_;intro O a2 a1 N;have H:=U.grown N (by simpa using K);have Z:=W.grown N (by simpa using L);have a5:O.cell? ⟨h,0,none⟩=some y:=H.cell 0;have a7:=H.free 0;have I:=Z.other ⟨h,0,none⟩ (by simpa using M) (.int .i64 0);have a6:(O.setCell ⟨h,0,none⟩ (.int .i64 0)).cell? ⟨D,0,none⟩=some z:=I.cell 0;have a8:=I.free 0)
 refine ⟨rfl,_,rfl,_,results_none rfl _ _ _,rfl,rfl,?_,?_,?_,?_⟩
 ·exact (a2.other ⟨h,0,none⟩ (by simpa using Ne.symm K) _).other ⟨D,0,none⟩ (by simpa using Ne.symm L) _
 ·exact (H.set 0 (.int .i64 0)).other ⟨D,0,none⟩ (by simpa using Ne.symm M) _
 ·exact I.set 0 (.int .i64 1)
 exact (a1.setCell b3 _).setCell b4 _
theorem Qk5 (y z D:Nat)(w:World) :
  CallsD Tryz.prog 114 #[.pointer (some ⟨y,0,none⟩),.pointer (some ⟨z,0,none⟩),.pointer (some ⟨D,0,none⟩)] .returning w fun e u' w'=>e=.returned (.tuple #[])/\u'=.returning/\w=w':=by
 refine callsD_of_wpS Tryz.func114 rfl fun E cs h=>?_;simp only [Tryz.ntmps114,List.size_toArray,length_cons,length_nil,Nat.reduceAdd,Nat.reduceSub,Array.replicate_succ,Array.replicate_zero,List.push_toArray,List.append_toArray,List.nil_append,List.cons_append];apply wpS_seq;apply wpS_region;simp [wpOpsS,go_sem,recoverD,h,Exit.thenS];refine wpS_of_wp ?_
 go_wp2_with fail
 exact ⟨rfl,_,rfl,_,results_none rfl _ _ _,rfl,h,rfl⟩
def Qa5 (o:Option (Pit × List UInt8))(L:Nat)(w:World)(e:Ending)(w':World):Prop :=
 match o with
 | none=>e=.returned (.tuple #[.agg #[.bool false,.slice none 0 0,.slice none 0 0],.int .i64 0,.int .i64 1])/\Below w.heap.size w w'
 | some (p,r)=>∃ it,e=.returned (.tuple #[.agg (Q0j it).toArray,.int .i64 ((L - r.length:Nat):Int),.int .i64 0])/\Below w.heap.size w w'/\Fp (fun x=>w.heap.size<=x) w' it/\erI it=p/\Q40 it
theorem Qag (L:Nat)(w:World):Qa5 none L w=fun e w'=>e=.returned (.tuple #[.agg #[.bool false,.slice none 0 0,.slice none 0 0],.int .i64 0,.int .i64 1])/\Below w.heap.size w w':=rfl
theorem Q5u (p:Pit)(r:List UInt8)(L:Nat)(w:World):Qa5 (some (p,r)) L w=fun e w'=>∃ it,e=.returned (.tuple #[.agg (Q0j it).toArray,.int .i64 ((L - r.length:Nat):Int),.int .i64 0])/\Below w.heap.size w w'/\Fp (fun x=>w.heap.size<=x) w' it/\erI it=p/\Q40 it:=rfl
theorem Ql0 (n:Nat)(a:Option Addr)(L c:Nat)(b:List UInt8)(hL:b.length=L)(hn:L<=n)(bo:L<=1048576)(w:World)(h:Q02 w (.slice a L c) b) :
  Calls Tryz.prog 84 #[.slice a L c] w (Qa5 (par n b) L w):=by
 have bq:∀ (fn:Fn) (first cap:Array Value) (w:World),(Instr.makeFunc fn first cap).run Tryz.prog w=.ok (.func fn first cap) w:=fun _ _ _ _=>rfl;have U:=fun (g:Nat) (u:World) (hB:Blk 160 u g [.slice a L c]) (hb:Q02 u (.slice a L c) b)=>Qdu n b (by omega) (by omega) a L c g u hL hB hb;have HL:=Qhd hL;clear hL;obtain ⟨T,a0⟩:=Qe (((w.alloc (.cells #[.bool false,.slice none 0 0,.slice none 0 0] 77)).alloc (.cells #[.int .i64 0] 3)).alloc (.cells #[.int .i64 0] 33));have h2:Blk 77 T w.heap.size [.bool false,.slice none 0 0,.slice none 0 0]:=by rw [a0];exact ((D01 w 77 [.bool false,.slice none 0 0,.slice none 0 0]).alloc _).alloc _
 have h3:Blk 3 T (w.heap.size+1) [.int .i64 0]:=by
  have:=(D01 (w.alloc (.cells #[.bool false,.slice none 0 0,.slice none 0 0] 77)) 3 [.int .i64 0]).alloc (.cells #[.int .i64 0] 33);rw [a0];simpa using this
 have h4:Blk 33 T (w.heap.size+1+1) [.int .i64 0]:=by
  have:=D01 ((w.alloc (.cells #[.bool false,.slice none 0 0,.slice none 0 0] 77)).alloc (.cells #[.int .i64 0] 3)) 33 [.int .i64 0];rw [a0];simpa using this
 have aq:Below w.heap.size w T:=by rw [a0];exact ((Qba _ _).alloc (by simp) _).alloc (by simp<;>omega) _
 have aQ:=Qhd a0;have b1:=h.below aq;have bg:=aq.size;have b0:T.heap.size=w.heap.size+1+1+1:=by rw [a0];simp
 have ac:Blk 160 (T.alloc (.cells #[.slice a L c] 160)) (w.heap.size+1+1+1) [.slice a L c]:=by rw [<-b0];exact D01 T 160 [.slice a L c]
 have ab:=h2.alloc (.cells #[.slice a L c] 160);have aj:=h3.alloc (.cells #[.slice a L c] 160);have am:=h4.alloc (.cells #[.slice a L c] 160);have S:=aq.alloc bg (.cells #[.slice a L c] 160);have q4:=h4.lt;obtain ⟨w2,aI⟩:=Qe (T.alloc (.cells #[.slice a L c] 160));rw [<-aI] at ac ab aj am S;have aR:=Qhd aI;clear a0 b0 aI h2 h3 h4 aq b1;cases hp:par n b with
 | none =>
  simp only [hp,Q5x] at U;have Hc:=Qhd U;clear U hp
  go_enter_defers Tryz.func84,Tryz.ntmps84
  go_wp2_with fail
  rw [<-aQ.out,<-aR.out]
  go_wp2_with (go_at_call 115;(with_reducible refine (Hc.out _ w2 ac (h.below S)).mono ?_);rintro e w4 ⟨rfl,O⟩;have ai:=ab.grown O (by simp<;>omega);have ak:=aj.grown O (by simp<;>omega);have an:=am.grown O (by simp<;>omega);have ar:=S.grown O S.size (fun y hy=>by cases hy;omega))
  refine leaves_cons (f:=114) (args:=#[.pointer (some ⟨w.heap.size,0,none⟩),.pointer (some ⟨w.heap.size+1,0,none⟩),.pointer (some ⟨w.heap.size+1+1,0,none⟩)]) (by simp) (by simp [go_sem]) ?_;refine (Qo3 w.heap.size (w.heap.size+1) (w.heap.size+1+1) _ _ _ w4 ai rfl ak an (by omega) (by omega) (by omega) w.heap.size w ar (by omega) (by omega) (by omega)).mono ?_;rintro e u' w5 ⟨rfl,rfl,a7,al,ao,au⟩;have k0:=a7.cell 0;have k1:=a7.cell 1;have k2:=a7.cell 2;have k3:=al.cell 0;have k4:=ao.cell 0;simp only [List.getElem?_cons_zero,List.getElem?_cons_succ] at k0 k1 k2 k3 k4;simp [Leaves,settle,results,Tryz.results84,go_sem,k0,k1,k2,k3,k4];exact ⟨rfl,au⟩
 | some pr =>
  obtain ⟨p,r⟩:=pr;have bf:=Qfv hp;simp only [hp,Q5w] at U;obtain ⟨N,ap⟩:=Qe (r.length);rw [<-ap,HL.out] at bf;simp only [<-ap] at U;have Hc:=Qhd U;have bh:IntKind.i64.wrap ((L:Int) - (N:Int))=((L - N:Nat):Int):=by rw [show (L:Int) - (N:Int)=((L - N:Nat):Int) from by omega];exact IntWalk.i64_in _ (by omega)
  obtain ⟨D,hD⟩:=Qe (L - N);rw [<-hD] at bh;rw [Q5u,<-ap,<-hD];clear U hp ap hD
  go_enter_defers Tryz.func84,Tryz.ntmps84
  go_wp2_with fail
  rw [<-aQ.out,<-aR.out]
  go_wp2_with (first
   |(go_at_call 115;(with_reducible refine (Hc.out _ w2 ac (h.below S)).mono ?_);rintro e w4 ⟨it,a5,c5,rfl,s5,B5,O,F5,aZ,aX⟩;have ai:=ab.grown O (by simp<;>omega);have ak:=aj.grown O (by simp<;>omega);have an:=am.grown O (by simp<;>omega);have ar:=S.grown O S.size (fun y hy=>by cases hy;omega);obtain ⟨l,tv,t,kv,ks⟩:=it;obtain ⟨I,J,rfl,_,_⟩:=F5.is.inv.1.form;obtain ⟨E,G,rfl,_,_⟩:=F5.is.inv.2.1.form;obtain ⟨M,aH⟩:=Qe (t.length);obtain ⟨H,aG⟩:=Qe (ks.length);rw [<-aH,<-aG] at F5 aZ aX;rw [<-aH,<-aG];clear aH aG;simp only [Q0j];have q2:=ab.lt;have q5:=ac.lt)
   |((with_reducible refine Qgs 9 ?_);refine Qsa 77 2 9 w.heap.size [.bool l,.slice I M J,.slice E H G] Q09 ai (by rfl) (by rfl) (by intro u W;simp at W;rcases W with rfl|rfl|rfl<;>rfl) ar (le_refl _) ?_;intro w5 a7 au g5))
  have al:=ak.grown g5 (by simp<;>omega);have ao:=an.grown g5 (by simp<;>omega);have B6:=B5.grown g5 (by simp<;>omega);have F6:Fp (fun x=>w2.heap.size<=x) w5 (.mk l (.slice I M J) t (.slice E H G) ks):=F5.to g5.size (fun x hx V=>⟨g5.block x V (by simp<;>omega),hx⟩);clear ab aj am ac S ai ak an B5 F5 g5 O ar s5;refine Q1g (fun aa b w'=>b=(((((((aa.put (some 10) (.agg #[.bool l,.slice I M J,.slice E H G])).put (some 11) (.slice a L c)).put (some 12) (.int .i64 (L:Int))).put (some 13) (.pointer (some ⟨w.heap.size+1+1+1,0,none⟩))).put (some 14) (.slice a5 N c5)).put (some 15) (.int .i64 (N:Int))).put (some 16) (.int .i64 (D:Int))) /\
   Blk 77 w' w.heap.size [.bool l,.slice I M J,.slice E H G]/\Blk 3 w' (w.heap.size+1) [.int .i64 (D:Int)]/\Blk 33 w' (w.heap.size+1+1) [.int .i64 0]/\Below w.heap.size w w'/\Fp (fun x=>w.heap.size<=x) w' (.mk l (.slice I M J) t (.slice E H G) ks)) ?_ ?_
  ·refine Q0w ((fun u=>Blk 77 u w.heap.size [.bool l,.slice I M J,.slice E H G]/\Blk 160 u (w.heap.size+1+1+1) [.slice a5 N c5])) (by kernel_rfl) ?_;intro u0 Z;simp only [length_cons,length_nil,Nat.reduceAdd,List.replicate_succ,List.replicate_zero];have aT:Blk 77 u0 w.heap.size [.bool l,.slice I M J,.slice E H G]:=by rw [Z];exact a7.drew
   have ba:Blk 3 u0 (w.heap.size+1) [.int .i64 0]:=by rw [Z];exact al.drew
   have bc:Blk 33 u0 (w.heap.size+1+1) [.int .i64 0]:=by rw [Z];exact ao.drew
   have B7:Blk 160 u0 (w.heap.size+1+1+1) [.slice a5 N c5]:=by rw [Z];exact B6.drew
   have F7:Fp (fun x=>w2.heap.size<=x) u0 (.mk l (.slice I M J) t (.slice E H G) ks):=by rw [Z];exact F6.to (le_refl _) (fun x hx V=>⟨rfl,hx⟩)
   have aY:Below w.heap.size w u0:=by rw [Z];exact au.drew
   have hS:(fun u=>Blk 77 u w.heap.size [.bool l,.slice I M J,.slice E H G]/\Blk 160 u (w.heap.size+1+1+1) [.slice a5 N c5]) u0:=⟨aT,B7⟩;have k3:∀ u:In (fun u=>Blk 77 u w.heap.size [.bool l,.slice I M J,.slice E H G]/\Blk 160 u (w.heap.size+1+1+1) [.slice a5 N c5]),u.val.cell? ⟨w.heap.size+1+1+1,0,none⟩=some (.slice a5 N c5):=fun u=>(u.held.2.cell 0).trans rfl;clear Z a7 al ao F6 au B6
   (refine Qtk 0 (fun K z=>?_);simp only [Qzs] at z;refine Q78 (by rfl) 77 (.tmp 2) (by rfl) (w.heap.size) (by rfl) Q09 (fun u W=>W.1) (by rfl) (z _ ?_);clear z K;simp only [Act.put,List.getElem_toArray,getElem_cons_zero,List.getElem_cons_succ,List.setIfInBounds_toArray,List.set_cons_zero,List.set_cons_succ])
   refine Qtk 1 (fun K z=>?_);simp only [Qzs] at z;go_simp;(first|refine z _ ?_|refine ⟨_,fun _=>rfl,z _ ?_⟩);clear z K;refine Qtk 2 (fun K z=>?_);simp only [Qzs] at z;go_simp;(first|refine z _ ?_|refine ⟨_,fun _=>rfl,z _ ?_⟩);clear z K;refine Qtk 3 (fun K z=>?_);simp only [Qzs] at z;go_simp;(first|refine z _ ?_|refine ⟨_,fun _=>rfl,z _ ?_⟩);clear z K;refine Qtk 4 (fun K z=>?_);simp only [Qzs] at z;go_simp;(first|refine z _ ?_|refine ⟨_,fun _=>rfl,z _ ?_⟩);clear z K;refine Qtk 5 (fun K z=>?_);simp only [Qzs] at z;go_simp;(first|refine z _ ?_|refine ⟨_,fun _=>rfl,z _ ?_⟩);clear z K;refine Qtk 6 (fun K z=>?_);simp only [Qzs] at z;go_simp;(first|refine z _ ?_|refine ⟨_,fun _=>rfl,z _ ?_⟩);clear z K;clear k3;refine Q0f 7 (by rfl) (by kernel_rfl) (fun K z=>?_);refine Q1j (by rfl) 77 (.tmp 2) (.tmp 10) (by rfl) w.heap.size [.bool l,.slice I M J,.slice E H G] (by rfl) (by rfl) Q09 aT (by rfl) (by rfl) (by intro u W;simp at W;rcases W with rfl|rfl|rfl<;>rfl) (fun w7 aU _ g7=>?_);have B8:=B7.grown g7 (by simp<;>omega);have ax:=ba.grown g7 (by simp<;>omega);have bd:=bc.grown g7 (by simp<;>omega);have be:=aY.grown g7 aY.size (fun y hy=>by cases hy;omega);have F8:=F7.to g7.size (fun x hx V=>⟨g7.block x V (by simp<;>omega),hx⟩);refine z _ _ ⟨aU,B8⟩ ?_;clear z K;have c3:w7.cell? ⟨w.heap.size+1,0,none⟩=some (.int .i64 0):=ax.cell 0;have f3:=ax.free 0;have aA:=bd.other ⟨w.heap.size+1,0,none⟩ (by simp<;>omega) (.int .i64 (D:Int));have bb:=ax.set 0 (.int .i64 (D:Int));have aV:=aU.other ⟨w.heap.size+1,0,none⟩ (by simp<;>omega) (.int .i64 (D:Int));have B9:=B8.other ⟨w.heap.size+1,0,none⟩ (by simp<;>omega) (.int .i64 (D:Int))
   (refine Q0f 8 (by rfl) (by kernel_rfl) (fun K z=>?_);simp only [Qzs] at z;go_simp)
   refine z _ _ ⟨aV,B9⟩ ?_;clear z K;have c4:(w7.setCell ⟨w.heap.size+1,0,none⟩ (.int .i64 (D:Int))).cell? ⟨w.heap.size+1+1,0,none⟩=some (.int .i64 0):=aA.cell 0;have f4:=aA.free 0;have a8:=aV.other ⟨w.heap.size+1+1,0,none⟩ (by simp<;>omega) (.int .i64 0);have ay:=bb.other ⟨w.heap.size+1+1,0,none⟩ (by simp<;>omega) (.int .i64 0);have aB:=aA.set 0 (.int .i64 0);have b4:=B9.other ⟨w.heap.size+1+1,0,none⟩ (by simp<;>omega) (.int .i64 0)
   (refine Q0f 9 (by rfl) (by kernel_rfl) (fun K z=>?_);simp only [Qzs] at z;go_simp)
   refine z _ _ ⟨a8,b4⟩ ?_;clear z K;have aF:=(be.setCell (by show w.heap.size<=w.heap.size+1;omega) (.int .i64 (D:Int)) (p:=⟨w.heap.size+1,0,none⟩)).setCell (by show w.heap.size<=w.heap.size+1+1;omega) (.int .i64 0) (p:=⟨w.heap.size+1+1,0,none⟩);have aD:Fp (fun x=>w.heap.size<=x) ((w7.setCell ⟨w.heap.size+1,0,none⟩ (.int .i64 (D:Int))).setCell ⟨w.heap.size+1+1,0,none⟩ (.int .i64 0)) (.mk l (.slice I M J) t (.slice E H G) ks):=by
    refine F8.to (by simp) (fun x hx V=>⟨?_,by omega⟩);rw [(Q0s (g:=w.heap.size+1+1) 0 (.int .i64 0)).block x (by simpa using V) (by simp<;>omega),(Q0s (g:=w.heap.size+1) 0 (.int .i64 (D:Int))).block x V (by simp<;>omega)]
   exact Q11 (by kernel_rfl) ⟨rfl,rfl,a8,ay,aB,aF,aD⟩
  rintro b w9 ⟨rfl,a8,ay,aB,aF,aD⟩;simp only [Act.put,Qzs]
  go_wp2_with fail
  refine leaves_cons (f:=114) (args:=#[.pointer (some ⟨w.heap.size,0,none⟩),.pointer (some ⟨w.heap.size+1,0,none⟩),.pointer (some ⟨w.heap.size+1+1,0,none⟩)]) (by simp) (by simp [go_sem]) ?_;refine (Qk5 w.heap.size (w.heap.size+1) (w.heap.size+1+1) _).mono ?_;rintro e u' bx ⟨rfl,rfl,rfl⟩;have k0:=a8.cell 0;have k1:=a8.cell 1;have k2:=a8.cell 2;have k3:=ay.cell 0;have k4:=aB.cell 0;simp only [List.getElem?_cons_zero,List.getElem?_cons_succ,List.set_cons_zero] at k0 k1 k2 k3 k4;simp [Leaves,settle,results,Tryz.results84,go_sem,k0,k1,k2,k3,k4];exact ⟨.mk l (.slice I M J) t (.slice E H G) ks,rfl,aF,aD,aZ,aX⟩
end Go.Proofs.YtbdmkfjgnjfjbaaGreat
