/- block.ListCheck. | The reference's showDown, ICheck. | The reference's ICheck. | The reference's BListCheck. | How an account, a slice of holders, an address th -/
import Derived.Test.YtbdmkfjgnjfjbaaGreatBlockListsK31
import Derived.Test.YtbdmkfjgnjfjbaaGreatBlockListsK29
import Derived.Test.YtbdmkfjgnjfjbaaGreatBlockListsK28
import Derived.Test.YtbdmkfjgnjfjbaaGreatBlockListsK24
import Derived.OpenShut
set_option linter.unusedSimpArgs false
set_option linter.unusedVariables false
set_option maxHeartbeats 4000000
set_option maxRecDepth 100000
open List (drop_nil filter_nil getElem?_map length_map map_cons take_nil take_succ_cons take_zero)
open Nat (le_refl le_succ)
namespace Go.Proofs.YtbdmkfjgnjfjbaaGreat
open Go.RowKit
def lcQ (r:List UInt8 × Int):List UInt8 × Int:=if r.2=0 then (if r.1=[] then (Q5y 32,0) else if r.1.length=32 then (r.1,0) else (Q5y 32,1)) else (Q5y 32,r.2)
def lcP (h:List UInt8)(C:List (List UInt8))(i:Int):List UInt8 × Int:=if i<0 then (Q5y 32,31) else lcQ (chk h (numB i.toNat) C)
theorem Qsh (h:List UInt8)(C:List (List UInt8))(i:Int):(lcP h C i).1.length=32:=by
 unfold lcP lcQ;split
 ·rfl
 split
 ·split
  ·rfl
  split
  ·assumption
  rfl
 rfl
def TpL (V:List UInt8)(E:Int):Ty:=fun v w=>∃ a n c,v=.tuple #[.slice a n c,.int .i64 E]/\Q02 w (.slice a n c) V
theorem TpL.mono (V:List UInt8)(E:Int):Mono (TpL V E):=fun _ _ _ ⟨a,n,c,h1,h2⟩ hb=>⟨a,n,c,h1,Q05.kept h2 hb⟩
def SlL (V:List UInt8):Ty:=fun v w=>∃ a n c,v=.slice a n c/\Q02 w (.slice a n c) V
theorem SlL.mono (V:List UInt8):Mono (SlL V):=fun _ _ _ ⟨a,n,c,h1,h2⟩ hb=>⟨a,n,c,h1,Q05.kept h2 hb⟩
def Q5a (R:List UInt8 × Int)(w:World)(e:Ending)(w':World):Prop:=e=.returned (.tuple #[.agg (by8 R.1).toArray,.int .i64 R.2])/\Below w.heap.size w w'
theorem Qcf (St:List UInt8)(a6:St.length=32)(i:Int)(hi:i<=9223372036854775807)(ca:Option Addr)(cN cc:Nat)(ps:List (Value × List UInt8))(al:ps.length=cN)(w:World)(hc:Q12 w (.slice ca cN cc) ps)(hN:cN<=1048576)(ag:∀ q∈ps,q.2.length<=1048576) :
  Calls Tryz.prog 26 #[.agg (by8 St).toArray,.int .i64 i,.slice ca cN cc] w (Q5a (lcP St (ps.map (·.2)) i) w):=by
 obtain ⟨N,T⟩:=Qe ((w.alloc (.cells (by8 St).toArray 30)).alloc (.cells zh.toArray 30));have hs:Blk 30 N w.heap.size (by8 St):=by rw [T];exact (D01 w _ _).alloc _
 have hz:Blk 30 N (w.heap.size+1) zh:=by
  have:=D01 (w.alloc (.cells (by8 St).toArray 30)) 30 zh;simp only [World.size_alloc] at this;rw [T];exact this
 have aj:Below w.heap.size w N:=by rw [T];exact (Qba _ _).alloc (by simp) _
 have W:N=(w.alloc (.cells (by8 St).toArray 30)).alloc (.cells #[.int .u8 0,.int .u8 0,.int .u8 0,.int .u8 0,.int .u8 0,.int .u8 0,.int .u8 0,.int .u8 0,.int .u8 0,.int .u8 0,.int .u8 0,.int .u8 0,.int .u8 0,.int .u8 0,.int .u8 0,.int .u8 0,.int .u8 0,.int .u8 0,.int .u8 0,.int .u8 0,.int .u8 0,.int .u8 0,.int .u8 0,.int .u8 0,.int .u8 0,.int .u8 0,.int .u8 0,.int .u8 0,.int .u8 0,.int .u8 0,.int .u8 0,.int .u8 0] 30):=T;have h:zh.length=32:=rfl;have aP:by8 (Q5y 32)=zh:=rfl;have a':∀ u∈zh,u.oneCell'=true:=by intro u hu;rw [List.eq_of_mem_replicate hu];rfl
 have a5:(by8 St).length=32:=by rw [Q59];exact a6
 by_cases hneg:i<0
 ·have e:lcP St (ps.map (·.2)) i=(Q5y 32,31):=if_pos hneg;rw [e];obtain ⟨SC,O⟩:=Qe (by8 St);rw [<-O] at W |-;have ab:=Qhd W;have Z:=hz;have S:=aj;clear W T e hs O a5 hc hN ag al a6;go_enter Tryz.func26,Tryz.ntmps26
  go_wp2_with (first
   |(rw [<-ab.out])
   |((with_reducible refine Qgs 12 ?_);refine Qsa 30 6 12 (w.heap.size+1) zh Q0g Z h h a' S (le_succ _) ?_;intro w8 G I _))
  exact bodyPost_ret (v:=.tuple #[.agg zh.toArray,.int .i64 31]) (Q01 rfl _ _ (w.heap.size+1) Q0g G h rfl rfl) rfl ⟨rfl,I⟩
 have e:lcP St (ps.map (·.2)) i=lcQ (chk St (numB i.toNat) (ps.map (·.2))):=if_neg hneg;rw [e];obtain ⟨k,rfl⟩:∃ k:Nat,i=(k:Int):=⟨i.toNat,by omega⟩;have aH:k<=9223372036854775807:=by omega
 clear e;have aL:¬ ((k:Int)<0):=by omega
 rw [show ((k:Int)).toNat=k from Int.toNat_natCast k];have cn:=fun u=>Q93 k (by omega) u;obtain ⟨KB,av⟩:=Qe (numB k);rw [<-av] at cn |-;obtain ⟨kn,am⟩:=Qe (KB.length);have c1:=fun (a:Option Addr) (c:Nat) u (hk:Q02 u (.slice a kn c) KB) (hu:Below N.heap.size N u)=>Qo1 St a6 a kn c KB am.symm ca cN cc ps al u hk ((hc.below aj).below hu) hN ag;obtain ⟨R,hR⟩:=Qe (chk St KB (ps.map (·.2)));simp only [<-hR] at c1 |-;obtain ⟨V,E⟩:=R;unfold Qa6 at c1;dsimp only at c1;obtain ⟨SC,O⟩:=Qe (by8 St);change ∀ (a:Option Addr) (c:Nat) u,_->_->Calls Tryz.prog 71 #[.agg (by8 St).toArray,_,_] _ _ at c1;simp only [<-O] at c1;rw [<-O] at W hs a5 |-;have aC:=Qhd a5;have aB:=Qhd am.symm;have ab:=Qhd W;have C1:=Qhd c1;have Cn:=Qhd cn;have S1:=Qhd hs.all0;clear W T c1 cn hR O a5 a6 al hc hN ag av am hs hneg hi aH;go_enter Tryz.func26,Tryz.ntmps26;go_upto_region 3 with (rw [<-ab.out])
 refine Q03 N 10 (by kernel_rfl) (by kernel_rfl) (Below.refl _ _) ?_;simp only [take_succ_cons,take_zero,take_nil]
 (refine Q06 (by rfl) (fun K H=>?_);rw [if_pos (by rfl)];refine ⟨_,fun u=>Q16 _ (.tmp 3) (by rfl) _ _ (by rfl) Q0g aC.out (rangeAt.ext S1.out u),H _ ?_⟩;clear H K;simp only [Act.put,Qzs])
 (refine Q06 (by rfl) (fun K H=>?_);go_simp;refine H _ ?_;clear H K)
 refine Q0e 16 (FrT 0 KB) rfl (of_decide_eq_true rfl) (FrT.mono _ _) (fun D U=>?_) ?_
 ·simp only [Q18,filter_nil,Q00];refine ⟨rfl,?_⟩;go_simp;refine (Cn.out D).mono ?_;rintro e w8 ⟨v,rfl,o8,b8⟩;exact ⟨v,rfl,o8.lower (Nat.zero_le _),b8⟩
 (refine Q06 (by rfl) (fun K H=>?_);go_simp;refine H _ ?_;clear H K)
 refine Q0e 18 (TpL V E) rfl (of_decide_eq_true rfl) (TpL.mono _ _) (fun D U=>?_) ?_
 ·change Q00 D [(16,_)] _ _;intro vk hk;obtain ⟨ka,kc,rfl,_⟩:=hk.1.form' kn aB.out;simp only [Q00];refine ⟨rfl,?_⟩;go_simp;refine (C1.out _ _ D hk.1 U).mono ?_;rintro e w8 ⟨va,y,J,rfl,b8,z⟩;exact ⟨_,rfl,⟨va,y,J,rfl,z⟩,b8⟩
 refine Q0e 13 (TpL V E) rfl (of_decide_eq_true rfl) (TpL.mono _ _) (fun D U=>?_) ?_
 ·change Q00 D [(18,_)] _ _;rintro v ⟨va,y,J,rfl,z⟩;simp only [Q00];refine ⟨rfl,?_⟩;go_simp;exact ⟨Below.refl _ _,_,_,_,rfl,z⟩
 refine Q0e 19 (SlL V) rfl (of_decide_eq_true rfl) (SlL.mono _) (fun D U=>?_) ?_
 ·change Q00 D [(13,_)] _ _;rintro v ⟨va,y,J,rfl,z⟩;simp only [Q00];refine ⟨rfl,?_⟩;go_simp;exact ⟨Below.refl _ _,_,_,_,rfl,z⟩
 refine Q3a (.int .i64 E) (fun D U=>?_) ?_
 ·change Q00 D [(13,_)] _ _;rintro v ⟨va,y,J,rfl,z⟩;simp only [Q00];refine ⟨rfl,?_⟩;go_simp;exact Below.refl _ _
 refine Q0e 8 (SlL V) rfl (of_decide_eq_true rfl) (SlL.mono _) (fun D U=>?_) ?_
 ·change Q00 D [(19,_)] _ _;rintro v ⟨va,y,J,rfl,z⟩;simp only [Q00];refine ⟨rfl,?_⟩;go_simp;exact ⟨Below.refl _ _,_,_,_,rfl,z⟩
 (refine Q06 (by rfl) (fun K H=>?_);go_simp;refine H _ ?_;clear H K)
 refine Q0i ?_;intro u2 ax aT _ aU _ aS _ aV _ v8 G;change Q00 u2 [] _ _;simp only [Q00,List.drop_succ_cons,List.drop_zero,drop_nil];obtain ⟨va,y,J,rfl,z⟩:=G;have Z:=Blk.kept hz ax;have S:=D00 aj ax;have M:V.length=y:=z.fits.1.symm;have Hv:=Qhd z;clear z S1 hz
 try simp only [Act.put,Qzs]
 by_cases hE:E=0
 ·subst hE;by_cases h0:V=[]
  ·subst h0;obtain rfl:y=0:=by rw [<-M];rfl
   have L:Hid (lcQ ([],0)=(Q5y 32,0)):=Qhd rfl
   go_wp2_with ((with_reducible refine Qgs 29 ?_);refine Qsa 30 6 29 (w.heap.size+1) zh Q0g Z h h a' S (le_succ _) ?_;intro w8 G I _)
   exact bodyPost_ret (v:=.tuple #[.agg zh.toArray,.int .i64 0]) (Q01 rfl _ _ (w.heap.size+1) Q0g G h rfl rfl) rfl (by unfold Q5a;rw [L.out];exact ⟨rfl,I⟩)
  have ay:y≠0:=fun e=>h0 (List.eq_nil_of_length_eq_zero (by omega));have aI:(0:Int)<(y:Int):=by omega
  have aN:((y:Int)==0)=false:=beq_eq_false_iff_ne.2 (by omega);by_cases h32:y=32
  ·subst h32;have L:Hid (lcQ (V,0)=(V,0)):=Qhd (by unfold lcQ;rw [if_pos rfl,if_neg h0,if_pos M]);obtain ⟨b9,o9,rfl,an⟩:=Q4l Hv.out (by omega);have aM:∀ x,(Instr.arrayAt 30 (.slice (some ⟨b9,o9,none⟩) 32 J)).run Tryz.prog x=.ok (.pointer (some ⟨b9,o9,none⟩)) x:=fun x=>Q4c (P:=Tryz.prog) (t:=30) (e:=5) (n:=32) (by kernel_rfl) _ 32 J (le_refl _) x;have ai:=Qhd (Q8j V);have a7:(by8 V).length=32:=by rw [Q59];exact M
   change u2.rangeAt b9 o9 (by8 V) at an;obtain ⟨VC,ah⟩:=Qe (by8 V);change Hid (∀ u∈by8 V,u.oneCell'=true) at ai;rw [<-ah] at an ai a7;have aD:=Qhd ah;clear ah ay aI h0 M
   go_wp2_with (first
    |((with_reducible refine Qgl 38 ?_);refine Qlw 30 37 b9 o9 Q0g a7 an ?_)
    |((with_reducible refine Qgs 38 ?_);refine Qsa 30 6 38 (w.heap.size+1) VC Q0g Z a7 h ai.out S (le_succ _) ?_;intro w8 G I _))
   exact bodyPost_ret (v:=.tuple #[.agg VC.toArray,.int .i64 0]) (Q01 rfl _ _ (w.heap.size+1) Q0g G a7 rfl rfl) rfl (by unfold Q5a;rw [L.out];exact ⟨by rw [aD.out],I⟩)
  have L:Hid (lcQ (V,0)=(Q5y 32,1)):=Qhd (by unfold lcQ;rw [if_pos rfl,if_neg h0,if_neg (by rw [M];exact h32)]);have aO:((y:Int)==32)=false:=beq_eq_false_iff_ne.2 (by omega);clear ay h0 M
  go_wp2_with ((with_reducible refine Qgs 35 ?_);refine Qsa 30 6 35 (w.heap.size+1) zh Q0g Z h h a' S (le_succ _) ?_;intro w8 G I _)
  exact bodyPost_ret (v:=.tuple #[.agg zh.toArray,.int .i64 1]) (Q01 rfl _ _ (w.heap.size+1) Q0g G h rfl rfl) rfl (by unfold Q5a;rw [L.out];exact ⟨rfl,I⟩)
 have aK:(E==0)=false:=beq_eq_false_iff_ne.2 hE;have L:Hid (lcQ (V,E)=(Q5y 32,E)):=Qhd (by unfold lcQ;exact if_neg hE);clear M
 go_wp2_with ((with_reducible refine Qgs 29 ?_);refine Qsa 30 6 29 (w.heap.size+1) zh Q0g Z h h a' S (le_succ _) ?_;intro w8 G I _)
 exact bodyPost_ret (v:=.tuple #[.agg zh.toArray,.int .i64 E]) (Q01 rfl _ _ (w.heap.size+1) Q0g G h rfl rfl) rfl (by unfold Q5a;rw [L.out];exact ⟨rfl,I⟩)
theorem Q05.from0 {α:Type}{f:α->List Value}{P:Program}{t e:TypeId}{z:Value}{size bytes:Nat}(el:El0 P t e z size bytes f){w:World}{a:Option Addr}{n c:Nat}{l:List α}(h:Q05 f size w (.slice a n c) l)(lo:Nat)(h1:lo<=n)(x:Int)(hx:x=lo) :
    ∃ y D,(∀ k w',(Instr.slice t (.slice a n c) (some (.int k x)) none none).run P w'=.ok (.slice y (n - lo) D) w')/\Q05 f size w (.slice y (n - lo) D) (l.drop lo):=by
  subst hx;obtain ⟨J,M,L⟩:=h.fits;obtain ⟨y,D,G,H⟩:=h.part el.hf el.hsz lo n h1 (le_refl _);obtain ⟨i,I,_,K,_⟩:=el.info;have E:P.elem t=e:=by unfold Program.elem;rw [el.ht]
  refine ⟨y,D,fun k w'=>?_,by subst J;simpa using H⟩;rw [run_slice_l (P:=P) w' (t:=t) (a:=a) (len:=n) (cap:=c) (by rw [E];exact el.ht) k (lo:Int) (by omega) (by omega)];rw [E];simp [Go.sizeOf,typeInfo,I,K,<-G]
def TupS (R:List UInt8 × Int):Ty:=fun v w=>∃ (a:Option Addr) (n c:Nat),v=.tuple #[.slice a n c,.int .i64 R.2]/\Q02 w (.slice a n c) R.1
theorem TupS.mono (R:List UInt8 × Int):Mono (TupS R):=fun _ _ _ ⟨a,n,c,h,h2⟩ hb=>⟨a,n,c,h,h2.below hb⟩
def SlT (l:List UInt8):Ty:=fun v w=>∃ (a:Option Addr) (n c:Nat),v=.slice a n c/\Q02 w (.slice a n c) l
theorem SlT.mono (l:List UInt8):Mono (SlT l):=fun _ _ _ ⟨a,n,c,h,h2⟩ hb=>⟨a,n,c,h,h2.below hb⟩
theorem Qmc {s:Shq}{q:List UInt8}:(nxtP s q).2.1.length<=q.length:=by
  unfold nxtP;split
  · split<;>simp
  · split
    · split<;>simp
    · split
      · cases q<;>simp
      · simp
theorem Qp4 (h y:List UInt8)(first:Bool)(c:List UInt8)(cs:List (List UInt8)) :
    (sumB c≠h->shw h y first (c::cs)=([],4))/\(sumB c=h->(rdB c=none->shw h y first (c::cs)=([],1))/\∀ s,rdB c=some s->(first=false/\s.1=0->shw h y first (c::cs)=([],1)) /\
      (¬ (first=false/\s.1=0)->((nxtP s y).1=[]->cs≠[]->shw h y first (c::cs)=([],6))/\((nxtP s y).1=[]->cs=[]->shw h y first (c::cs)=((nxtP s y).2.2,0))/\((nxtP s y).1≠[]->shw h y first (c::cs)=shw (nxtP s y).1 (nxtP s y).2.1 false cs))):=by
  refine ⟨fun z=>by unfold shw;rw [if_neg z],fun z=>⟨fun D=>by unfold shw;rw [if_pos z,D],fun s D=>⟨fun E=>?_,fun E=>⟨fun G H=>?_,fun G H=>?_,fun G=>?_⟩⟩⟩⟩
  · unfold shw;rw [if_pos z,D];dsimp only;rw [if_pos E]
  · unfold shw;rw [if_pos z,D];dsimp only;rw [if_neg E,if_pos G,if_neg H]
  · unfold shw;rw [if_pos z,D];dsimp only;rw [if_neg E,if_pos G,if_pos H]
  · conv=>lhs;unfold shw
    rw [if_pos z,D];dsimp only;rw [if_neg E,if_neg G]
theorem Qh6:∀ (ps:List (Value × List UInt8))(H a6:List UInt8)(first:Bool)(ca:Option Addr)(W cc:Nat)(w:World),H.length=32->(∀ x∈a6,x.toNat<16)->a6.length<=1000000000->ps.length=W ->
    Q12 w (.slice ca W cc) ps->W<=1048576->(∀ q∈ps,q.2.length<=1048576) ->
    Calls Tryz.prog 102 #[.agg (H.map u8v).toArray,.string ⟨a6.toArray⟩,.slice ca W cc,.bool first] w (Qa6 (shw H a6 first (ps.map (·.2))) w)
  | [],H,a6,first,ca,W,cc,w,hH,_,_,hcn,_,_,_=>by
    subst hcn;have hR:shw H a6 first (([]:List (Value × List UInt8)).map (·.2))=([],5):=by unfold shw;rfl
    rw [hR];have aL:Below w.heap.size w (w.alloc (.cells (H.map u8v).toArray 30)):=Qba _ _;clear hR;go_enter Tryz.func102,Tryz.ntmps102
    go_wp2_with fail
    go_ret2;exact ⟨none,0,0,rfl,aL,Q05.nil b8 1 _⟩
  | y::ps,H,a6,first,ca,W,cc,w,hH,h16,hll,hcn,hc,hN,hNs=>by
    obtain ⟨C,hC⟩:=Qe (H.map u8v);have bU:C.length=32:=by rw [hC,length_map,hH]
    have qn:=fun ct=>Qh9 (sumB ct) H (Q80 ct) hH;have gn:=fun ct=>Qb2 (sumB ct) H;simp only [<-hC] at qn gn |-;obtain ⟨w1,be⟩:=Qe (w.alloc (.cells C.toArray 30));have hz:Blk 30 w1 w.heap.size C:=by rw [be];exact D01 w _ _
    have aL:Below w.heap.size w w1:=by rw [be];exact Qba _ _
    have ci:=Qhd be;obtain ⟨bc,oc,rfl,bX⟩:=Q05.cells (f:=Q0p) (size:=1) (fun _=>rfl) hc.1 0 (by simp);obtain ⟨am,cm,d2,c6⟩:=Q05.from0 Q1i hc.1 1 (by rw [<-hcn];simp) 1 rfl;have c3:Q12 w (.slice am (W - 1) cm) ps:=⟨by simpa using c6,fun q hq=>hc.2 q (List.mem_cons_of_mem _ hq)⟩;have aR:=hc.2 _ List.mem_cons_self;have bD:=hNs _ List.mem_cons_self;have ih:=fun (H' left':List UInt8) (u:World) (h1:H'.length=32) (h2:∀ x∈left',x.toNat<16) (h3:left'.length<=1000000000) (h4:Q12 u (.slice am (W - 1) cm) ps) =>
      Qh6 ps H' left' false am (W - 1) cm u h1 h2 h3 (by rw [<-hcn];simp) h4 (by omega) (fun q hq=>hNs q (List.mem_cons_of_mem _ hq))
    have hst:=Qp4 H a6 first y.2 (ps.map (·.2))
    have c2:ps.map (·.2)=[]↔W=1:=by
      rw [<-hcn];cases ps<;>simp
    obtain ⟨R,hR⟩:=Qe (shw H a6 first ((y::ps).map (·.2)));rw [<-hR];rw [map_cons] at hR;rw [<-hR] at hst;obtain ⟨cv,ct⟩:=y;dsimp only at aR bD hst hR;have bC:w.cell? ⟨bc,oc,none⟩=some cv:=by simpa using bX 0 cv rfl
    obtain ⟨ac,aa,ae,rfl⟩:∃ a n c,cv=.slice a n c:=by obtain ⟨a,c,h,_,_⟩:=aR.form;exact ⟨a,_,c,h⟩
    have bb:=aR.fits.1;have cV:1<=W:=by rw [<-hcn];simp
    have cW:((W:Int)==0)=false:=by rw [beq_eq_false_iff_ne];omega
    have cY:0<W:=by omega
    have ba:w1.cell? ⟨bc,oc,none⟩=some (.slice ac aa ae):=by rw [aL.cell (p:=⟨bc,oc,none⟩) (World.block_lt_of_cell? w _ bC)];exact bC
    have bY:Q02 w1 (.slice ac aa ae) ct:=aR.below aL;have cK:=c3.below aL;have cs:=fun u (J:Q02 u (.slice ac aa ae) ct)=>Q81 ac aa ae ct bb.symm u J (by omega);have cr:=fun u (J:Q02 u (.slice ac aa ae) ct)=>Qng ac aa ae ct bb.symm (by omega) u J;obtain ⟨SB,bx⟩:=Qe ((sumB ct).map u8v);have cJ:SB.length=32:=by rw [bx,length_map,Q80]
    have bK:=qn ct;have bs:=gn ct;obtain ⟨bq,bB⟩:=Qe ((sumB ct==H));simp only [<-bx,<-bB] at bK bs cs;have Cs:=Qhd cs;have Cr:=Qhd cr;have Qn:=Qhd bK;have Gn:=Qhd bs;have ce:=Qhd bU;have Hz:=Qhd hz;have bN:=Qhd bB;have aO:=Qhd hst;have Ih:=Qhd ih;have aX:=Qhd c2;have bM:=Qhd h16;have bP:=Qhd hll;have bO:=Qhd bb;have cf:=Qhd bD;have k1:=fun u:Ext w1=>u.cell ba;clear be hst ih c2 h16 hll bb bD qn gn bK bs cs cr bB bx cJ bU hC bC bX aR hNs hH hR c3 c6 hc hcn;go_enter Tryz.func102,Tryz.ntmps102
    go_wp2_with fail
    rw [<-ci.out];refine Q03 w1 6 (by kernel_rfl) (by kernel_rfl) (Below.refl _ _) ?_;simp only [take_succ_cons,take_zero,take_nil]
    iterate 3 (refine Q06 (by rfl) (fun K M=>?_);go_simp;refine M _ ?_;clear M K)
    (refine Q06 (by rfl) (fun K M=>?_);go_simp;first|(refine M _ ?_;clear M K)|(apply Exists.intro;refine ⟨fun _=>?_,M _ ?_⟩;exact Cs.out _ (Ext.row _ bY);clear M K))
    (refine Q06 (by rfl) (fun K M=>?_);rw [if_pos (by rfl)];refine ⟨_,fun u=>Q16 _ (.tmp 4) (by rfl) _ _ (by rfl) Q0g ce.out (rangeAt.ext (Blk.all0 Hz.out) u),M _ ?_⟩;clear M K;simp only [Act.put,Qzs])
    (refine Q06 (by rfl) (fun K M=>?_);rw [if_pos (by rfl)];refine ⟨_,fun u=>Qen _ _ _ _ (by rfl) (by rfl) (by rfl) (fun o1 o2 w1=>Gn.out o1 o2 w1) (fun w1=>Qn.out w1),M _ ?_⟩;clear M K;simp only [Act.put,Qzs])
    refine Q0i ?_;intro u2 b9;simp only [List.reverse_nil,Q00];change wpList _ _ _ [] _ _;have al:=D00 aL b9;have ay:=bY.below b9;have cL:=cK.below b9;have cU:u2.cell? ⟨bc,oc,none⟩=some (.slice ac aa ae):=by rw [b9.cell (p:=⟨bc,oc,none⟩) (World.block_lt_of_cell? w1 _ ba)];exact ba
    clear k1 ba;cases bq with
    | false =>
      have N:=aO.out.1 (beq_eq_false_iff_ne.1 bN.out.symm);subst N
      go_wp2_with fail
      go_ret2;exact ⟨none,0,0,rfl,al,Q05.nil b8 1 _⟩
    | true =>
      obtain ⟨bf,bg⟩:=aO.out.2 (beq_iff_eq.1 bN.out.symm);cases hrd:rdB ct with
      | none =>
        have N:=bf hrd;subst N;rw [hrd] at Cr;have aJ:∀ u:World,Q02 u (.slice ac aa ae) ct->Calls Tryz.prog 128 #[.slice ac aa ae] u fun e w'=>Below u.heap.size u w'/\e=.returned (.tuple #[.agg #[.int .i64 0,.slice none 0 0,.slice none 0 0,.slice none 0 0],.int .i64 1]):=Cr.out;have ah:=Qhd aJ;clear bf bg hrd aJ aO
        go_wp2_with (first
          |(go_at_call 128;(with_reducible refine (ah.out _ ay).mono ?_);rintro e z ⟨b3,rfl⟩;have a4:=D00 al b3;have bA:Below z.heap.size z (z.alloc (.cells #[.int .i64 0,.slice none 0 0,.slice none 0 0,.slice none 0 0] 134)):=Qba _ _)
          |((with_reducible refine Qgs 29 ?_);refine Qsa 134 10 29 z.heap.size [.int .i64 0,.slice none 0 0,.slice none 0 0,.slice none 0 0] Q0a (D01 z 134 zsh) (by rfl) (by rfl) (by intro u J;simp at J;rcases J with rfl|rfl<;>rfl) bA (le_refl _) ?_;intro w4 G I _;have a5:=D00 a4 I;have ax:w4.cell? ⟨z.heap.size,0,none⟩=some (.int .i64 0):=(G.cell 0).trans rfl))
        go_ret2;exact ⟨none,0,0,rfl,a5,Q05.nil b8 1 _⟩
      | some s =>
        obtain ⟨bh,bi⟩:=bg s hrd;rw [hrd] at Cr;have ho:=(Qs0 hrd (by rw [<-bO.out];have:=cf.out;have:=bO.out;omega)).1;obtain ⟨kd,pp,vb,Z⟩:=s;dsimp only at bh;have aJ:∀ u:World,Q02 u (.slice ac aa ae) ct->Calls Tryz.prog 128 #[.slice ac aa ae] u fun e w'=>Below u.heap.size u w'/\∃ (D:Option Addr) (E:Nat) (O:Option Addr) (T:Nat) (U:Option Addr) (V:Nat) (qs:List (Value × List UInt8)),e=.returned (.tuple #[.agg #[.int .i64 kd,.slice D pp.length E,.slice O vb.length T,.slice U Z.length V],.int .i64 0]) /\
          Q02 w' (.slice D pp.length E) pp/\Q02 w' (.slice O vb.length T) vb/\Q12 w' (.slice U Z.length V) qs/\qs.map (·.2)=Z:=Cr.out
        have ah:=Qhd aJ;have bZ:kd=0∨kd=1∨kd=2∨kd=3:=by
          rcases Q97 ho with h|h|h|h
          · exact .inl h
          · exact .inr (.inl h)
          · exact .inr (.inr (.inl h.1))
          · exact .inr (.inr (.inr h.1))
        have cw:=fun (u:World) (D:Option Addr) (E:Nat) (hp:Q02 u (.slice D pp.length E) pp)=>Qkj kd D pp.length E pp a6 rfl bP.out u hp bZ;have aN:=Qgu ho a6 bM.out;have an:=Qhu (s:=(kd,pp,vb,Z)) bM.out;have ao:=Qmc (s:=(kd,pp,vb,Z)) (q:=a6);dsimp only at aN;obtain ⟨NX,bw⟩:=Qe (nxtP (kd,pp,vb,Z) a6);obtain ⟨WX,b6⟩:=Qe (wayP kd pp a6);rw [<-bw] at aN bi an ao;rw [<-b6] at aN;simp only [<-b6] at cw;obtain ⟨W1,W2,W3⟩:=WX;obtain ⟨S2,aw⟩:∃ S:ByteArray,S=⟨W2.toArray⟩:=⟨_,rfl⟩;dsimp only at aN cw;simp only [<-aw] at cw;by_cases hz0:first=false/\kd=0
        · have N:=bh hz0;subst N;obtain ⟨rfl,rfl⟩:=hz0;clear bf bg bh bi hrd aJ cw aN an ao bw b6 aO ho
          go_wp2_with (first
            |(go_at_call 128;(with_reducible refine (ah.out _ ay).mono ?_);rintro e z ⟨b3,D,E,O,T,U,V,qs,rfl,a8,aH,ap,a9⟩;have a4:=D00 al b3;have bA:Below z.heap.size z (z.alloc (.cells #[.int .i64 0,.slice none 0 0,.slice none 0 0,.slice none 0 0] 134)):=Qba _ _)
                                         |((with_reducible refine Qgs 29 ?_);refine Qsa 134 10 29 z.heap.size [.int .i64 _,.slice D pp.length E,.slice O vb.length T,.slice U Z.length V] Q0a (D01 z 134 zsh) (by rfl) (by rfl) (by intro u J;simp at J;rcases J with rfl|rfl|rfl|rfl<;>rfl) bA (le_refl _) ?_;intro w4 G I _;have a5:=D00 a4 I;have ax:=(G.cell 0).trans (show _=some (Value.int .i64 _) from rfl);have aG:=(G.cell 1).trans (show _=some (Value.slice D pp.length E) from rfl)))
          go_ret2;exact ⟨none,0,0,rfl,a5,Q05.nil b8 1 _⟩
        · obtain ⟨aB,aA,aI⟩:=bi hz0;have aM:first=true∨(first=false/\(kd==0)=false):=by
            cases first with
            | true=>exact .inl rfl
            | false=>exact .inr ⟨rfl,by rw [beq_eq_false_iff_ne];exact fun e=>hz0 ⟨rfl,e⟩⟩
          clear bf bg bh bi hrd aJ bw b6 aO hz0 bZ ho;rcases aN with ⟨bz,aj,au⟩|⟨k,bz,cH,aj,cB,au,cD,cC⟩
          · subst bz;have Cw:=Qhd cw;clear cw;by_cases hcn2:W=1
            · subst hcn2;have N:=aA aj (aX.out.2 rfl);rw [au] at N;cases W3 with
              | true =>
                simp only [reduceIte] at N;subst N;clear aB aI aA aj au an ao aw;rcases aM with rfl|⟨rfl,aS⟩
                all_goals
                  go_wp2_with (first
                    |(go_at_call 128;(with_reducible refine (ah.out _ ay).mono ?_);rintro e z ⟨b3,D,E,O,T,U,V,qs,rfl,a8,aH,ap,a9⟩;have a4:=D00 al b3;have bA:Below z.heap.size z (z.alloc (.cells #[.int .i64 0,.slice none 0 0,.slice none 0 0,.slice none 0 0] 134)):=Qba _ _)
                                         |((with_reducible refine Qgs 29 ?_);refine Qsa 134 10 29 z.heap.size [.int .i64 _,.slice D pp.length E,.slice O vb.length T,.slice U Z.length V] Q0a (D01 z 134 zsh) (by rfl) (by rfl) (by intro u J;simp at J;rcases J with rfl|rfl|rfl|rfl<;>rfl) bA (le_refl _) ?_;intro w4 G I _;have a5:=D00 a4 I;have ax:=(G.cell 0).trans (show _=some (Value.int .i64 _) from rfl);have aG:=(G.cell 1).trans (show _=some (Value.slice D pp.length E) from rfl))
                    |(go_at_call 120;(with_reducible refine (Cw.out _ D E (a8.below I)).mono ?_);rintro e w5 ⟨rfl,L⟩;have ad:=D00 a5 L;have ab:=G.kept L;have bW:=(ab.cell 2).trans (show _=some (Value.slice O vb.length T) from rfl)))
                  go_ret2;exact ⟨O,_,T,rfl,ad,(aH.below (I.trans (L.mono I.size)))⟩
              | false =>
                simp only [Bool.false_eq_true,reduceIte] at N;subst N;clear aB aI aA aj au an ao aw;rcases aM with rfl|⟨rfl,aS⟩
                all_goals
                  go_wp2_with (first
                    |(go_at_call 128;(with_reducible refine (ah.out _ ay).mono ?_);rintro e z ⟨b3,D,E,O,T,U,V,qs,rfl,a8,aH,ap,a9⟩;have a4:=D00 al b3;have bA:Below z.heap.size z (z.alloc (.cells #[.int .i64 0,.slice none 0 0,.slice none 0 0,.slice none 0 0] 134)):=Qba _ _)
                                         |((with_reducible refine Qgs 29 ?_);refine Qsa 134 10 29 z.heap.size [.int .i64 _,.slice D pp.length E,.slice O vb.length T,.slice U Z.length V] Q0a (D01 z 134 zsh) (by rfl) (by rfl) (by intro u J;simp at J;rcases J with rfl|rfl|rfl|rfl<;>rfl) bA (le_refl _) ?_;intro w4 G I _;have a5:=D00 a4 I;have ax:=(G.cell 0).trans (show _=some (Value.int .i64 _) from rfl);have aG:=(G.cell 1).trans (show _=some (Value.slice D pp.length E) from rfl))
                    |(go_at_call 120;(with_reducible refine (Cw.out _ D E (a8.below I)).mono ?_);rintro e w5 ⟨rfl,L⟩;have ad:=D00 a5 L;have ab:=G.kept L;have bW:=(ab.cell 2).trans (show _=some (Value.slice O vb.length T) from rfl)))
                  go_ret2;exact ⟨none,0,0,rfl,ad,Q05.nil b8 1 _⟩
            · have N:=aB aj (fun e=>hcn2 (aX.out.1 e));subst N;have cF:(1:Int)<(W:Int):=by omega
              clear aB aI aA aj au an ao aw hcn2;rcases aM with rfl|⟨rfl,aS⟩
              all_goals
                go_wp2_with (first
                  |(go_at_call 128;(with_reducible refine (ah.out _ ay).mono ?_);rintro e z ⟨b3,D,E,O,T,U,V,qs,rfl,a8,aH,ap,a9⟩;have a4:=D00 al b3;have bA:Below z.heap.size z (z.alloc (.cells #[.int .i64 0,.slice none 0 0,.slice none 0 0,.slice none 0 0] 134)):=Qba _ _)
                                         |((with_reducible refine Qgs 29 ?_);refine Qsa 134 10 29 z.heap.size [.int .i64 _,.slice D pp.length E,.slice O vb.length T,.slice U Z.length V] Q0a (D01 z 134 zsh) (by rfl) (by rfl) (by intro u J;simp at J;rcases J with rfl|rfl|rfl|rfl<;>rfl) bA (le_refl _) ?_;intro w4 G I _;have a5:=D00 a4 I;have ax:=(G.cell 0).trans (show _=some (Value.int .i64 _) from rfl);have aG:=(G.cell 1).trans (show _=some (Value.slice D pp.length E) from rfl))
                  |(go_at_call 120;(with_reducible refine (Cw.out _ D E (a8.below I)).mono ?_);rintro e w5 ⟨rfl,L⟩;have ad:=D00 a5 L;have ab:=G.kept L;have bW:=(ab.cell 2).trans (show _=some (Value.slice O vb.length T) from rfl)))
                go_ret2;exact ⟨none,0,0,rfl,ad,Q05.nil b8 1 _⟩
          · subst bz;subst cD;have Cw:=Qhd cw;have bl:=Qhd cH;clear cw;have cX:(0:Int)<=(k:Int):=by omega
            rcases cC with aQ|bt
            · have c0:NX.1≠[]:=fun e=>by rw [e] at aQ;simp at aQ
              have N:=aI c0;have cG:(k:Int)<(Z.length:Int):=by omega
              have cI:=fun (u:World) (h4:Q12 u (.slice am (W - 1) cm) ps)=>Ih.out NX.1 NX.2.1 u aQ an (Nat.le_trans ao bP.out) h4;rw [<-N,cB,<-aw] at cI;have CI:=Qhd cI;clear aB aA aI an ao aw cI N c0;rcases aM with rfl|⟨rfl,aS⟩
              all_goals
                go_wp2_with (first
                  |(go_at_call 128;(with_reducible refine (ah.out _ ay).mono ?_);rintro e z ⟨b3,D,E,O,T,U,V,qs,rfl,a8,aH,ap,a9⟩;have a4:=D00 al b3;have bA:Below z.heap.size z (z.alloc (.cells #[.int .i64 0,.slice none 0 0,.slice none 0 0,.slice none 0 0] 134)):=Qba _ _)
                                         |((with_reducible refine Qgs 29 ?_);refine Qsa 134 10 29 z.heap.size [.int .i64 _,.slice D pp.length E,.slice O vb.length T,.slice U Z.length V] Q0a (D01 z 134 zsh) (by rfl) (by rfl) (by intro u J;simp at J;rcases J with rfl|rfl|rfl|rfl<;>rfl) bA (le_refl _) ?_;intro w4 G I _;have a5:=D00 a4 I;have ax:=(G.cell 0).trans (show _=some (Value.int .i64 _) from rfl);have aG:=(G.cell 1).trans (show _=some (Value.slice D pp.length E) from rfl))
                  |(go_at_call 120;(with_reducible refine (Cw.out _ D E (a8.below I)).mono ?_);rintro e w5 ⟨rfl,L⟩;have ad:=D00 a5 L;have ab:=G.kept L;have b':=(ab.cell 3).trans (show _=some (Value.slice U Z.length V) from rfl);obtain ⟨bk,ok,yk,rfl,aT,ag,a7⟩:=Q12.at ((ap.below I).below L) k (by rw [<-length_map (f:=(·.2)),a9];exact bl.out);have az:yk.2=NX.1:=(by rw [aj,<-a9,getElem?_map,aT];rfl);obtain ⟨c9,c8⟩:=yk;dsimp only at az ag a7;subst az;obtain ⟨ak,ck,rfl,_,_⟩:=a7.form;rw [aQ] at ag a7))
                obtain ⟨bn,on,rfl,bG⟩:=Q4l a7 (by omega);have cZ:∀ x,(Instr.arrayAt 30 (.slice (some ⟨bn,on,none⟩) 32 ck)).run Tryz.prog x=.ok (.pointer (some ⟨bn,on,none⟩)) x:=fun x=>Q4c (P:=Tryz.prog) (t:=30) (e:=5) (n:=32) (by kernel_rfl) (some ⟨bn,on,none⟩) 32 ck (le_refl _) x;have j3:=fun u:Ext w5=>u.cell b';have jk:=fun u:Ext w5=>u.cell ag;have cM:=(cL.below (b3.trans (I.mono b3.size))).below L;have bE:(NX.1.map u8v).length=32:=by rw [length_map,aQ]
                obtain ⟨CN,bv⟩:=Qe (NX.1.map u8v);rw [<-bv] at bE bG;have bj:=CI.out;simp only [<-bv] at bj;have c':=Qhd bj;have cg:=Qhd bE;have ch:=Qhd bG;clear ax aG b' ag bj CI bE bG a7 bv;refine Q03 w5 13 (by kernel_rfl) (by kernel_rfl) (Below.refl _ _) ?_;simp only [take_succ_cons,take_zero,take_nil]
                iterate 6 (refine Q06 (by rfl) (fun K M=>?_);go_simp;refine M _ ?_;clear M K)
                (refine Q06 (by rfl) (fun K M=>?_);rw [if_pos (by rfl)];refine ⟨_,fun u=>Q16 _ (.tmp 68) (by rfl) _ _ (by rfl) Q0g cg.out (rangeAt.ext ch.out u),M _ ?_⟩;clear M K;simp only [Act.put,Qzs])
                iterate 3 (refine Q06 (by rfl) (fun K M=>?_);go_simp;refine M _ ?_;clear M K)
                refine Q0e 73 (TupS R) rfl (of_decide_eq_true rfl) (TupS.mono _) (fun w6 bH=>?_) ?_
                · simp only [Q18,filter_nil,Q00];refine ⟨rfl,?_⟩;go_simp;refine (c'.out w6 (cM.below bH)).mono ?_;rintro e w7 ⟨a,n,c,rfl,b7,h7⟩;exact ⟨_,rfl,⟨a,n,c,rfl,h7⟩,b7⟩
                refine Q0e 74 (SlT R.1) rfl (of_decide_eq_true rfl) (SlT.mono _) (fun w6 bH=>?_) ?_
                · change Q00 w6 [(73,_)] _ _;rintro c7 ⟨a,n,c,rfl,h7⟩;simp only [Q00];refine ⟨rfl,?_⟩;go_simp;exact ⟨Below.refl _ _,a,n,c,rfl,h7⟩
                refine Q3a (.int .i64 R.2) (fun w6 bH=>?_) ?_
                · change Q00 w6 [(73,_)] _ _;rintro c7 ⟨a,n,c,rfl,h7⟩;simp only [Q00];refine ⟨rfl,?_⟩;go_simp;exact Below.refl _ _
                refine Q0i ?_;intro u6 cE c7 _ d3 cA;change wpList _ _ _ [_,_] _ _;obtain ⟨a,n,c,rfl,h7⟩:=cA
                go_wp2_with fail
                go_ret2;exact ⟨a,n,c,rfl,D00 ad cE,h7⟩
            · have bV:NX.1=[]:=List.eq_nil_of_length_eq_zero bt;have cG:(k:Int)<(Z.length:Int):=by omega
              by_cases hcn2:W=1
              · subst hcn2;have N:=aA bV (aX.out.2 rfl);rw [au] at N;subst N;clear aB aA aI an ao aw au;rcases aM with rfl|⟨rfl,aS⟩
                all_goals
                  go_wp2_with (first
                    |(go_at_call 128;(with_reducible refine (ah.out _ ay).mono ?_);rintro e z ⟨b3,D,E,O,T,U,V,qs,rfl,a8,aH,ap,a9⟩;have a4:=D00 al b3;have bA:Below z.heap.size z (z.alloc (.cells #[.int .i64 0,.slice none 0 0,.slice none 0 0,.slice none 0 0] 134)):=Qba _ _)
                                         |((with_reducible refine Qgs 29 ?_);refine Qsa 134 10 29 z.heap.size [.int .i64 _,.slice D pp.length E,.slice O vb.length T,.slice U Z.length V] Q0a (D01 z 134 zsh) (by rfl) (by rfl) (by intro u J;simp at J;rcases J with rfl|rfl|rfl|rfl<;>rfl) bA (le_refl _) ?_;intro w4 G I _;have a5:=D00 a4 I;have ax:=(G.cell 0).trans (show _=some (Value.int .i64 _) from rfl);have aG:=(G.cell 1).trans (show _=some (Value.slice D pp.length E) from rfl))
                    |(go_at_call 120;(with_reducible refine (Cw.out _ D E (a8.below I)).mono ?_);rintro e w5 ⟨rfl,L⟩;have ad:=D00 a5 L;have ab:=G.kept L;have b':=(ab.cell 3).trans (show _=some (Value.slice U Z.length V) from rfl);obtain ⟨bk,ok,yk,rfl,aT,ag,a7⟩:=Q12.at ((ap.below I).below L) k (by rw [<-length_map (f:=(·.2)),a9];exact bl.out);have az:yk.2=NX.1:=(by rw [aj,<-a9,getElem?_map,aT];rfl);obtain ⟨c9,c8⟩:=yk;dsimp only at az ag a7;subst az;obtain ⟨ak,ck,rfl,_,_⟩:=a7.form;rw [bt] at ag a7))
                  go_ret2;exact ⟨none,0,0,rfl,ad,Q05.nil b8 1 _⟩
              · have N:=aB bV (fun e=>hcn2 (aX.out.1 e));subst N;have cF:(1:Int)<(W:Int):=by omega
                clear aB aA aI an ao aw au hcn2;rcases aM with rfl|⟨rfl,aS⟩
                all_goals
                  go_wp2_with (first
                    |(go_at_call 128;(with_reducible refine (ah.out _ ay).mono ?_);rintro e z ⟨b3,D,E,O,T,U,V,qs,rfl,a8,aH,ap,a9⟩;have a4:=D00 al b3;have bA:Below z.heap.size z (z.alloc (.cells #[.int .i64 0,.slice none 0 0,.slice none 0 0,.slice none 0 0] 134)):=Qba _ _)
                                         |((with_reducible refine Qgs 29 ?_);refine Qsa 134 10 29 z.heap.size [.int .i64 _,.slice D pp.length E,.slice O vb.length T,.slice U Z.length V] Q0a (D01 z 134 zsh) (by rfl) (by rfl) (by intro u J;simp at J;rcases J with rfl|rfl|rfl|rfl<;>rfl) bA (le_refl _) ?_;intro w4 G I _;have a5:=D00 a4 I;have ax:=(G.cell 0).trans (show _=some (Value.int .i64 _) from rfl);have aG:=(G.cell 1).trans (show _=some (Value.slice D pp.length E) from rfl))
                    |(go_at_call 120;(with_reducible refine (Cw.out _ D E (a8.below I)).mono ?_);rintro e w5 ⟨rfl,L⟩;have ad:=D00 a5 L;have ab:=G.kept L;have b':=(ab.cell 3).trans (show _=some (Value.slice U Z.length V) from rfl);obtain ⟨bk,ok,yk,rfl,aT,ag,a7⟩:=Q12.at ((ap.below I).below L) k (by rw [<-length_map (f:=(·.2)),a9];exact bl.out);have az:yk.2=NX.1:=(by rw [aj,<-a9,getElem?_map,aT];rfl);obtain ⟨c9,c8⟩:=yk;dsimp only at az ag a7;subst az;obtain ⟨ak,ck,rfl,_,_⟩:=a7.form;rw [bt] at ag a7))
                  go_ret2;exact ⟨none,0,0,rfl,ad,Q05.nil b8 1 _⟩
theorem Qjr (H:List UInt8)(hH:H.length=32)(W:Option Addr)(E Z:Nat)(h:List UInt8)(V:h.length=E)(N:Option Addr)(G O:Nat)(ps:List (Value × List UInt8))(a8:ps.length=G)(w:World)
  (hk:Q02 w (.slice W E Z) h) (hc:Q12 w (.slice N G O) ps) (hN:G<=1048576) (hNs:∀ q∈ps,q.2.length<=1048576) :
  Calls Tryz.prog 72 #[.agg (H.map u8v).toArray,.slice W E Z,.slice N G O] w (Qa6 (chk H h (ps.map (·.2))) w):=by
 obtain ⟨C,J⟩:=Qe (H.map u8v);have a5:C.length=32:=by rw [J,length_map,hH]
 obtain ⟨w1,M⟩:=Qe (w.alloc (.cells C.toArray 30));have hz:Blk 30 w1 w.heap.size C:=by rw [M];exact D01 w _ _
 have U:Below w.heap.size w w1:=by rw [M];exact Qba _ _
 obtain ⟨R,L⟩:=Qe (chk H h (ps.map (·.2)));rw [<-L,<-J];have a3:=Qhd M;by_cases h32:32<E
 ·have ah:(32:Int)<(E:Int):=by omega
  have T:R=([],3):=by rw [L];unfold chk;rw [if_pos (by omega)]
  subst T;clear M L J;go_enter Tryz.func72,Tryz.ntmps72
  go_wp2_with fail
  rw [<-a3.out];go_ret2;exact ⟨none,0,0,rfl,U,Q05.nil b8 1 _⟩
 have ah:(E:Int)<=32:=by omega
 have T:R=shw H (Q0c h) true (ps.map (·.2)):=by rw [L];unfold chk;rw [if_neg (by omega)]
 have al:=hk.below U;have ak:=hc.below U;have S:=fun u (hu:Q02 u (.slice W E Z) h)=>Q3e W Z h u (by rw [V];exact hu) (by rw [V];omega);rw [V] at S;have cs:=fun u (hu:Q12 u (.slice N G O) ps)=>Qh6 ps H (Q0c h) true N G O u hH (Q52 h) (by rw [Q10];omega) a8 hu hN hNs;rw [<-T] at cs;simp only [<-J] at cs;obtain ⟨P0,a6⟩:=Qe (Q0c h);simp only [<-a6] at cs S;have Ch:=Qhd S;have Cs:=Qhd cs;have Hz:=Qhd hz;have ad:=Qhd a5;clear M L J S cs T a6 hNs a5 hz hH V a8 hk hc;go_enter Tryz.func72,Tryz.ntmps72
 go_wp2_with fail
 rw [<-a3.out];refine Q03 w1 8 (by kernel_rfl) (by kernel_rfl) (Below.refl _ _) ?_;simp only [take_succ_cons,take_zero,take_nil]
 (refine Q06 (by rfl) (fun K D=>?_);rw [if_pos (by rfl)];refine ⟨_,fun u=>Q16 _ (.tmp 3) (by rfl) _ _ (by rfl) Q0g ad.out (rangeAt.ext (Blk.all0 Hz.out) u),D _ ?_⟩;clear D K;simp only [Act.put,Qzs])
 (refine Q06 (by rfl) (fun K D=>?_);go_simp;refine D _ ?_;clear D K)
 refine Q0e 13 (SlT P0) rfl (of_decide_eq_true rfl) (SlT.mono _) (fun y I=>?_) ?_
 ·simp only [Q18,filter_nil,Q00];refine ⟨rfl,?_⟩;go_simp;refine (Ch.out y (al.below I)).mono ?_;rintro e w7 ⟨v,rfl,o7,b7⟩;obtain ⟨a7,c7,rfl,_⟩:=o7.form;exact ⟨_,rfl,⟨a7,_,c7,rfl,o7.row⟩,b7⟩
 refine Q3a (.string ⟨P0.toArray⟩) (fun y I=>?_) ?_
 ·change Q00 y [(13,_)] _ _;rintro am ⟨a,n,c,rfl,z⟩;have c1:=Q0q (P:=Tryz.prog) (src:=25) (dst:=9) elU8.ht (by kernel_rfl) (by kernel_rfl) z;simp only [Q00];refine ⟨rfl,?_⟩;go_simp;exact Below.refl _ _
 (refine Q06 (by rfl) (fun K D=>?_);go_simp;refine D _ ?_;clear D K)
 refine Q0e 16 (TupS R) rfl (of_decide_eq_true rfl) (TupS.mono _) (fun y I=>?_) ?_
 ·change Q00 y [] _ _;simp only [Q00];refine ⟨rfl,?_⟩;go_simp;refine (Cs.out y (ak.below I)).mono ?_;rintro e w7 ⟨a,n,c,rfl,b7,z⟩;exact ⟨_,rfl,⟨a,n,c,rfl,z⟩,b7⟩
 refine Q0e 17 (SlT R.1) rfl (of_decide_eq_true rfl) (SlT.mono _) (fun y I=>?_) ?_
 ·change Q00 y [(16,_)] _ _;rintro aa ⟨a,n,c,rfl,z⟩;simp only [Q00];refine ⟨rfl,?_⟩;go_simp;exact ⟨Below.refl _ _,a,n,c,rfl,z⟩
 refine Q3a (.int .i64 R.2) (fun y I=>?_) ?_
 ·change Q00 y [(16,_)] _ _;rintro aa ⟨a,n,c,rfl,z⟩;simp only [Q00];refine ⟨rfl,?_⟩;go_simp;exact Below.refl _ _
 refine Q0i ?_;intro u6 aj am _ aa _ ao ai;change wpList _ _ _ [_,_] _ _;obtain ⟨a,n,c,rfl,z⟩:=ai
 go_wp2_with fail
 go_ret2;exact ⟨a,n,c,rfl,D00 U aj,z⟩
theorem Qaf (St:List UInt8)(a6:St.length=32)(i:Int)(hi:i<=9223372036854775807)(ca:Option Addr)(cN cc:Nat)(ps:List (Value × List UInt8))(al:ps.length=cN)(w:World)(hc:Q12 w (.slice ca cN cc) ps)(hN:cN<=1048576)(ag:∀ q∈ps,q.2.length<=1048576) :
  Calls Tryz.prog 27 #[.agg (by8 St).toArray,.int .i64 i,.slice ca cN cc] w (Q5a (lcP St (ps.map (·.2)) i) w):=by
 obtain ⟨O,W⟩:=Qe ((w.alloc (.cells (by8 St).toArray 30)).alloc (.cells zh.toArray 30));have hs:Blk 30 O w.heap.size (by8 St):=by rw [W];exact (D01 w _ _).alloc _
 have hz:Blk 30 O (w.heap.size+1) zh:=by
  have:=D01 (w.alloc (.cells (by8 St).toArray 30)) 30 zh;simp only [World.size_alloc] at this;rw [W];exact this
 have aj:Below w.heap.size w O:=by rw [W];exact (Qba _ _).alloc (by simp) _
 have Z:O=(w.alloc (.cells (by8 St).toArray 30)).alloc (.cells #[.int .u8 0,.int .u8 0,.int .u8 0,.int .u8 0,.int .u8 0,.int .u8 0,.int .u8 0,.int .u8 0,.int .u8 0,.int .u8 0,.int .u8 0,.int .u8 0,.int .u8 0,.int .u8 0,.int .u8 0,.int .u8 0,.int .u8 0,.int .u8 0,.int .u8 0,.int .u8 0,.int .u8 0,.int .u8 0,.int .u8 0,.int .u8 0,.int .u8 0,.int .u8 0,.int .u8 0,.int .u8 0,.int .u8 0,.int .u8 0,.int .u8 0,.int .u8 0] 30):=W;have y:zh.length=32:=rfl;have aR:by8 (Q5y 32)=zh:=rfl;have a':∀ u∈zh,u.oneCell'=true:=by intro u hu;rw [List.eq_of_mem_replicate hu];rfl
 have a5:(by8 St).length=32:=by rw [Q59];exact a6
 by_cases hneg:i<0
 ·have e:lcP St (ps.map (·.2)) i=(Q5y 32,31):=if_pos hneg;rw [e];obtain ⟨SC,T⟩:=Qe (by8 St);rw [<-T] at Z |-;have ab:=Qhd Z;have a0:=hz;have U:=aj;clear Z W e hs T a5 hc hN ag al a6;go_enter Tryz.func27,Tryz.ntmps27
  go_wp2_with (first
   |(rw [<-ab.out])
   |((with_reducible refine Qgs 12 ?_);refine Qsa 30 6 12 (w.heap.size+1) zh Q0g a0 y y a' U (le_succ _) ?_;intro S G I _))
  exact bodyPost_ret (v:=.tuple #[.agg zh.toArray,.int .i64 31]) (Q01 rfl _ _ (w.heap.size+1) Q0g G y rfl rfl) rfl ⟨rfl,I⟩
 have e:lcP St (ps.map (·.2)) i=lcQ (chk St (numB i.toNat) (ps.map (·.2))):=if_neg hneg;rw [e];obtain ⟨k,rfl⟩:∃ k:Nat,i=(k:Int):=⟨i.toNat,by omega⟩;have aJ:k<=9223372036854775807:=by omega
 clear e;have aN:¬ ((k:Int)<0):=by omega
 rw [show ((k:Int)).toNat=k from Int.toNat_natCast k];have w0:IntKind.u64.wrap (k:Int)=(k:Int):=IntWalk.u64_in _ (by omega);have ci:=fun u=>Q7w k (by omega) u;have cn:=fun u=>Q92 k u;have Ci:=Qhd ci;obtain ⟨KB,aw⟩:=Qe (numB k);rw [<-aw] at cn |-;obtain ⟨kn,am⟩:=Qe (KB.length);have c1:=fun (a:Option Addr) (c:Nat) u (hk:Q02 u (.slice a kn c) KB) (hu:Below O.heap.size O u)=>Qjr St a6 a kn c KB am.symm ca cN cc ps al u hk ((hc.below aj).below hu) hN ag;obtain ⟨R,hR⟩:=Qe (chk St KB (ps.map (·.2)));simp only [<-hR] at c1 |-;obtain ⟨V,E⟩:=R;unfold Qa6 at c1;dsimp only at c1;obtain ⟨SC,T⟩:=Qe (by8 St);change ∀ (a:Option Addr) (c:Nat) u,_->_->Calls Tryz.prog 72 #[.agg (by8 St).toArray,_,_] _ _ at c1;simp only [<-T] at c1;rw [<-T] at Z hs a5 |-;have aE:=Qhd a5;have aD:=Qhd am.symm;have ab:=Qhd Z;have C1:=Qhd c1;have Cn:=Qhd cn;have S1:=Qhd hs.all0;clear Z W c1 ci cn hR T a5 a6 al hc hN ag aw am hs hneg hi aJ;go_enter Tryz.func27,Tryz.ntmps27;go_upto_region 3 with (rw [<-ab.out])
 refine Q03 O 12 (by kernel_rfl) (by kernel_rfl) (Below.refl _ _) ?_;simp only [take_succ_cons,take_zero,take_nil]
 (refine Q06 (by rfl) (fun K H=>?_);rw [if_pos (by rfl)];refine ⟨_,fun u=>Q16 _ (.tmp 3) (by rfl) _ _ (by rfl) Q0g aE.out (rangeAt.ext S1.out u),H _ ?_⟩;clear H K;simp only [Act.put,Qzs])
 (refine Q06 (by rfl) (fun K H=>?_);go_simp;refine H _ ?_;clear H K)
 refine Q3a (.int .u64 (k:Int)) (fun h J=>?_) ?_
 ·simp only [Q18,filter_nil,Q00];refine ⟨rfl,?_⟩;go_simp;exact Below.refl _ _
 refine Q3a (wv k) (fun h J=>?_) ?_
 ·simp only [Q18,filter_nil,Q00];refine ⟨rfl,?_⟩;go_simp;refine (Ci.out h).mono ?_;rintro e S ⟨rfl,b8⟩;exact ⟨_,rfl,rfl,b8⟩
 refine Q0e 18 (FrT 0 KB) rfl (of_decide_eq_true rfl) (FrT.mono _ _) (fun h J=>?_) ?_
 ·simp only [Q18,filter_nil,Q00];refine ⟨rfl,?_⟩;go_simp;refine (Cn.out h).mono ?_;rintro e S ⟨v,rfl,o8,b8⟩;exact ⟨v,rfl,o8.lower (Nat.zero_le _),b8⟩
 (refine Q06 (by rfl) (fun K H=>?_);go_simp;refine H _ ?_;clear H K)
 refine Q0e 20 (TpL V E) rfl (of_decide_eq_true rfl) (TpL.mono _ _) (fun h J=>?_) ?_
 ·change Q00 h [(18,_)] _ _;intro vk hk;obtain ⟨ka,kc,rfl,_⟩:=hk.1.form' kn aD.out;simp only [Q00];refine ⟨rfl,?_⟩;go_simp;refine (C1.out _ _ h hk.1 J).mono ?_;rintro e S ⟨va,z,L,rfl,b8,D⟩;exact ⟨_,rfl,⟨va,z,L,rfl,D⟩,b8⟩
 refine Q0e 13 (TpL V E) rfl (of_decide_eq_true rfl) (TpL.mono _ _) (fun h J=>?_) ?_
 ·change Q00 h [(20,_)] _ _;rintro v ⟨va,z,L,rfl,D⟩;simp only [Q00];refine ⟨rfl,?_⟩;go_simp;exact ⟨Below.refl _ _,_,_,_,rfl,D⟩
 refine Q0e 21 (SlL V) rfl (of_decide_eq_true rfl) (SlL.mono _) (fun h J=>?_) ?_
 ·change Q00 h [(13,_)] _ _;rintro v ⟨va,z,L,rfl,D⟩;simp only [Q00];refine ⟨rfl,?_⟩;go_simp;exact ⟨Below.refl _ _,_,_,_,rfl,D⟩
 refine Q3a (.int .i64 E) (fun h J=>?_) ?_
 ·change Q00 h [(13,_)] _ _;rintro v ⟨va,z,L,rfl,D⟩;simp only [Q00];refine ⟨rfl,?_⟩;go_simp;exact Below.refl _ _
 refine Q0e 8 (SlL V) rfl (of_decide_eq_true rfl) (SlL.mono _) (fun h J=>?_) ?_
 ·change Q00 h [(21,_)] _ _;rintro v ⟨va,z,L,rfl,D⟩;simp only [Q00];refine ⟨rfl,?_⟩;go_simp;exact ⟨Below.refl _ _,_,_,_,rfl,D⟩
 (refine Q06 (by rfl) (fun K H=>?_);go_simp;refine H _ ?_;clear H K)
 refine Q0i ?_;intro u2 ay aV _ aW _ aU _ aX _ v8 G;change Q00 u2 [] _ _;simp only [Q00,List.drop_succ_cons,List.drop_zero,drop_nil];obtain ⟨va,z,L,rfl,D⟩:=G;have a0:=Blk.kept hz ay;have U:=D00 aj ay;have N:V.length=z:=D.fits.1.symm;have Hv:=Qhd D;clear D S1 hz
 try simp only [Act.put,Qzs]
 by_cases hE:E=0
 ·subst hE;by_cases h0:V=[]
  ·subst h0;obtain rfl:z=0:=by rw [<-N];rfl
   have M:Hid (lcQ ([],0)=(Q5y 32,0)):=Qhd rfl
   go_wp2_with ((with_reducible refine Qgs 42 ?_);refine Qsa 30 6 42 (w.heap.size+1) zh Q0g a0 y y a' U (le_succ _) ?_;intro S G I _)
   exact bodyPost_ret (v:=.tuple #[.agg zh.toArray,.int .i64 0]) (Q01 rfl _ _ (w.heap.size+1) Q0g G y rfl rfl) rfl (by unfold Q5a;rw [M.out];exact ⟨rfl,I⟩)
  have az:z≠0:=fun e=>h0 (List.eq_nil_of_length_eq_zero (by omega));have aK:(0:Int)<(z:Int):=by omega
  have aP:((z:Int)==0)=false:=beq_eq_false_iff_ne.2 (by omega);by_cases h32:z=32
  ·subst h32;have M:Hid (lcQ (V,0)=(V,0)):=Qhd (by unfold lcQ;rw [if_pos rfl,if_neg h0,if_pos N]);obtain ⟨b9,o9,rfl,an⟩:=Q4l Hv.out (by omega);have aO:∀ x,(Instr.arrayAt 30 (.slice (some ⟨b9,o9,none⟩) 32 L)).run Tryz.prog x=.ok (.pointer (some ⟨b9,o9,none⟩)) x:=fun x=>Q4c (P:=Tryz.prog) (t:=30) (e:=5) (n:=32) (by kernel_rfl) _ 32 L (le_refl _) x;have ai:=Qhd (Q8j V);have a7:(by8 V).length=32:=by rw [Q59];exact N
   change u2.rangeAt b9 o9 (by8 V) at an;obtain ⟨VC,ah⟩:=Qe (by8 V);change Hid (∀ u∈by8 V,u.oneCell'=true) at ai;rw [<-ah] at an ai a7;have aF:=Qhd ah;clear ah az aK h0 N
   go_wp2_with (first
    |((with_reducible refine Qgl 46 ?_);refine Qlw 30 45 b9 o9 Q0g a7 an ?_)
    |((with_reducible refine Qgs 46 ?_);refine Qsa 30 6 46 (w.heap.size+1) VC Q0g a0 a7 y ai.out U (le_succ _) ?_;intro S G I _))
   exact bodyPost_ret (v:=.tuple #[.agg VC.toArray,.int .i64 0]) (Q01 rfl _ _ (w.heap.size+1) Q0g G a7 rfl rfl) rfl (by unfold Q5a;rw [M.out];exact ⟨by rw [aF.out],I⟩)
  have M:Hid (lcQ (V,0)=(Q5y 32,1)):=Qhd (by unfold lcQ;rw [if_pos rfl,if_neg h0,if_neg (by rw [N];exact h32)]);have aQ:((z:Int)==32)=false:=beq_eq_false_iff_ne.2 (by omega);clear az h0 N
  go_wp2_with ((with_reducible refine Qgs 42 ?_);refine Qsa 30 6 42 (w.heap.size+1) zh Q0g a0 y y a' U (le_succ _) ?_;intro S G I _)
  exact bodyPost_ret (v:=.tuple #[.agg zh.toArray,.int .i64 1]) (Q01 rfl _ _ (w.heap.size+1) Q0g G y rfl rfl) rfl (by unfold Q5a;rw [M.out];exact ⟨rfl,I⟩)
 have aM:(E==0)=false:=beq_eq_false_iff_ne.2 hE;have M:Hid (lcQ (V,E)=(Q5y 32,E)):=Qhd (by unfold lcQ;exact if_neg hE);clear N
 go_wp2_with ((with_reducible refine Qgs 42 ?_);refine Qsa 30 6 42 (w.heap.size+1) zh Q0g a0 y y a' U (le_succ _) ?_;intro S G I _)
 exact bodyPost_ret (v:=.tuple #[.agg zh.toArray,.int .i64 E]) (Q01 rfl _ _ (w.heap.size+1) Q0g G y rfl rfl) rfl (by unfold Q5a;rw [M.out];exact ⟨rfl,I⟩)
end Go.Proofs.YtbdmkfjgnjfjbaaGreat
namespace Go.Proofs.YtbdmkfjgnjfjbaaGreat
open Go.ChangeShapes Go.WideShapes Go.ChangeAt Go.RowKit
section
variable {H:Type} {enc:TypeId × Value->H} {W:World}
theorem Qfw {r:Reach}{y:Nat}{v:Value}{d:DataW H}{p:List MemPlace}(G:Value.okWide Tryz.prog W r y 30 v)(h:DataW.Trod enc Tryz.prog W 0 (fun _=>true) true 30 v d p):∃ A:List UInt8,v=.agg (by8 A).toArray/\A.length=32:=by
 obtain ⟨J,rfl,D,E⟩:=Qpp Tryz.underlying30 Tryz.underlying5 (by kernel_rfl) (by kernel_rfl) G h;refine ⟨J.map fun x=>UInt8.ofNat x.toNat,?_,by rw [length_map,D]⟩;unfold by8;rw [List.map_map];congr 2;exact List.map_congr_left (fun z I=>by show _=u8v (UInt8.ofNat z.toNat);rw [Qqr _ (Qgt (E z I))])
end
end Go.Proofs.YtbdmkfjgnjfjbaaGreat
namespace Go.Proofs.YtbdmkfjgnjfjbaaGreat
open Go.RowKit
theorem Qal {H:Type}{d:DataW H}{ps:List (Value × List UInt8)}(h:SzT d ps):∀ q∈ps,q.2.length<=Rows.uptoBulk d:=by
 intro q z;have y:=(Q42 h).2;rw [List.length_flatMap] at y;have:∀ (l:List (Value × List UInt8)),q∈l->q.2.length<=(l.map fun p=>p.2.length).sum:=by
  intro l;induction l with
  | nil=>intro h;simp at h
  | cons p l ih =>
   intro h;simp only [map_cons,List.sum_cons];rcases List.mem_cons.1 h with rfl|h
   ·omega
   have:=ih h;omega
 exact Nat.le_trans (this ps z) y
theorem Qa0 (J:Option Addr)(K:Nat)(T:List (Value × List UInt8))(i:Int)(V:i<=9223372036854775807)(St:List UInt8)(a6:St.length=32)(O:Option Addr)(S:Nat)(ps:List (Value × List UInt8))(w:World)(hT:Q12 w (.slice J T.length K) T)(L:T.length<=1048576)(au:∀ q∈T,q.2.length<=1048576)(hc:Q12 w (.slice O ps.length S) ps)(hN:ps.length<=1048576)(an:∀ q∈ps,q.2.length<=1048576) :
  Calls Tryz.prog 6 #[.slice J T.length K,.int .i64 i,.agg (by8 St).toArray,.slice O ps.length S] w fun e w'=>e=.returned (.bool true)/\Below w.heap.size w w':=by
 obtain ⟨Z,N⟩:=Qe (T.length);obtain ⟨cn,a7⟩:=Qe (ps.length);rw [<-N] at hT L |-;rw [<-a7] at hc hN |-;obtain ⟨y,W⟩:=Qe (w.alloc (.cells (by8 St).toArray 30));have hs:Blk 30 y w.heap.size (by8 St):=by rw [W];exact D01 w _ _
 have aw:Below w.heap.size w y:=by rw [W];exact Qba _ _
 have U:∀ u,Below y.heap.size y u->Q12 u (.slice J Z K) T:=fun u z=>(hT.below aw).below z;have av:∀ u,Below y.heap.size y u->Q12 u (.slice O cn S) ps:=fun u z=>(hc.below aw).below z;have c1:=fun u z=>Qce J Z K T N.symm L i V u (U u z);have c2:=fun u z=>Qae J Z K T N.symm L au i V u (U u z);have E:=fun u z=>Qcf St a6 i V O cn S ps a7.symm u (av u z) hN an;have G:=fun u z=>Qaf St a6 i V O cn S ps a7.symm u (av u z) hN an;have c5:=fun u z=>Qee J Z K T N.symm L u (U u z);have c6:=fun u z=>Qd8 J Z K T N.symm L au u (U u z);have a8:=Qsf (T.map (·.2)) i;have M:=Qsh St (ps.map (·.2)) i;have a':(rtB (trL (T.map (·.2)))).length=32:=Qfd _;obtain ⟨P,hP⟩:=Qe (lpP (T.map (·.2)) i);obtain ⟨Q,hQ⟩:=Qe (lcP St (ps.map (·.2)) i);obtain ⟨R,hR⟩:=Qe (rtB (trL (T.map (·.2))));unfold Q5a at E G;simp only [<-hP] at c1 c2 a8;simp only [<-hQ] at E G M;simp only [<-hR] at c5 c6 a';obtain ⟨PL,PE⟩:=P;obtain ⟨D,QE⟩:=Q;dsimp only at c1 c2 E G a8 M;have g1:∀ H I y,(eqGuard .eql 30 H I (.agg (by8 R).toArray) (.agg (by8 R).toArray)).run Tryz.prog y=.ok () y:=fun H I y=>Qb3 R R H I y;have q1:∀ y:World,(binOp .eql 30 (.agg (by8 R).toArray) (.agg (by8 R).toArray)).run Tryz.prog y=.ok (.bool true) y:=fun y=>by have h:=Qha R R a' a' y;rw [beq_self_eq_true] at h;exact h
 have g2:∀ H I y,(eqGuard .eql 30 H I (.agg (by8 D).toArray) (.agg (by8 D).toArray)).run Tryz.prog y=.ok () y:=fun H I y=>Qb3 D D H I y;have q2:∀ y:World,(binOp .eql 30 (.agg (by8 D).toArray) (.agg (by8 D).toArray)).run Tryz.prog y=.ok (.bool true) y:=fun y=>by have h:=Qha D D M M y;rw [beq_self_eq_true] at h;exact h
 have aq:(by8 St).length=32:=by rw [Q59];exact a6
 have ao:(by8 D).length=32:=by rw [Q59];exact M
 have a5:=Q8j D;change ∀ u∈by8 D,u.oneCell'=true at a5;obtain ⟨SC,ap⟩:=Qe (by8 St);obtain ⟨QC,aY⟩:=Qe (by8 D);obtain ⟨RC,b0⟩:=Qe (by8 R);simp only [<-ap] at E G;simp only [<-aY] at E G g2 q2 ao a5;simp only [<-b0] at c5 c6 g1 q1;rw [<-ap] at hs aq W |-;have aH:=Qhd aq;have a0:=Qhd ao;have aG:=Qhd a5;have bq:=Qhd a8;have G1:=Qhd g1;have Q1:=Qhd q1;have G2:=Qhd g2;have Q2:=Qhd q2;have C1:=Qhd c1;have C2:=Qhd c2;have C3:=Qhd E;have C4:=Qhd G;have C5:=Qhd c5;have C6:=Qhd c6;have bp:=Qhd W;have bR:(PE==PE)=true:=beq_self_eq_true PE;have bS:(QE==QE)=true:=beq_self_eq_true QE;have b1:zh.length=32:=rfl;have b':∀ u:World,Blk 30 (u.alloc (.cells zh.toArray 30)) u.heap.size zh:=fun u=>D01 u _ zh;have aI:=Qhd b';clear W c1 c2 E G c5 c6 g1 q1 g2 q2 aq ao a5 ap aY b0 hP hQ hR U av hT L au hc hN an a8 M a' b' a6 V N a7;go_enter Tryz.func6,Tryz.ntmps6
 go_wp2_with (first
  |(go_at_call 24;rw [<-bp.out];(with_reducible refine (C1.out _ (Below.refl _ _)).mono ?_);intro e w2 m;obtain ⟨v6,rfl,⟨bJ,bf,bL,ba,rfl,t6,l6⟩,b2⟩:=MkP.tx m;clear m)
  |(go_at_call 25;(with_reducible refine (C2.out _ b2).mono ?_);intro e w3 m;obtain ⟨v7,rfl,⟨bK,bg,bM,bb,rfl,t7,l7⟩,aM⟩:=MkP.tx m;clear m;have b3:=D00 b2 aM;have r3:=(hs.kept b3).all0;have T6:=t6.below aM)
  |((with_reducible refine Qgl 30 ?_);refine Qlw 30 6 w.heap.size 0 Q0g aH.out r3 ?_)
  |(go_at_call 26;(with_reducible refine (C3.out _ b3).mono ?_);rintro e w4 ⟨rfl,aN⟩;have b4:=D00 b3 aN)
  |((with_reducible refine Qgs 34 ?_);refine Qsa 30 13 34 w4.heap.size QC Q0g (aI.out w4) a0.out b1 aG.out (Qba w4 _) (le_refl _) ?_;intro w5 h5 aP _;have b5:=D00 b4 aP;have bv:=D00 aN aP;have r5:=(hs.kept b5).all0)
  |((with_reducible refine Qgl 37 ?_);refine Qlw 30 6 w.heap.size 0 Q0g aH.out r5 ?_)
  |(go_at_call 27;(with_reducible refine (C4.out _ b5).mono ?_);rintro e w6 ⟨rfl,aQ⟩;have b6:=D00 b5 aQ)
  |((with_reducible refine Qgs 41 ?_);refine Qsa 30 15 41 w6.heap.size QC Q0g (aI.out w6) a0.out b1 aG.out (Qba w6 _) (le_refl _) ?_;intro w7 h7 aS _;have b7:=D00 b6 aS;have aR:=D00 aQ aS;have bC:=h5.kept aR;have bw:=D00 bv aR)
  |(go_at_call 28;(with_reducible refine (C5.out _ b7).mono ?_);rintro e w8 ⟨rfl,aU⟩;have b8:=D00 b7 aU)
  |(go_at_call 29;(with_reducible refine (C6.out _ b8).mono ?_);rintro e w9 ⟨rfl,aV⟩;have b9:=D00 b8 aV;have ai:=D00 aU aV;have aO:=D00 bw ai;have bD:=bC.kept ai;have bF:=h7.kept ai;have ae:=T6.below aO;have af:=t7.below aO;obtain ⟨pn,a9⟩:=Qe (PL.length);have n6:ba.length=pn:=(by rw [a9,<-l6,length_map]);have n7:bb.length=pn:=(by rw [a9,<-l7,length_map]);obtain rfl:bf=pn:=(by rw [<-n6];exact ae.1.fits.1);obtain rfl:bg=bf:=(by rw [<-n7];exact af.1.fits.1);have bu:=Qhd (fun u (z:Below w9.heap.size w9 u)=>Qbp bJ bK bg bL bM ba bb n6 n7 (by rw [a9];have:=bq.out;omega) u (ae.below z) (af.below z) (by rw [l6,l7]));clear l6 l7 n6 n7 a9 ae af T6 t6 t7)
  |((with_reducible refine Qgl 47 ?_);refine Q8h (o:=⟨some 47,_,_,_,_,_⟩) 30 (.tmp 44) (.tmp 46) _ (by rfl) (by rfl) (by rfl) G1.out Q1.out (by rfl) ?_)
  |(go_at_call 20;(with_reducible refine (bu.out _ (Below.refl _ _)).mono ?_);rintro e bV ⟨rfl,aj⟩;have bN:=(bD.kept aj).all0;have bI:=(bF.kept aj).all0)
  |((with_reducible refine Qgl 64 ?_);refine Qlw 30 13 w4.heap.size 0 Q0g a0.out bN ?_)
  |((with_reducible refine Qgl 65 ?_);refine Qlw 30 15 w6.heap.size 0 Q0g a0.out bI ?_)
  |((with_reducible refine Qgl 66 ?_);refine Q8h (o:=⟨some 66,_,_,_,_,_⟩) 30 (.tmp 64) (.tmp 65) _ (by rfl) (by rfl) (by rfl) G2.out Q2.out (by rfl) ?_))
 go_ret;exact ⟨rfl,D00 aw (D00 b9 aj)⟩
end Go.Proofs.YtbdmkfjgnjfjbaaGreat
