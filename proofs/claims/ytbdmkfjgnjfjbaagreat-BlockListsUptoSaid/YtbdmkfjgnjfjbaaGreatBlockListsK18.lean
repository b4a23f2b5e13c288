/- Rows and blocks that lie apart from what grows. | The reference's PEncode: its bytes lie in a block that the call made. | root.Code and the reference's HCode: t -/
import Derived.Test.YtbdmkfjgnjfjbaaGreatBlockListsK01
import Derived.Test.YtbdmkfjgnjfjbaaGreatBlockListsK14
import Derived.Test.YtbdmkfjgnjfjbaaGreatBlockListsK17
import Derived.Test.YtbdmkfjgnjfjbaaGreatBlockListsK02
import Derived.Test.YtbdmkfjgnjfjbaaGreatBlockListsK16
import Derived.Test.YtbdmkfjgnjfjbaaGreatBlockListsK05
import Derived.Test.YtbdmkfjgnjfjbaaGreatBlockListsK03
import Derived.Maps.RangeWalk
set_option linter.unusedSimpArgs false
set_option linter.unusedVariables false
set_option maxHeartbeats 4000000
set_option maxRecDepth 100000
open Nat (le_refl le_trans lt_of_lt_of_le)
namespace Go.Proofs.YtbdmkfjgnjfjbaaGreat
open Go.RowKit
theorem Q08.ltT {α:Type}{f:α->List Value}{size:Nat}{e:TypeId}{w:World}{B:Nat}{v:Value}{l:List α}(h:Q08 f size e w B v l):∀ k,v.ownBlock=some k->k<w.heap.size:=by
 intro k y;rcases h.2 with ⟨rfl,_⟩|⟨g,cap,D,rfl,_,z,_⟩
 ·simp [Value.ownBlock] at y
 simp only [Value.ownBlock,Option.some.injEq] at y;subst y;exact (Array.getElem?_eq_some_iff.1 z).1
theorem Q05.offT {α:Type}{f:α->List Value}{size:Nat}{w w':World}{v:Value}{g:Nat}{l:List α}(h:Q05 f size w v l)(hg:w.grownBy w' (some g))(hne:∀ x,v.ownBlock=some x->x≠g):Q05 f size w' v l:=by
 obtain ⟨a,c,rfl,_⟩:=h.form;cases a with
 | none =>
  obtain ⟨D,a,I,z,E,G,y⟩:=h;simp only [Value.slice.injEq] at z;obtain ⟨rfl,_,rfl⟩:=z;refine ⟨D,none,_,rfl,E,G,.inl ?_⟩;rcases y with y|⟨_,_,_,H,_⟩
  ·exact y
  simp at H
 | some p =>
  obtain ⟨b,off,s⟩:=p;exact h.grownNe hg (hne b rfl)
theorem Q05.grownT {α:Type}{f:α->List Value}{size:Nat}{w w':World}{v:Value}{l:List α}{row:Option Nat}(h:Q05 f size w v l)(hg:w.grownBy w' row)(hlt:∀ x,v.ownBlock=some x->x<w.heap.size)(hne:∀ x,v.ownBlock=some x->row≠some x):Q05 f size w' v l:=by
 cases row with
 | some g=>exact h.offT hg (fun x y e=>hne x y (by rw [e]))
 | none=>exact h.offT (hg.but (some w.heap.size)) (fun x y=>Nat.ne_of_lt (hlt x y))
theorem Q08.notT {α:Type}{f:α->List Value}{size:Nat}{e e':TypeId}{w:World}{B g:Nat}{v:Value}{l:List α}{cs:List Value}(h:Q08 f size e w B v l)(hz:Blk e' w g cs)(hne:e≠e'):v.ownBlock≠some g:=by
 rcases h.2 with ⟨rfl,_⟩|⟨D,cap,G,rfl,_,y,_⟩
 ·simp [Value.ownBlock]
 intro z;simp only [Value.ownBlock,Option.some.injEq] at z;subst z;have E:w.heap[D]?=some (.cells cs.toArray e' (0,0)):=hz;rw [E] at y;simp only [Option.some.injEq,Obj.cells.injEq] at y;exact hne y.2.1.symm
theorem Qg4 (w:World)(b i:Nat)(v:Value):w.grownBy (w.setCell ⟨b,i,none⟩ v) (some b) :=
 ⟨rfl,rfl,rfl,by simp [World.setCell],fun k _ h=>Below.heap_setCell _ _ _ _ (fun e=>h (by simp [e]))⟩
theorem Q77 {P:Program}{S:World->Prop}{ops:Array Oper}{o:Oper}{a:Act}{K:Act->Prop}{E:Prop}(G:o.guard=none)(y:TypeId)(x:Operand)(H:o.op=.load y x)(b off:Nat)(L:a.eval x=.pointer (some ⟨b,off,none⟩)){n:Nat}(I:Agg P y n)
  {cs:List Value}(hn:cs.length=n) (hb:∀ u,S u->u.rangeAt b off cs) (h:K (a.put o.dst (.agg cs.toArray))):if Region.wanted o (yielded ops a.tmps) then Qeo P S o a K else E:=by
 have J:Region.wanted o (yielded ops a.tmps)=true:=by simp [Region.wanted,G]
 rw [if_pos J];refine ⟨_,fun u=>?_,h⟩;obtain ⟨d,z,M,D⟩:=I;unfold Q8a execOp;simp only [H,L,Instr.loadAt,Instr.sureAddr,Sem.run_bind,Sem.run_pure,Result.andThen_ok,run_loadVar_mid (P:=P) u.val b off y cs d (hb _ u.held) z (by cases d<;>simp_all) (by rw [D,hn])]
theorem Q2i {P:Program}{w:World}{ops:Array Oper}{z:List Oper}{o:Oper}{a:Act}{Q:Exit->Act->World->Prop}(E:o.guard=none)(src dst:TypeId)(x:Operand)
  (ho:o.op=.convert src dst x) {e:TypeId}(hs:P.underlying src=some .string) (hd:P.underlying dst=some (.slice e)) (he:P.underlying e=some (.int .u8)) (l:List UInt8) (hx:a.eval x=str l) (hl:l.length<=maxLen)
  (h:∀ v' w',Q02 w' v' l->(∀ k,v'.ownBlock=some k->w.heap.size<=k/\k<w'.heap.size)->Below w.heap.size w w'->wpList P ops Q z (a.put o.dst v') w'):wpList P ops Q (o::z) a w:=by
 refine wpList_plain E fun K D=>?_;have H:=Lib.run_convert_string_bytes (P:=P) w src dst e ⟨l.toArray⟩ hs hd he;have y:=Qd4 w e l hl;unfold Oper.wp execOp;unfold str at hx;simp only [ho,hx,H,Sem.run_bind,Result.andThen_ok,Sem.run_pure];exact D _ _ (h _ _ y.1 (fun k G=>by simp only [Value.ownBlock,Option.some.injEq] at G;rw [Lib.bytesWorld_size];omega) y.2)
def Qgn (x:Itm)(w:World)(e:Ending)(w':World):Prop:=∃ v,e=.returned v/\Q02 w' v (encI x)/\(∀ k,v.ownBlock=some k->w.heap.size<=k/\k<w'.heap.size)/\Below w.heap.size w w'
theorem Qjm (H:Option Addr)(y I:Nat)(t:List UInt8)(G:t.length=y)(K:Value)(ks:List Itm)(w:World)(h:Q02 w (.slice H y I) t)(hN:y<=1000000000000) :
  Calls Tryz.prog 56 #[.agg #[.bool false,.slice H y I,K]] w (Qgn (.mk false (.slice H y I) t K ks) w):=by
 have N:Below w.heap.size w (w.alloc (.cells #[.bool false,.slice H y I,K] 77)):=Qba _ _;have hs:=Q0q (P:=Tryz.prog) (src:=25) (dst:=9) elU8.ht (by kernel_rfl) (by kernel_rfl) (h.below N);have a4:(⟨t.toArray⟩:ByteArray).size=y:=G;by_cases D:y=1/\(t[0]?.getD 0).toNat<128
 ·obtain ⟨D,W⟩:=D;obtain ⟨x,rfl⟩:∃ x,t=[x]:=List.length_eq_one_iff.1 (G.trans D);subst D;have hx:(x.toNat:Int)<128:=by simp at W;omega
  have J:encI (.mk false (.slice H 1 I) [x] K ks)=[x]:=by
   unfold encI Q1q;rw [if_neg (by simp),if_pos (by simp at W |-;exact W)]
  have T:=Qhd J;have a':∀ h,(⟨#[x]⟩:ByteArray)[0]'h=x:=fun _=>rfl;clear J G W a4;go_enter Tryz.func56,Tryz.ntmps56
  go_wp2_with (refine Q2i (o:=⟨some 33,_,_,_,_,_⟩) (by rfl) 9 25 (.tmp 32) (by rfl) (by kernel_rfl) elU8.ht (by kernel_rfl) [x] (by rfl) (by unfold maxLen;simp) ?_;intro v2 w2 M z L;have z:=fun q E=>And.intro (le_trans (Below.size N) (z q E).1) (z q E).2;have O:=D00 N L)
  go_ret;exact ⟨_,rfl,by rw [T.out];exact M,z,O⟩
 have J:encI (.mk false (.slice H y I) t K ks)=Q1f 128 y++t:=by
  unfold encI Q1q;rw [if_neg (by simp),if_neg (by rw [G];exact D),G]
 have a8:=Q2w 128 y (by omega);have V:∀ x,Calls Tryz.prog 88 #[.int .i64 (y:Int),.bool false] x _:=fun x=>Q6j y false (by omega) x;change ∀ x,Calls Tryz.prog 88 #[.int .i64 (y:Int),.bool false] x (fun e w'=>e=.returned (str (Q1f 128 y))/\Below x.heap.size x w') at V;obtain ⟨w1,a9⟩:=Qe (w.alloc (.cells #[.bool false,.slice H y I,K] 77));obtain ⟨U,a0⟩:=Qe (Q1f 128 y);rw [<-a0] at J a8;simp only [<-a0] at V;have a3:=Q79 U t;have ac:(U++t).length<=2000000000000:=by rw [List.length_append,G];omega
 have T:=Qhd J;have Ch:=Qhd V;have a2:=Qhd a3;clear J a9 V a0 a3;by_cases ht1:y=1
 ·subst ht1;obtain ⟨x,rfl⟩:∃ x,t=[x]:=List.length_eq_one_iff.1 G;have hx:¬ (x.toNat:Int)<128:=fun hx=>D ⟨rfl,by simp;omega⟩;have a':∀ h,(⟨#[x]⟩:ByteArray)[0]'h=x:=fun _=>rfl;clear G D a4;go_enter Tryz.func56,Tryz.ntmps56
  go_wp2_with (first
   |(go_at_call 88;refine (Ch.out _).mono ?_;rintro e w3 ⟨rfl,Z⟩;have S:=D00 N Z)
   |(refine Q2i (o:=⟨some 41,_,_,_,_,_⟩) (by rfl) 9 25 (.tmp 40) (by rfl) (by kernel_rfl) elU8.ht (by kernel_rfl) (U++[x]) a2.out (by unfold maxLen;omega) ?_;intro v2 w2 M z L;have z:=fun q E=>And.intro (le_trans (Below.size S) (z q E).1) (z q E).2;have O:=D00 S L))
  go_ret;exact ⟨_,rfl,by rw [T.out];exact M,z,O⟩
 have ad:((y:Int)==1)=false:=by rw [beq_eq_false_iff_ne];omega
 have af:t.length<=1000000000000:=by omega
 clear D ht1;go_enter Tryz.func56,Tryz.ntmps56
 go_wp2_with (first
  |(go_at_call 88;refine (Ch.out _).mono ?_;rintro e w3 ⟨rfl,Z⟩;have S:=D00 N Z)
  |(refine Q2i (o:=⟨some 41,_,_,_,_,_⟩) (by rfl) 9 25 (.tmp 40) (by rfl) (by kernel_rfl) elU8.ht (by kernel_rfl) (U++t) a2.out (by unfold maxLen;omega) ?_;intro v2 w2 M z L;have z:=fun q E=>And.intro (le_trans (Below.size S) (z q E).1) (z q E).2;have O:=D00 S L))
 go_ret;exact ⟨_,rfl,by rw [T.out];exact M,z,O⟩
theorem Qjn (y:World)(I:Option Addr)(K J:Nat)(t:List UInt8)(aY:Q02 y (.slice I K J) t)(G:Option Addr)(h H:Nat)(ks:List Itm)(ah:ks.length=h)(w:World)(aZ:y=w)(hk:Q05 Q0j 3 w (.slice G h H) ks)(hi:∀ k∈ks,Q17 w k)(hN:Q2g ks<=1000000000000)
  (ih:∀ k∈ks,∀ w',Q17 w' k->Calls Tryz.prog 56 #[.agg (Q0j k).toArray] w' (Q4n k w')) :
  Calls Tryz.prog 56 #[.agg #[.bool true,.slice I K J,.slice G h H]] w (Qgn (.mk true (.slice I K J) t (.slice G h H) ks) w):=by
 subst aZ;have af:Below y.heap.size y (y.alloc (.cells #[.bool true,.slice I K J,.slice G h H] 77)):=Qba _ _;have ap:=D01 y 77 [.bool true,.slice I K J,.slice G h H];have aE:=Q0q (P:=Tryz.prog) (src:=25) (dst:=9) elU8.ht (by kernel_rfl) (by kernel_rfl) (aY.below af);have z:encI (.mk true (.slice I K J) t (.slice G h H) ks)=Q1f 192 (encL ks).length++encL ks:=by
  unfold encI;rw [if_pos rfl]
 have ai:(encL ks).length<=10000000000000:=by have:=Qch ks hN;omega
 have E:=Q2w 192 (encL ks).length (by omega);have bd:h<=1000000000000:=by have:=Q8d ks;omega
 have aC:=fun k=>Qg9 ks k;have hst:=fun k hk=>Q9t ks k hk;have au:encL (ks.take h)=encL ks:=by rw [<-ah,List.take_length]
 have av:∀ k,k∈ks->(encI k).length<=10000000000000:=fun k hk=>by
  have h1:=Q4m hk;have:=Q4h (Q1z k) k (le_refl _) (by omega);omega
 have aO:=Qhd ah;have HE:=Qhd z;have aP:=Qhd aC;have aQ:=Qhd hst;have Hi:=Qhd hi;have Ih:=Qhd ih;have aJ:=Qhd au;have aK:=Qhd av;have am:=Qhd ai;have aM:=Qhd E;clear ah z aC hst hi ih au av ai E hN;go_enter Tryz.func56,Tryz.ntmps56
 go_wp2_with fail
 go_loopw [3,14] (fun v ix wr=>∃ k:Nat,k<=h/\ix=.int .i64 (k:Int)/\v=.string ⟨(encL (ks.take k)).toArray⟩/\Blk 77 wr y.heap.size [.bool true,.slice I K J,.slice G h H]/\Below y.heap.size y wr) (fun _ ix _=>h - (intOf ix).toNat)
 case atStart=>exact ⟨0,by omega,rfl,rfl,ap,af⟩
 case round =>
  clear af ap aE;obtain ⟨k,bb,rfl,rfl,hB,N⟩:=hrel;by_cases hlt:k<h
  ·have bc:(k:Int)<(h:Int):=by omega
   have a4:k<ks.length:=by rw [aO.out];exact hlt
   obtain ⟨b,off,rfl,hr⟩:=Q05.range Q0k (hk.below N) k a4;have L:Q17 wr ks[k]:=(Hi.out _ (List.getElem_mem a4)).kept N;have D:=fun x hx=>Ih.out _ (List.getElem_mem a4) x hx;have O:=aQ.out k a4;have hl:=aP.out k;have hm:=aK.out _ (List.getElem_mem a4);obtain ⟨kid,az⟩:=Qe (ks[k]);rw [<-az] at hr L D O hm;obtain ⟨S0,ad⟩:=Qe (encL (ks.take k));obtain ⟨S1,ae⟩:=Qe (encL (ks.take (k+1)));rw [<-ad] at O hl;rw [<-ae] at O;obtain ⟨T,hT⟩:=Qe (encI kid);unfold Q4n at D;rw [<-hT] at D O hm;obtain ⟨Z,bg,t2,be,b1⟩:=kid;obtain ⟨a0,a1,rfl,_,_⟩:=L.inv.1.form;obtain ⟨U,V,rfl,_,_⟩:=L.inv.2.1.form;obtain ⟨a2,aF⟩:=Qe (t2.length);obtain ⟨W,aA⟩:=Qe (b1.length);rw [<-aF,<-aA] at hr L D;change wr.rangeAt b (off+k*3) [.bool Z,.slice a0 a2 a1,.slice U W V] at hr;change ∀ x,Q17 x _->Calls Tryz.prog 56 #[.agg #[.bool Z,.slice a0 a2 a1,.slice U W V]] x _ at D;have aw:=N.size;have ag:Below y.heap.size y (wr.alloc (.cells #[.bool Z,.slice a0 a2 a1,.slice U W V] 77)):=N.alloc aw _;have aW:=L.kept ((Below.refl wr.heap.size wr).alloc (le_refl _) (.cells #[.bool Z,.slice a0 a2 a1,.slice U W V] 77));have aU:=hB.alloc (.cells #[.bool Z,.slice a0 a2 a1,.slice U W V] 77);have b':S0.length+T.length<=30000000000000:=by have:=am.out;omega
   have M:=Q79 S0 T;rw [<-O,ae] at M;have a':=Qhd M;have Hc:=Qhd D;clear O D M ae hT az L hl hm aF aA;rw [<-ad];clear ad
   go_wp2_with (first
    |(refine wpList_load_mid (op:=⟨some 17,_,_,_,_,_⟩) (by rfl) 77 (.tmp 16) (by rfl) b (off+k*3) (by rfl) [.bool Z,.slice a0 a2 a1,.slice U W V] _ hr Tryz.underlying77 rfl (by kernel_rfl) ?_)
    |(go_at_call 56;(with_reducible refine (Hc.out _ aW).mono ?_);rintro e w3 ⟨v3,rfl,o3,b3⟩;have a8:=D00 ag b3;have aV:=aU.kept b3;have aE:=Q0q (P:=Tryz.prog) (src:=25) (dst:=9) elU8.ht (by kernel_rfl) (by kernel_rfl) o3))
   go_roundw
   case rel=>exact ⟨k+1,by omega,by go_num,a'.out,aV,a8⟩
   case measure=>simp [intOf];omega
  obtain rfl:k=h:=by omega
  rw [aJ.out];have aX:(encL ks).length<=10000000000000:=by have:=am.out;omega
  obtain ⟨S,hS⟩:=Qe (encL ks);have E:=aM.out;have z:=HE.out;rw [<-hS] at E z aX;rw [<-hS];obtain ⟨sn,ak⟩:=Qe (S.length);rw [<-ak] at E z;have ch:∀ x,Calls Tryz.prog 88 #[.int .i64 ((S.length:Nat):Int),.bool true] x _:=fun x=>Q6j S.length true (by omega) x;change ∀ x,Calls Tryz.prog 88 #[.int .i64 ((S.length:Nat):Int),.bool true] x (fun e w'=>e=.returned (str (Q1f 192 S.length))/\Below x.heap.size x w') at ch;rw [ak] at z E;obtain ⟨Hd,ab⟩:=Qe (Q1f 192 S.length);rw [<-ab] at E z;simp only [<-ab] at ch;have M:=Q79 Hd S;have ai:(Hd++S).length<=20000000000000:=by rw [List.length_append];omega
  have Ch:=Qhd ch;have aI:=Qhd z;have a':=Qhd M;clear ch z ak ab hS M;have aw:=N.size;have ax:=hB.cell 0;have ba:wr.cell? ⟨y.heap.size,0,none⟩=some (.bool true):=ax;clear ax
  go_wp2_with (first
   |(go_at_call 88;(with_reducible refine (Ch.out _).mono ?_);rintro e w3 ⟨rfl,b3⟩;have a8:=D00 N b3)
   |(refine Q2i (o:=⟨some 41,_,_,_,_,_⟩) (by rfl) 9 25 (.tmp 40) (by rfl) (by kernel_rfl) elU8.ht (by kernel_rfl) (Hd++S) a'.out (by unfold maxLen;omega) ?_;intro v2 w2 h2 h3 b2;have h3:=fun q hq=>And.intro (le_trans (Below.size a8) (h3 q hq).1) (h3 q hq).2;have ag:=D00 a8 b2))
  go_ret;exact ⟨_,rfl,by rw [aI.out];exact h2,h3,ag⟩
theorem Qfs (n:Nat)(x:Itm)(w:World)(h:Q1z x<=n)(M:n<=1000000000000)(H:Q17 w x):Calls Tryz.prog 56 #[.agg (Q0j x).toArray] w (Qgn x w):=by
 obtain ⟨l,O,t,N,ks⟩:=x;obtain ⟨y,z,G⟩:=H.inv;obtain ⟨D,E,rfl,_,_⟩:=y.form;obtain ⟨K,L,rfl,_,_⟩:=z.form;unfold Q1z at h;cases l with
 | false=>exact Qjm D t.length E t rfl _ ks w y (by omega)
 | true=>exact Qjn w D t.length E t y K ks.length L ks rfl w rfl z G (by omega) (fun k J w' I=>Q64 n k w' (by have:=Q4m J;omega) (by omega) I)
def Qol (ok:Bool)(B:List UInt8)(w:World)(e:Ending)(w':World):Prop :=
 ∃ v,e=.returned (.tuple #[v,.int .i64 (if ok=true then 0 else 1)])/\Q02 w' v (if ok=true then B else [])/\(∀ k,v.ownBlock=some k->w.heap.size<=k/\k<w'.heap.size)/\Below w.heap.size w w'/\(if ok=true then B else []).length<=1000000000
theorem Qqg (kd:Int)(L T G:Option Addr)(y M z U h I:Nat)(p v:List UInt8)(ps:List (Value × List UInt8))(af:p.length=y)(ai:v.length=z)(ad:ps.length=h)(w:World)(hp:Q02 w (.slice L y M) p)(hv:Q02 w (.slice T z U) v)(hk:Q12 w (.slice G h I) ps)(hP:y<=4194304)(hV:z<=1048576)(hK:h<=1048576)(ab:∀ q∈ps,q.2.length<=1048576) :
  Calls Tryz.prog 130 #[.agg #[.int .i64 kd,.slice L y M,.slice T z U,.slice G h I]] w (Qol (shOk kd p v (ps.map (·.2))) (shB kd p v (ps.map (·.2))) w):=by
 have ag:=D01 w 134 [.int .i64 kd,.slice L y M,.slice T z U,.slice G h I];have V:Below w.heap.size w (w.alloc (.cells #[.int .i64 kd,.slice L y M,.slice T z U,.slice G h I] 134)):=Qba _ _;have ci:=fun x hb=>Qcl kd L T G y M z U h I p v ps af ai ad x (hp.below hb) (hv.below hb) (hk.below hb) hP hV hK ab;obtain ⟨ok,a6⟩:=Qe (shOk kd p v (ps.map (·.2)));obtain ⟨B,hB⟩:=Qe (shB kd p v (ps.map (·.2)));simp only [<-a6,<-hB] at ci;rw [<-a6,<-hB];have Ci:=Qhd ci;clear ci a6 hB af ai ad ab hp hv hk;cases ok with
 | false =>
  go_enter Tryz.func130,Tryz.ntmps130
  go_wp2_with (first
   |(refine Qla 134 1 w.heap.size Q0a ag (by rfl) ?_)
   |(go_at_call 127;refine (Ci.out _ V).mono ?_;rintro e w3 ⟨E,N,S,O,t,H,K,J,ks,rfl,hI,b3⟩;have D:=D00 V b3;have W:=D.alloc D.size (.cells #[.bool E,.slice N S O,.slice H K J] 77)))
  go_ret2;exact ⟨_,rfl,Q05.nil b8 1 _,fun q Z=>by simp [Value.ownBlock] at Z,W,by simp⟩
 | true =>
  go_enter Tryz.func130,Tryz.ntmps130
  go_wp2_with (first
   |(refine Qla 134 1 w.heap.size Q0a ag (by rfl) ?_)
   |(go_at_call 127;refine (Ci.out _ V).mono ?_;rintro e w3 ⟨E,N,S,O,t,H,K,J,ks,rfl,hI,b3⟩;have D:=D00 V b3;have W:=D.alloc D.size (.cells #[.bool E,.slice N S O,.slice H K J] 77);obtain ⟨a',a4,aa⟩:=hI rfl;have am:=a'.kept ((Below.refl w3.heap.size w3).alloc (le_refl _) (.cells #[.bool E,.slice N S O,.slice H K J] 77));have aj:=Qhd a4;have HL:=Qhd (show B.length<=1000000000 by rw [<-a4];have:=Q4h 100000000 _ aa (by omega);omega);clear hI a' a4)
   |(go_at_call 47;refine (Qb9 _ (.mk E (.slice N S O) t (.slice H K J) ks) _ aa (by omega) am).mono ?_;rintro e w5 ⟨v5,rfl,o5,b5⟩;have aq:=D00 W b5))
  go_ret2;exact ⟨_,rfl,by rw [<-aj.out];exact o5.row,fun q Z=>⟨le_trans (Below.size W) (Q08.lt o5 q Z),Q08.ltT o5 q Z⟩,aq,HL.out⟩
theorem Q9i (kd:Int)(L T G:Option Addr)(y M z U h I:Nat)(p v:List UInt8)(ps:List (Value × List UInt8))(af:p.length=y)(ai:v.length=z)(ad:ps.length=h)(w:World)(hp:Q02 w (.slice L y M) p)(hv:Q02 w (.slice T z U) v)(hk:Q12 w (.slice G h I) ps)(hP:y<=4194304)(hV:z<=1048576)(hK:h<=1048576)(ab:∀ q∈ps,q.2.length<=1048576) :
  Calls Tryz.prog 136 #[.agg #[.int .i64 kd,.slice L y M,.slice T z U,.slice G h I]] w (Qol (shOk kd p v (ps.map (·.2))) (shB kd p v (ps.map (·.2))) w):=by
 have ag:=D01 w 134 [.int .i64 kd,.slice L y M,.slice T z U,.slice G h I];have V:Below w.heap.size w (w.alloc (.cells #[.int .i64 kd,.slice L y M,.slice T z U,.slice G h I] 134)):=Qba _ _;have ci:=fun x hb=>Qdo kd L T G y M z U h I p v ps af ai ad x (hp.below hb) (hv.below hb) (hk.below hb) hP hV hK ab;obtain ⟨ok,a6⟩:=Qe (shOk kd p v (ps.map (·.2)));obtain ⟨B,hB⟩:=Qe (shB kd p v (ps.map (·.2)));simp only [<-a6,<-hB] at ci;rw [<-a6,<-hB];have Ci:=Qhd ci;clear ci a6 hB af ai ad ab hp hv hk;cases ok with
 | false =>
  go_enter Tryz.func136,Tryz.ntmps136
  go_wp2_with (first
   |(refine Qla 134 1 w.heap.size Q0a ag (by rfl) ?_)
   |(go_at_call 160;refine (Ci.out _ V).mono ?_;rintro e w3 ⟨E,N,S,O,t,H,K,J,ks,rfl,hI,b3⟩;have D:=D00 V b3;have W:=D.alloc D.size (.cells #[.bool E,.slice N S O,.slice H K J] 77)))
  go_ret2;exact ⟨_,rfl,Q05.nil b8 1 _,fun q Z=>by simp [Value.ownBlock] at Z,W,by simp⟩
 | true =>
  go_enter Tryz.func136,Tryz.ntmps136
  go_wp2_with (first
   |(refine Qla 134 1 w.heap.size Q0a ag (by rfl) ?_)
   |(go_at_call 160;refine (Ci.out _ V).mono ?_;rintro e w3 ⟨E,N,S,O,t,H,K,J,ks,rfl,hI,b3⟩;have D:=D00 V b3;have W:=D.alloc D.size (.cells #[.bool E,.slice N S O,.slice H K J] 77);obtain ⟨a',a4,aa⟩:=hI rfl;have am:=a'.kept ((Below.refl w3.heap.size w3).alloc (le_refl _) (.cells #[.bool E,.slice N S O,.slice H K J] 77));have aj:=Qhd a4;have HL:=Qhd (show B.length<=1000000000 by rw [<-a4];have:=Q4h 100000000 _ aa (by omega);omega);clear hI a' a4)
   |(go_at_call 56;refine (Qfs _ (.mk E (.slice N S O) t (.slice H K J) ks) _ aa (by omega) am).mono ?_;rintro e w5 ⟨v5,rfl,o5,f5,b5⟩;have aq:=D00 W b5))
  go_ret2;exact ⟨_,rfl,by rw [<-aj.out];exact o5,fun q Z=>⟨le_trans (Below.size W) (f5 q Z).1,(f5 q Z).2⟩,aq,HL.out⟩
mutual
def cdN:Nd->List UInt8
 | .mk kd _ p _ v _ ks=>if shOk kd p v (if kd=1 then [] else smN ks)=true then shB kd p v (if kd=1 then [] else smN ks) else []
def smN:List Nd->List (List UInt8)
 | []=>[]
 | k::ks=>(if k.kd=0 then [] else sumB (cdN k))::smN ks
end
mutual
def alN:Nd->List (List UInt8)
 | .mk kd pv p vv v kv ks=>cdN (.mk kd pv p vv v kv ks)::(if kd=1 then [] else alL ks)
def alL:List Nd->List (List UInt8)
 | []=>[]
 | k::ks=>(if k.kd=0 then [] else alN k)++alL ks
end
theorem Qbo:∀ (ks:List Nd),(smN ks).length=ks.length
 | []=>by rw [smN];rfl
 | k::ks=>by rw [smN,List.length_cons,List.length_cons,Qbo ks]
theorem Qld (p v:List UInt8)(s h:List (List UInt8)):shOk 1 p v s=shOk 1 p v h:=by simp [shOk]
theorem Qp6 (p v:List UInt8)(s h:List (List UInt8)):shB 1 p v s=shB 1 p v h:=by simp [shB]
theorem Q6g:∀ (ks:List Nd)(k:Nd),smN (ks++[k])=smN ks++[if k.kd=0 then [] else sumB (cdN k)]
 | [],k=>by rw [List.nil_append,smN,smN];rfl
 | x::ks,k=>by rw [List.cons_append,smN,smN,Q6g ks k,List.cons_append]
theorem Q70:∀ (ks:List Nd)(k:Nd),alL (ks++[k])=alL ks++(if k.kd=0 then [] else alN k)
 | [],k=>by rw [List.nil_append,alL];simp only [alL,List.append_nil,List.nil_append]
 | x::ks,k=>by rw [List.cons_append,alL,alL,Q70 ks k,List.append_assoc]
theorem Q7q (t:Nd):∃ l,alN t=cdN t::l:=by
 cases t with
 | mk kd pv p vv v kv ks=>exact ⟨_,by rw [alN]⟩
def Q71 (B:List (List UInt8))(w:World)(e:Ending)(w':World):Prop:=∃ v ps,e=.returned v/\Q08 Q0p 1 25 w' w.heap.size v ps /\
 (∀ q∈ps,Q02 w' q.1 q.2/\q.2.length<=1000000000/\∀ k,q.1.ownBlock=some k->w.heap.size<=k/\k<w'.heap.size/\v.ownBlock≠some k)/\ps.map (·.2)=B/\Below w.heap.size w w'
theorem Qrn (E H W:Option Addr)(y G z I kn Z:Nat)(p v:List UInt8)(ks:List Nd)(pv vv kv:Value)(aj:p.length=y)(am:v.length=z)(w:World)(hp:Q02 w (.slice E y G) p)(hv:Q02 w (.slice H z I) v)(hP:y<=4194304)(hV:z<=1048576) :
  Calls Tryz.prog 109 #[.agg #[.int .i64 1,.slice E y G,.slice H z I,.slice W kn Z]] w (Q71 (alN (.mk 1 pv p vv v kv ks)) w):=by
 obtain ⟨L,O⟩:=Qe ((w.alloc (.cells #[.int .i64 1,.slice E y G,.slice H z I,.slice W kn Z] 70)).alloc (.cells #[.int .i64 0,.slice none 0 0,.slice none 0 0,.slice none 0 0] 134));have z1:Blk 70 L w.heap.size [.int .i64 1,.slice E y G,.slice H z I,.slice W kn Z]:=by rw [O];exact (D01 w _ _).alloc _
 have z2:Blk 134 L (w.heap.size+1) [.int .i64 0,.slice none 0 0,.slice none 0 0,.slice none 0 0]:=by
  have:=D01 (w.alloc (.cells #[.int .i64 1,.slice E y G,.slice H z I,.slice W kn Z] 70)) 134 [.int .i64 0,.slice none 0 0,.slice none 0 0,.slice none 0 0];simp only [World.size_alloc] at this;rw [O];exact this
 have af:Below w.heap.size w L:=by rw [O];exact (Qba _ _).alloc (by simp) _
 have ci:=fun x (U:Below w.heap.size w x)=>Q9i 1 E H none y G z I 0 0 p v [] aj am rfl x (hp.below U) (hv.below U) ⟨Q05.nil Q0p 1 x,fun q K=>absurd K (by simp)⟩ hP hV (by omega) (fun q K=>absurd K (by simp));have ag:cdN (.mk 1 pv p vv v kv ks)=if shOk 1 p v []=true then shB 1 p v [] else []:=by rw [cdN,if_pos rfl]
 have ae:alN (.mk 1 pv p vv v kv ks)=[cdN (.mk 1 pv p vv v kv ks)]:=by rw [alN,if_pos rfl]
 rw [ae,ag];obtain ⟨D,a5⟩:=Qe (if shOk 1 p v []=true then shB 1 p v [] else []);rw [<-a5];obtain ⟨ar,ah⟩:∃ x:Int,x=if shOk 1 p v []=true then 0 else 1:=⟨_,rfl⟩
 have Ci:Hid (∀ x,Below w.heap.size w x->Calls Tryz.prog 136 #[.agg #[.int .i64 1,.slice E y G,.slice H z I,.slice none 0 0]] x fun e w'=>∃ T,e=.returned (.tuple #[T,.int .i64 ar])/\Q02 w' T D/\(∀ k,T.ownBlock=some k->x.heap.size<=k/\k<w'.heap.size)/\Below x.heap.size x w'/\D.length<=1000000000):=Qhd fun x U=>by rw [a5,ah];exact ci x U
 have c0:=z1.cell 0;have c1:=z1.cell 1;have c2:=z1.cell 2;have ap:=Qhd O;have ao:=Qhd af;clear O af ci ag ae a5 ah aj am hp hv;go_enter Tryz.func109,Tryz.ntmps109
 go_wp2_with (first
  |(rw [<-ap.out];have c0:L.cell? ⟨w.heap.size,0,none⟩=some (.int .i64 1):=c0;have c1:L.cell? ⟨w.heap.size,1,none⟩=some (.slice E y G):=c1;have c2:L.cell? ⟨w.heap.size,2,none⟩=some (.slice H z I):=c2)
  |((with_reducible refine Qgs 21 ?_);refine Qsa 134 3 21 (w.heap.size+1) [.int .i64 1,.slice E y G,.slice H z I,.slice none 0 0] Q0a z2 (by rfl) (by rfl) (by intro u hu;simp at hu;rcases hu with rfl|rfl|rfl|rfl<;>rfl) ao.out (by omega) ?_;intro w3 y3 a6 _)
  |((with_reducible refine Qgl 64 ?_);refine Qla 134 3 (w.heap.size+1) Q0a y3 (by rfl) ?_)
  |(go_at_call 136;refine (Ci.out _ a6).mono ?_;rintro e w4 ⟨T,rfl,V,fc,b4,lc⟩;obtain ⟨M,N,rfl,_⟩:=V.form;have a7:=D00 a6 b4)
  |((with_reducible refine Qgl 69 ?_);refine Q0o (o:=⟨some 69,_,_,_,_,_⟩) (by rfl) 44 1 [(0,.tmp 68)] (by rfl) Q1i [(.slice M D.length N,D)] [.slice M D.length N] (by rfl) (by rfl) (by rfl) (by omega) (by omega) ?_;intro w5 y5 _ S;have a8:=D00 a7 S;have o5:=Blk.own (f:=Q0p) (size:=1) (l:=[(Value.slice M D.length N,D)]) (B:=w.heap.size) y5 1 (fun _=>rfl) rfl a7.size (by unfold maxLen;omega);have V:=V.kept S)
  |((with_reducible refine Qgl 71 ?_);refine Q0t (o:=⟨some 71,_,_,_,_,_⟩) (by rfl) (.tmp 69) (.tmp 70) 44 (by rfl) Q1i (m:=[]) (by simp) (by rfl) o5 (by rfl) (Q05.nil Q0p 1 _) (by have:=a8.size;omega) (by simp) (by simp;unfold maxLen;omega) ?_;intro v6 w6 o6 g6 p6))
 go_ret;have a9:∀ k,(Value.slice M D.length N).ownBlock=some k->k<w4.heap.size:=fun k J=>(fc k J).2;refine ⟨v6,[(.slice M D.length N,D)],rfl,by simpa using o6,fun q K=>?_,rfl,?_⟩
 ·rw [List.mem_singleton] at K;subst K;refine ⟨Q05.offT V g6 (fun x hx=>Nat.ne_of_lt (a9 x hx)),lc,fun k J=>⟨le_trans a6.size (fc k J).1,lt_of_lt_of_le (a9 k J) (le_trans S.size g6.size),fun e=>?_⟩⟩;have h1:=a9 k J;rcases p6 k e with h|h
  ·simp only [Value.ownBlock,Option.some.injEq] at h;omega
  have:=S.size;omega
 exact a8.grown g6 a8.size (fun k J=>by simp only [Value.ownBlock,Option.some.injEq] at J;have:=a7.size;omega)
structure TxG (w:World)(kv rv:Value)(u:World)(q:Value × List UInt8):Prop where
 h:Q02 u q.1 q.2
 l:q.2.length<=1000000000
 b:∀ k,q.1.ownBlock=some k->w.heap.size+2<=k/\k<u.heap.size/\kv.ownBlock≠some k/\rv.ownBlock≠some k
theorem TxG.kept {w:World}{D E:Value}{u u':World}{q:Value × List UInt8}(h:TxG w D E u q)(z:Below u.heap.size u u'):TxG w D E u' q :=
 ⟨h.h.kept z,h.l,fun k y=>⟨(h.b k y).1,lt_of_lt_of_le (h.b k y).2.1 z.size,(h.b k y).2.2⟩⟩
theorem TxG.grewS {w:World}{z E G:Value}{u u':World}{q:Value × List UInt8}(h:TxG w z G u q)(D:u.grownBy u' z.ownBlock)(H:∀ k,E.ownBlock=some k->z.ownBlock=some k∨u.heap.size<=k):TxG w E G u' q :=
 ⟨Q05.grownT h.h D (fun k y=>(h.b k y).2.1) (fun k y=>(h.b k y).2.2.1),h.l,fun k y=>⟨(h.b k y).1,lt_of_lt_of_le (h.b k y).2.1 D.size,fun e=>(H k e).elim (h.b k y).2.2.1 (fun I=>by have:=(h.b k y).2.1;omega),(h.b k y).2.2.2⟩⟩
theorem TxG.swap {w:World}{y z:Value}{u:World}{q:Value × List UInt8}(h:TxG w y z u q):TxG w z y u q:=⟨h.h,h.l,fun k hk=>⟨(h.b k hk).1,(h.b k hk).2.1,(h.b k hk).2.2.2,(h.b k hk).2.2.1⟩⟩
structure TcW (w:World)(N4:List Value)(kd:Int)(P V kv rv:Value)(sums rest:List (Value × List UInt8))(u:World):Prop where
 hb:Below w.heap.size w u
 z1:Blk 70 u w.heap.size N4
 z2:Blk 134 u (w.heap.size+1) [.int .i64 kd,P,V,kv]
 oS:Q08 Q0p 1 25 u (w.heap.size+2) kv sums
 oR:Q08 Q0p 1 25 u (w.heap.size+2) rv rest
 ne:∀ k,kv.ownBlock=some k->rv.ownBlock≠some k
 tS:∀ q∈sums,TxG w kv rv u q
 tR:∀ q∈rest,TxG w kv rv u q
section
variable {w:World} {N4:List Value} {kd:Int} {P V kv kv' rv rv':Value} {sums rest sums' rest':List (Value × List UInt8)} {u u':World}
theorem TcW.kept (h:TcW w N4 kd P V kv rv sums rest u)(y:Below u.heap.size u u'):TcW w N4 kd P V kv rv sums rest u' :=
 ⟨D00 h.hb y,h.z1.kept y,h.z2.kept y,h.oS.kept y,h.oR.kept y,h.ne,fun q z=>(h.tS q z).kept y,fun q z=>(h.tR q z).kept y⟩
theorem TcW.grewR (h:TcW w N4 kd P V kv rv sums rest u)(y:u.grownBy u' rv.ownBlock)(H:Q08 Q0p 1 25 u' (w.heap.size+2) rv' (rest++rest'))(E:∀ k,rv'.ownBlock=some k->rv.ownBlock=some k∨u.heap.size<=k)(G:∀ q∈rest',TxG w kv rv u q):TcW w N4 kd P V kv rv' sums (rest++rest') u' :=
 ⟨h.hb.grown y h.hb.size (fun k D=>by have:=Q08.lt h.oR k D;omega),h.z1.grown y (h.oR.notT h.z1 (by decide)),h.z2.grown y (h.oR.notT h.z2 (by decide)),
  h.oS.grown y (fun k D e=>h.ne k e D),H,fun k D e=>(E k e).elim (h.ne k D) (fun I=>by have:=Q08.ltT h.oS k D;omega),
  fun q z=>((h.tS q z).swap.grewS y E).swap,fun q z=>by
   rcases List.mem_append.1 z with z|z
   ·exact ((h.tR q z).swap.grewS y E).swap
   exact ((G q z).swap.grewS y E).swap⟩
theorem TxG.set {q:Value × List UInt8}(h:TxG w kv rv u q)(i:Nat)(v:Value):TxG w kv rv (u.setCell ⟨w.heap.size+1,i,none⟩ v) q :=
 ⟨Q05.grownT h.h (Qg4 u _ i v) (fun k y=>(h.b k y).2.1) (fun k y e=>by have:=(h.b k y).1;simp only [Option.some.injEq] at e;omega),h.l,fun k y=>by have:=h.b k y;simpa only [World.size_setCell] using this⟩
theorem TcW.grewS (h:TcW w N4 kd P V kv rv sums rest u)(z:u.grownBy u' kv.ownBlock)(J:Q08 Q0p 1 25 u' (w.heap.size+2) kv' (sums++sums'))(E:∀ k,kv'.ownBlock=some k->kv.ownBlock=some k∨u.heap.size<=k)(M:∀ q∈sums',TxG w kv rv u q) :
  TcW w N4 kd P V kv' rv (sums++sums') rest (u'.setCell ⟨w.heap.size+1,3,none⟩ kv'):=by
 have N:=h.z1.grown z (h.oS.notT h.z1 (by decide));have G:=h.z2.grown z (h.oS.notT h.z2 (by decide));have K:=h.oR.grown z (fun k y e=>h.ne k y e);have L:=h.hb.grown z h.hb.size (fun k y=>by have:=Q08.lt h.oS k y;omega);have H:=Qg4 u' (w.heap.size+1) 3 kv';have O:=G.set 3 kv';refine ⟨L.setCell (by simp) _,N.other _ (by simp) _,O,J.grown H (fun k y=>by cases y;exact J.notT G (by decide)),K.grown H (fun k y=>by cases y;exact K.notT G (by decide)),fun k y e=>(E k y).elim (fun I=>h.ne k I e) (fun I=>by have:=Q08.ltT h.oR k e;omega),fun q D=>?_,fun q D=>((h.tR q D).grewS z E).set 3 kv'⟩;rcases List.mem_append.1 D with D|D
 ·exact ((h.tS q D).grewS z E).set 3 kv'
 exact ((M q D).grewS z E).set 3 kv'
end
inductive OkN:Nd->Prop where
 | leaf (pv:Value) (p:List UInt8) (vv:Value) (v:List UInt8) (kv:Value) (ks:List Nd):OkN (.mk 1 pv p vv v kv ks)
 | inner (kd:Int) (pv:Value) (p:List UInt8) (vv:Value) (v:List UInt8) (kv:Value) (ks:List Nd) (hk:kd=2∨kd=3) (h:∀ k∈ks,k.kd≠0->OkN k):OkN (.mk kd pv p vv v kv ks)
mutual
theorem Qlo:∀ (d:Nat)(t:Nd),rgt d t=true->t.kd≠0->OkN t
 | d,.mk kd pv p vv v kv ks,h,hne=>by
  unfold rgt at h;by_cases h0:kd=0
  ·exact absurd h0 hne
  rw [if_neg h0] at h;by_cases h1:kd=1
  ·subst h1;exact .leaf ..
  rw [if_neg h1] at h;by_cases h2:kd=2
  ·rw [if_pos h2] at h;simp only [Bool.and_eq_true] at h;exact .inner kd pv p vv v kv ks (.inl h2) (Qfk _ ks h.2)
  rw [if_neg h2] at h;by_cases h3:kd=3
  ·rw [if_pos h3] at h;simp only [Bool.and_eq_true] at h;exact .inner kd pv p vv v kv ks (.inr h3) (Qfk _ ks h.1.2)
  rw [if_neg h3] at h;cases h
theorem Qfk:∀ (d:Nat)(ks:List Nd),rgtL d ks=true->∀ k∈ks,k.kd≠0->OkN k
 | _,[],_,k,y,_=>by simp at y
 | d,x::ks,h,k,y,hne=>by
  unfold rgtL at h;rw [Bool.and_eq_true] at h;rcases List.mem_cons.1 y with y|y
  ·rw [y] at hne |-;exact Qlo d x h.1 hne
  exact Qfk d ks h.2 k y hne
end
inductive FnN:Nd->Prop where
 | mk (kd:Int) (pv:Value) (p:List UInt8) (vv:Value) (v:List UInt8) (kv:Value) (ks:List Nd) (hp:p.length<=1048576) (hv:v.length<=1048576) (hk:ks.length<=1048576) (h:∀ k∈ks,FnN k):FnN (.mk kd pv p vv v kv ks)
theorem FnN.inv {kd:Int}{z:Value}{p:List UInt8}{D:Value}{v:List UInt8}{y:Value}{ks:List Nd}(h:FnN (.mk kd z p D v y ks)):p.length<=1048576/\v.length<=1048576/\ks.length<=1048576/\∀ k∈ks,FnN k:=by
 cases h with
 | mk _ _ _ _ _ _ _ hp hv hk h=>exact ⟨hp,hv,hk,h⟩
structure But2 (g:Nat)(v:Value)(w w':World):Prop where
 os:w'.os=w.os
 tape:w'.tape=w.tape
 output:w'.output=w.output
 size:w.heap.size<=w'.heap.size
 block:∀ k,k<w.heap.size->k≠g->v.ownBlock≠some k->w'.heap[k]?=w.heap[k]?
theorem But2.refl (g:Nat)(v:Value)(w:World):But2 g v w w:=⟨rfl,rfl,rfl,le_refl _,fun _ _ _ _=>rfl⟩
theorem But2.trans {g:Nat}{v G:Value}{w u u':World}(h:But2 g v w u)(H:∀ k,G.ownBlock=some k->v.ownBlock=some k∨w.heap.size<=k)(y:But2 g G u u'):But2 g v w u' :=
 ⟨y.os.trans h.os,y.tape.trans h.tape,y.output.trans h.output,le_trans h.size y.size,fun k E z D =>
  (y.block k (lt_of_lt_of_le E h.size) z (fun e=>(H k e).elim D (fun I=>by omega))).trans (h.block k E z D)⟩
theorem But2.kept {g:Nat}{v:Value}{w u u':World}(h:But2 g v w u)(y:Below u.heap.size u u'):But2 g v w u' :=
 ⟨y.os.trans h.os,y.tape.trans h.tape,y.output.trans h.output,le_trans h.size y.size,fun k z D E=>(y.block k (lt_of_lt_of_le z h.size)).trans (h.block k z D E)⟩
theorem But2.grown {g:Nat}{v:Value}{w u u':World}{row:Option Nat}(h:But2 g v w u)(y:u.grownBy u' row)(H:∀ k,row=some k->k=g∨v.ownBlock=some k∨w.heap.size<=k):But2 g v w u' :=
 ⟨y.os.trans h.os,y.tape.trans h.tape,y.output.trans h.output,le_trans h.size y.size,fun k G z D =>
  (y.block k (lt_of_lt_of_le G h.size) (fun e=>(H k e.symm).elim z (fun E=>E.elim D (fun E=>by omega)))).trans (h.block k G z D)⟩
theorem But2.below {g B:Nat}{v:Value}{w u:World}(h:But2 g v w u)(z:B<=w.heap.size)(D:B<=g)(y:∀ k,v.ownBlock=some k->B<=k):Below B w u :=
 ⟨h.os,h.tape,h.output,h.size,fun k E=>h.block k (by omega) (by omega) (fun e=>by have:=y k e;omega)⟩
theorem Blk.but {e:TypeId}{w w':World}{g k:Nat}{v:Value}{cs:List Value}(h:Blk e w k cs)(D:But2 g v w w')(y:k≠g)(z:v.ownBlock≠some k):Blk e w' k cs:=(D.block k h.lt y z).trans h
theorem Q05.but {α:Type}{f:α->List Value}{size:Nat}{w w':World}{g:Nat}{v a:Value}{l:List α}(h:Q05 f size w a l)(hb:But2 g v w w')(h1:a.ownBlock≠some g)(h2:∀ x,a.ownBlock=some x->v.ownBlock≠some x):Q05 f size w' a l:=by
 obtain ⟨D,a,c,rfl,H,I,y⟩:=h;refine ⟨D,a,c,rfl,H,I,?_⟩;rcases y with y|⟨b,off,s,rfl,E,y⟩
 ·exact .inl y
 refine .inr ⟨b,off,s,rfl,E,fun j u G=>?_⟩;have z:=y j u G;rw [World.cell?_of_block (w:=w) (hb.block b (World.block_lt_of_cell? w _ z) (fun e=>h1 (by rw [<-e];rfl)) (h2 b rfl))];exact z
theorem Q08.but {α:Type}{f:α->List Value}{size:Nat}{e:TypeId}{w w':World}{g B:Nat}{v a:Value}{l:List α}(h:Q08 f size e w B a l)(hb:But2 g v w w')(h1:a.ownBlock≠some g)(h2:∀ x,a.ownBlock=some x->v.ownBlock≠some x):Q08 f size e w' B a l:=by
 refine ⟨h.1,?_⟩;rcases h.2 with y|⟨q,cap,D,rfl,y,z,E⟩
 ·exact .inl y
 exact .inr ⟨q,cap,D,rfl,y,(hb.block q (Array.getElem?_eq_some_iff.1 z).1 (fun e=>h1 (by rw [<-e];rfl)) (h2 q rfl)).trans z,E⟩
end Go.Proofs.YtbdmkfjgnjfjbaaGreat
