/- The reference's goDown. | The reference's IMake. | What a world comes to, what its proofs are: plain Lean. | world.State, the reference's OState. | world.Prove, -/
import Derived.Test.YtbdmkfjgnjfjbaaGreatBlockListsK29
import Derived.Test.YtbdmkfjgnjfjbaaGreatBlockListsK24
import Derived.Test.YtbdmkfjgnjfjbaaGreatBlockListsK30
set_option linter.unusedSimpArgs false
set_option linter.unusedVariables false
set_option maxHeartbeats 4000000
set_option maxRecDepth 100000
open List (getElem?_map getElem_cons_succ getElem_cons_zero getElem_toArray length_cons length_map length_nil length_singleton length_take map_append mem_cons_self mem_singleton setIfInBounds_toArray set_cons_succ set_cons_zero)
open Nat (le_refl le_trans)
namespace Go.Proofs.YtbdmkfjgnjfjbaaGreat
open Go.RowKit
def Qiq (A:List (List UInt8))(w:World)(e:Ending)(w':World):Prop:=∃ v ps,e=.returned v/\Q05 Q0p 1 w' v ps/\(∀ q∈ps,Q02 w' q.1 q.2/\∀ k,q.1.ownBlock=some k->w.heap.size<=k/\k<w'.heap.size)/\ps.map (·.2)=A/\Below w.heap.size w w'
def GdC (t:Nd):Prop:=∀ (n d:Nat) (p:List UInt8) (w:World),IsNd w t->FnN t->Q15 t<=10000000000->Q15 t<=n->n<=10000000000->rgt d t=true->(∀ x∈p,x.toNat<16)->p.length<=1000000000->Calls Tryz.prog 94 #[.agg (Q04 t).toArray,.string ⟨p.toArray⟩] w (Qiq (dn n t p) w)
theorem Qtl {d:Nat}{t:Nd}(h:rgt d t=true):t.kd=0∨t.kd=1∨t.kd=2∨t.kd=3:=by
 obtain ⟨kd,z,p,D,v,y,ks⟩:=t;show kd=0∨kd=1∨kd=2∨kd=3;unfold rgt at h;by_cases h0:kd=0
 ·exact .inl h0
 by_cases h1:kd=1
 ·exact .inr (.inl h1)
 by_cases h2:kd=2
 ·exact .inr (.inr (.inl h2))
 by_cases h3:kd=3
 ·exact .inr (.inr (.inr h3))
 rw [if_neg h0,if_neg h1,if_neg h2,if_neg h3] at h;cases h
theorem Qix (t:Nd)(d:Nat)(G:rgt d t=true)(z:FnN t)(y:Q15 t<=10000000000)(w:World)(h:IsNd w t):Calls Tryz.prog 109 #[.agg (Q04 t).toArray] w (Q71 (whN t) w):=by
 unfold whN;by_cases h0:t.kd=0
 ·rw [if_pos h0];obtain ⟨kd,S,p,T,v,O,ks⟩:=t;obtain rfl:kd=0:=h0;obtain ⟨E,H,D,_⟩:=h.inv;obtain ⟨K,L,rfl,_,_⟩:=E.form;obtain ⟨M,N,rfl,_,_⟩:=H.form;obtain ⟨I,J,rfl,_,_⟩:=D.form;exact Qkt K M I _ L _ N _ J w
 rw [if_neg h0];exact Qku (SizeOf.sizeOf t) t (le_refl _) (Qlo d t G h0) z y w h
theorem Qnx:∀ (n:Nat)(t:Nd)(p:List UInt8),(dn n t p).length<=n+1
 | 0,t,p=>by rw [dn];simp
 | n+1,.mk kd pv path vv v kv ks,p=>by
  cases h:rst kd path p with
  | none=>rw [dn,h];simp
  | some x =>
   obtain ⟨j,q⟩:=x;cases hk:ks[j]? with
   | none=>rw [dn,h];simp only [hk];simp
   | some k =>
    rw [dn,h];simp only [hk];split
    ·simp
    have:=Qnx n k q;simp only [length_cons];omega
theorem Qsq {kd:Int}{z:Value}{path:List UInt8}{D:Value}{v:List UInt8}{y:Value}{ks:List Nd}{n:Nat}{p:List UInt8}(h:rst kd path p=none):dn (n+1) (.mk kd z path D v y ks) p=[hdN (.mk kd z path D v y ks)]:=by rw [dn,h]
theorem Qsp {kd:Int}{z:Value}{path:List UInt8}{D:Value}{v:List UInt8}{y:Value}{ks:List Nd}{n j:Nat}{p q:List UInt8}{k:Nd}(h:rst kd path p=some (j,q))(G:ks[j]?=some k)(E:k.kd=0):dn (n+1) (.mk kd z path D v y ks) p=[hdN (.mk kd z path D v y ks)]:=by
 rw [dn,h];simp only [G,E,if_true]
theorem Qu8 {kd:Int}{z:Value}{path:List UInt8}{D:Value}{v:List UInt8}{y:Value}{ks:List Nd}{n j:Nat}{p q:List UInt8}{k:Nd}(h:rst kd path p=some (j,q))(G:ks[j]?=some k)(E:k.kd≠0):dn (n+1) (.mk kd z path D v y ks) p=hdN (.mk kd z path D v y ks)::dn n k q:=by
 rw [dn,h];simp only [G];rw [if_neg E]
theorem Qsm (kd:Int)(J W xa:Option Addr)(H L T Z M S:Nat)(path vb:List UInt8)(ks:List Nd)(b1:path.length=H)(bj:vb.length=T)(bk:ks.length=M)(n d:Nat)(p:List UInt8)(w:World)(hI:IsNd w (.mk kd (.slice J H L) path (.slice W T Z) vb (.slice xa M S) ks))
  (hf:FnN (.mk kd (.slice J H L) path (.slice W T Z) vb (.slice xa M S) ks)) (hb:Q15 (.mk kd (.slice J H L) path (.slice W T Z) vb (.slice xa M S) ks)<=10000000000) (hn:n<=9999999999) (hr:rgt d (.mk kd (.slice J H L) path (.slice W T Z) vb (.slice xa M S) ks)=true) (z:∀ x∈p,x.toNat<16) (hpl:p.length<=1000000000)
  (ih:∀ k∈ks,∀ (d:Nat) (q:List UInt8) (u:World),Below w.heap.size w u->rgt d k=true->(∀ x∈q,x.toNat<16)->q.length<=1000000000->Calls Tryz.prog 94 #[.agg (Q04 k).toArray,.string ⟨q.toArray⟩] u (Qiq (dn n k q) u)) :
  Calls Tryz.prog 94 #[.agg #[.int .i64 kd,.slice J H L,.slice W T Z,.slice xa M S],.string ⟨p.toArray⟩] w (Qiq (dn (n+1) (.mk kd (.slice J H L) path (.slice W T Z) vb (.slice xa M S) ks) p) w):=by
 obtain ⟨w1,az⟩:=Qe (w.alloc (.cells #[.int .i64 kd,.slice J H L,.slice W T Z,.slice xa M S] 70));have z1:Blk 70 w1 w.heap.size [.int .i64 kd,.slice J H L,.slice W T Z,.slice xa M S]:=by rw [az];exact D01 w _ _
 have ag:Below w.heap.size w w1:=by rw [az];exact Qba _ _
 obtain ⟨hp,hv,hk,bd⟩:=hI.inv;obtain ⟨t,ht⟩:=Qe (Nd.mk kd (.slice J H L) path (.slice W T Z) vb (.slice xa M S) ks);have ct:Calls Tryz.prog 109 #[.agg #[.int .i64 kd,.slice J H L,.slice W T Z,.slice xa M S]] w1 (Q71 (whN t) w1):=by rw [ht];exact Qix _ d hr hf hb w1 (hI.kept ag)
 obtain ⟨l0,aZ⟩:=Qqq t;have aY:kd=0∨kd=1∨kd=2∨kd=3:=Qtl hr;have cw:=fun u (hu:Below w.heap.size w u)=>Qkj kd J H L path p b1 hpl u (hp.below hu) aY;obtain ⟨wi,wq,wb,aN⟩:∃ a b c,wayP kd path p=(a,b,c):=⟨_,_,_,rfl⟩;rw [aN] at cw;have bH:=Qru kd path p;rw [aN] at bH;have b9:=Qhd az;have Ct:=Qhd ct;have Cw:Hid (∀ u,Below w.heap.size w u->Calls Tryz.prog 120 #[.int .i64 kd,.slice J H L,.string ⟨p.toArray⟩] u fun e w'=>e=.returned (.tuple #[.int .i64 wi,.string ⟨wq.toArray⟩,.bool wb])/\Below u.heap.size u w'):=Qhd cw;have b7:=Qhd aZ;rcases bH with ⟨ac,aM⟩|⟨j,q,ac,aM,bI⟩
 ·dsimp only at aM;subst aM;have ah:dn (n+1) (.mk kd (.slice J H L) path (.slice W T Z) vb (.slice xa M S) ks) p=[hdN t]:=by rw [Qsq ac,ht]
  have av:=Qhd ah;clear hf az ct cw ah ac aZ aN hr hI hb ih z ht bd hk hv hp aY bk bj b1;go_enter Tryz.func94,Tryz.ntmps94
  go_wp2_with (first
   |((with_reducible refine Qgl 9 ?_);rw [<-b9.out];refine Qla 70 2 w.heap.size Q07 z1 (by rfl) ?_)
   |(go_at_call 109;(with_reducible refine Ct.out.mono ?_);rintro e w2 ⟨v2,bJ,rfl,o2,t2,m2,b2⟩;obtain ⟨qv,aQ,rfl,_⟩:=Q6a (m2.trans b7.out);obtain ⟨n2,ai⟩:=Qe (aQ.length+1);obtain ⟨a2,c2,rfl,_⟩:=o2.form' n2 (by rw [ai];rfl);obtain ⟨b3,c3,bL,aR⟩:=Qdj Q69 o2.row 1 (by omega) 1 rfl;have ae:=D00 ag b2;have z2:=z1.kept b2;have I:=t2 _ mem_cons_self;have d0:w2.cell? ⟨w.heap.size,0,none⟩=some (.int .i64 kd):=z2.cell 0;have d1:w2.cell? ⟨w.heap.size,1,none⟩=some (.slice J H L):=z2.cell 1;clear m2 t2 ai)
   |(go_at_call 120;(with_reducible refine (Cw.out _ ae).mono ?_);rintro e D ⟨rfl,G⟩;have U:=D00 ae G))
  go_ret;exact ⟨_,[(qv,hdN t)],rfl,aR.kept G,fun x z=>by rw [mem_singleton] at z;subst z;exact ⟨I.1.kept G,fun k hk=>⟨le_trans ag.size (I.2.2 k hk).1,Nat.lt_of_lt_of_le (I.2.2 k hk).2.1 G.size⟩⟩,av.out.symm,U⟩
 dsimp only at aM bI;subst aM bI;obtain ⟨k,d1,aq,bg,_,_⟩:=Q8u hr ac z;obtain ⟨bf,bF,_⟩:=Q83 ac z;have be:=List.mem_of_getElem? aq;have bc:j<ks.length:=(List.getElem?_eq_some_iff.1 aq).1;have bb:ks[j]=k:=(List.getElem?_eq_some_iff.1 aq).2;obtain ⟨xb,xo,rfl,ax⟩:=Q05.range Q0b hk j bc;rw [bb] at ax;have c0:(j:Int)<(M:Int):=by omega
 have bZ:((j:Int)<0)=False:=eq_false (by omega);have b4:=fun u hu=>ih k be d1 wq u hu bg bf (by omega);obtain ⟨KK,aG⟩:=Qe (Q04 k);have ba:KK.length=4:=by rw [aG];exact Q0b k
 have aJ:w.cell? ⟨xb,xo+j*4,none⟩=some (.int .i64 k.kd):=by
  have:=ax 0 (.int .i64 k.kd) (by cases k;rfl);simpa using this
 rw [<-aG] at ax;simp only [<-aG] at b4;obtain ⟨kk,aK⟩:=Qe (k.kd);rw [<-aK] at aJ;by_cases hk0:kk=0
 ·have ah:dn (n+1) (.mk kd (.slice J H L) path (.slice W T Z) vb (.slice (some ⟨xb,xo,none⟩) M S) ks) p=[hdN t]:=by rw [Qsp ac aq (by rw [<-aK,hk0]),ht]
  subst hk0;have av:=Qhd ah;have aC:=Qhd aJ;clear hf az ct cw ah ac aZ aN hr hI hb ih z ht bd hk hv hp aY bk bj b1 aq bg bf bF be bc bb ax b4 aG ba aK aJ;go_enter Tryz.func94,Tryz.ntmps94
  go_wp2_with (first
   |((with_reducible refine Qgl 9 ?_);rw [<-b9.out];refine Qla 70 2 w.heap.size Q07 z1 (by rfl) ?_)
   |(go_at_call 109;(with_reducible refine Ct.out.mono ?_);rintro e w2 ⟨v2,bJ,rfl,o2,t2,m2,b2⟩;obtain ⟨qv,aQ,rfl,_⟩:=Q6a (m2.trans b7.out);obtain ⟨n2,ai⟩:=Qe (aQ.length+1);obtain ⟨a2,c2,rfl,_⟩:=o2.form' n2 (by rw [ai];rfl);obtain ⟨b3,c3,bL,aR⟩:=Qdj Q69 o2.row 1 (by omega) 1 rfl;have ae:=D00 ag b2;have z2:=z1.kept b2;have I:=t2 _ mem_cons_self;have d0:w2.cell? ⟨w.heap.size,0,none⟩=some (.int .i64 kd):=z2.cell 0;have d1:w2.cell? ⟨w.heap.size,1,none⟩=some (.slice J H L):=z2.cell 1;clear m2 t2 ai)
   |(go_at_call 120;(with_reducible refine (Cw.out _ ae).mono ?_);rintro e D ⟨rfl,G⟩;have U:=D00 ae G;have z3:=z2.kept G;have d3:D.cell? ⟨w.heap.size,3,none⟩=some (.slice (some ⟨xb,xo,none⟩) M S):=z3.cell 3;have dk:D.cell? ⟨xb,xo+j*4,none⟩=some (.int .i64 0):=(U.cell (World.block_lt_of_cell? w _ aC.out)).trans aC.out))
  go_ret;exact ⟨_,[(qv,hdN t)],rfl,aR.kept G,fun x z=>by rw [mem_singleton] at z;subst z;exact ⟨I.1.kept G,fun k hk=>⟨le_trans ag.size (I.2.2 k hk).1,Nat.lt_of_lt_of_le (I.2.2 k hk).2.1 G.size⟩⟩,av.out.symm,U⟩
 have ah:dn (n+1) (.mk kd (.slice J H L) path (.slice W T Z) vb (.slice (some ⟨xb,xo,none⟩) M S) ks) p=hdN t::dn n k wq:=by rw [Qu8 ac aq (by rw [<-aK];exact hk0),ht]
 have nk:(kk==0)=false:=by rw [beq_eq_false_iff_ne];exact hk0
 have av:=Qhd ah;have aC:=Qhd aJ;have br:=Qhd ax;have bs:=Qhd b4;have bN:=Qhd ba;clear hf az ct cw ah ac aZ aN hr hI hb ih z ht bd hk hv hp aY bk bj b1 aq bg bf bF be bc bb ax b4 aG ba aK aJ hk0;go_enter Tryz.func94,Tryz.ntmps94
 go_wp2_with (first
  |((with_reducible refine Qgl 9 ?_);rw [<-b9.out];refine Qla 70 2 w.heap.size Q07 z1 (by rfl) ?_)
  |(go_at_call 109;(with_reducible refine Ct.out.mono ?_);rintro e w2 ⟨v2,bJ,rfl,o2,t2,m2,b2⟩;obtain ⟨qv,aQ,rfl,_⟩:=Q6a (m2.trans b7.out);obtain ⟨n2,ai⟩:=Qe (aQ.length+1);obtain ⟨a2,c2,rfl,_⟩:=o2.form' n2 (by rw [ai];rfl);obtain ⟨b3,c3,bL,aR⟩:=Qdj Q69 o2.row 1 (by omega) 1 rfl;have ae:=D00 ag b2;have z2:=z1.kept b2;have I:=t2 _ mem_cons_self;have d0:w2.cell? ⟨w.heap.size,0,none⟩=some (.int .i64 kd):=z2.cell 0;have d1:w2.cell? ⟨w.heap.size,1,none⟩=some (.slice J H L):=z2.cell 1;clear m2 t2 ai)
  |(go_at_call 120;(with_reducible refine (Cw.out _ ae).mono ?_);rintro e D ⟨rfl,G⟩;have U:=D00 ae G;have z3:=z2.kept G;have d3:D.cell? ⟨w.heap.size,3,none⟩=some (.slice (some ⟨xb,xo,none⟩) M S):=z3.cell 3;have dk:D.cell? ⟨xb,xo+j*4,none⟩=some (.int .i64 kk):=(U.cell (World.block_lt_of_cell? w _ aC.out)).trans aC.out))
 obtain ⟨gb,go,rfl,rr⟩:=Q05.range (f:=Q0p) (size:=1) (fun _=>rfl) (aR.kept G) 0 (by simp);have dq:D.cell? ⟨gb,go,none⟩=some qv:=by have:=rr 0 qv rfl;simpa using this
 obtain ⟨N,O,rfl,_⟩:=I.1.form
 try dsimp only at I
 have bE:D.rangeAt xb (xo+j*4) KK:=fun i v hv=>(U.cell (World.block_lt_of_cell? w _ (br.out i v hv))).trans (br.out i v hv);have bO:=Qhd bE;clear rr bE;refine Q0w ((fun u=>Below D.heap.size D u)) (by kernel_rfl) ?_;intro u0 bG;simp only [length_cons,length_nil,Nat.reduceAdd,List.replicate_succ,List.replicate_zero];have aH:Below D.heap.size D u0:=(by rw [bG];exact (Below.refl _ _).drew);clear bG;have k2:∀ u:In (fun u=>Below D.heap.size D u),u.val.cell? ⟨gb,go,none⟩=some (.slice N (hdN t).length O):=fun u=>(Below.cell u.held (World.block_lt_of_cell? D _ dq)).trans dq;have k3:∀ u:In (fun u=>Below D.heap.size D u),u.val.cell? ⟨w.heap.size,3,none⟩=some (.slice (some ⟨xb,xo,none⟩) M S):=fun u=>(Below.cell u.held (World.block_lt_of_cell? D _ d3)).trans d3;clear dq d3 dk;refine Qtk 0 (fun K h=>?_);simp only [Qzs] at h;go_simp;(first|refine h _ ?_|refine ⟨_,fun _=>rfl,h _ ?_⟩);clear h K;refine Qtk 1 (fun K h=>?_);simp only [Qzs] at h;go_simp;(first|refine h _ ?_|refine ⟨_,fun _=>rfl,h _ ?_⟩);clear h K;refine Qtk 2 (fun K h=>?_);simp only [Qzs] at h;go_simp;(first|refine h _ ?_|refine ⟨_,fun _=>rfl,h _ ?_⟩);clear h K;refine Qtk 4 (fun K h=>?_);simp only [Qzs] at h;go_simp;(first|refine h _ ?_|refine ⟨_,fun _=>rfl,h _ ?_⟩);clear h K;refine Qtk 5 (fun K h=>?_);simp only [Qzs] at h;go_simp;(first|refine h _ ?_|refine ⟨_,fun _=>rfl,h _ ?_⟩);clear h K;refine Qtk 6 (fun K h=>?_);simp only [Qzs] at h;go_simp;(first|refine h _ ?_|refine ⟨_,fun _=>rfl,h _ ?_⟩);clear h K;refine Qtk 7 (fun K h=>?_);simp only [Qzs] at h;go_simp;(first|refine h _ ?_|refine ⟨_,fun _=>rfl,h _ ?_⟩);clear h K
 (refine Qtk 8 (fun K h=>?_);simp only [Qzs] at h;refine Q77 (by rfl) 70 (.tmp 41) (by rfl) xb (xo+j*4) (by rfl) Q07 bN.out (fun u hu=>World.rangeAt.below bO.out hu) (h _ ?_);clear h K;simp only [Act.put,getElem_toArray,getElem_cons_zero,getElem_cons_succ,setIfInBounds_toArray,set_cons_zero,set_cons_succ])
 refine Qtk 9 (fun K h=>?_);simp only [Qzs] at h;go_simp;(first|refine h _ ?_|refine ⟨_,fun _=>rfl,h _ ?_⟩);clear h K;clear k2 k3;refine Q4q [3,10] (by kernel_rfl) (by simp) ?_;intro i hi;simp only [List.mem_cons,List.not_mem_nil,or_false] at hi;rcases hi with rfl|rfl
 ·(refine Q31 (i:=3) (by rfl) (fun K h=>?_);simp only [Qzs] at h;go_simp)
  have ao:Below u0.heap.size u0 (u0.alloc (.cells #[Value.slice N (hdN t).length O] 25)):=Qba _ _;have V:=Blk.own (f:=Q0p) (size:=1) (l:=[(Value.slice N (hdN t).length O,hdN t)]) (B:=u0.heap.size) (D01 u0 25 [Value.slice N (hdN t).length O]) 1 (fun _=>rfl) rfl (le_refl _) (by unfold maxLen;omega);have aI:=D00 aH ao;refine h _ _ aI ?_;clear h K;have ar:(u0.alloc (.cells #[Value.slice N (hdN t).length O] 25)).heap.size=u0.heap.size+1:=World.size_alloc _ _;obtain ⟨af,a6⟩:=Qe (u0.heap.size);obtain ⟨u1,bh⟩:=Qe (u0.alloc (.cells #[Value.slice N (hdN t).length O] 25));change Q08 Q0p 1 25 (u0.alloc (.cells #[Value.slice N (hdN t).length O] 25)) u0.heap.size _ _ at V;have bC:D.heap.size<=af:=by rw [a6];exact Below.size aH
  rw [<-bh] at aI V ar;rw [<-a6] at V ar
  try simp only [<-a6,<-bh]
  clear bh a6 ao
  (refine Q0f 10 (by rfl) (by kernel_rfl) (fun K h=>?_);simp only [Qzs] at h;go_simp)
  refine (bs.out _ (D00 U aI)).mono ?_;rintro e u2 ⟨bW,bn,rfl,al,a0,aO,aU⟩;have a5:=D00 aI aU;obtain ⟨bP,bR,rfl,_⟩:=al.form;refine h _ _ a5 ?_;clear h K
  try simp only [Act.put,getElem_toArray,getElem_cons_zero,getElem_cons_succ,setIfInBounds_toArray,set_cons_zero,set_cons_succ]
  have V:=Q08.lower (V.kept aU) (B':=D.heap.size) bC;have bT:bn.length<=10000000000:=by have h1:=Qnx n k wq;have h2:=congrArg List.length aO;rw [length_map] at h2;omega
  refine Q0f 11 (by rfl) (by kernel_rfl) (fun K h=>?_);simp only [Qzs] at h;refine Q2v (by rfl) (.tmp 37) (.tmp 44) 44 (by rfl) Q1i (Q1h (fun x z=>(a0 x z).1)) (by rfl) V (by rfl) al a5.size (by simp only [length_cons,length_nil];omega) (by simp only [length_cons,length_nil];unfold maxLen;omega) (fun v5 u5 o5 g5=>?_);have ap:=a5.grown g5 a5.size (fun x z=>by simp only [Value.ownBlock,Option.some.injEq] at z;omega);refine h _ _ ap ?_;clear h K
  try simp only [Act.put,getElem_toArray,getElem_cons_zero,getElem_cons_succ,setIfInBounds_toArray,set_cons_zero,set_cons_succ]
  refine Qtk 12 (fun K h=>?_);simp only [Qzs] at h;go_simp;(first|refine h _ ?_|refine ⟨_,fun _=>rfl,h _ ?_⟩);clear h K;refine Q11 (by kernel_rfl) ?_
  go_wp2_with fail
  go_ret;refine ⟨v5,_,rfl,o5.row,fun x z=>?_,by rw [map_append,aO,av.out];rfl,D00 U ap⟩;rcases List.mem_append.1 z with z|z
  ·rw [mem_singleton] at z;subst z;have h1:Q02 u2 (.slice N (hdN t).length O) (hdN t):=I.1.below (D00 G a5);exact ⟨Q05.offT h1 g5 (fun y E=>by have:=(I.2.2 y E).2.1;have:=G.size;show y≠af;omega),fun y E=>⟨le_trans ag.size (I.2.2 y E).1,by have h2:=(I.2.2 y E).2.1;have h3:=G.size;have h4:=ap.size;omega⟩⟩
  exact ⟨Q05.offT (a0 x z).1 g5 (fun y E=>by have h1:=((a0 x z).2 y E).1;have h2:=((a0 x z).2 y E).2;show y≠af;omega),fun y E=>⟨by have h1:=((a0 x z).2 y E).1;have h2:=U.size;have h3:=aI.size;omega,by have h1:=((a0 x z).2 y E).2;have h2:=g5.size;have h3:=ar;omega⟩⟩
 (refine Q31 (i:=10) (by rfl) (fun K h=>?_);simp only [Qzs] at h;go_simp)
 refine (bs.out _ (D00 U aH)).mono ?_;rintro e u2 ⟨bW,bn,rfl,al,a0,aO,aU⟩;have a5:=D00 aH aU;obtain ⟨bP,bR,rfl,_⟩:=al.form;refine h _ _ a5 ?_;clear h K
 try simp only [Act.put,getElem_toArray,getElem_cons_zero,getElem_cons_succ,setIfInBounds_toArray,set_cons_zero,set_cons_succ]
 (refine Q0f 3 (by rfl) (by kernel_rfl) (fun K h=>?_);simp only [Qzs] at h;go_simp)
 have ao:Below u2.heap.size u2 (u2.alloc (.cells #[Value.slice N (hdN t).length O] 25)):=Qba _ _;have V:=Blk.own (f:=Q0p) (size:=1) (l:=[(Value.slice N (hdN t).length O,hdN t)]) (B:=u2.heap.size) (D01 u2 25 [Value.slice N (hdN t).length O]) 1 (fun _=>rfl) rfl (le_refl _) (by unfold maxLen;omega);have aw:=D00 a5 ao;have al:=al.kept ao;have bo:=fun x z=>(⟨(a0 x z).1.kept ao,trivial⟩:Q02 (u2.alloc (.cells #[Value.slice N (hdN t).length O] 25)) x.1 x.2/\True);refine h _ _ aw ?_;clear h K;have ar:(u2.alloc (.cells #[Value.slice N (hdN t).length O] 25)).heap.size=u2.heap.size+1:=World.size_alloc _ _;obtain ⟨af,a6⟩:=Qe (u2.heap.size);obtain ⟨u3,bi⟩:=Qe (u2.alloc (.cells #[Value.slice N (hdN t).length O] 25));change Q08 Q0p 1 25 (u2.alloc (.cells #[Value.slice N (hdN t).length O] 25)) u2.heap.size _ _ at V;have bC:D.heap.size<=af:=by rw [a6];exact Below.size a5
 rw [<-bi] at aw V ar al bo;have V:=Q08.lower V (B':=D.heap.size) (Below.size a5);rw [<-a6] at V ar
 try simp only [<-a6,<-bi]
 have bY:af=u2.heap.size:=a6;clear bi a6 ao;have bT:bn.length<=10000000000:=by have h1:=Qnx n k wq;have h2:=congrArg List.length aO;rw [length_map] at h2;omega
 refine Q0f 11 (by rfl) (by kernel_rfl) (fun K h=>?_);simp only [Qzs] at h;refine Q2v (by rfl) (.tmp 37) (.tmp 44) 44 (by rfl) Q1i (Q1h (fun x z=>(bo x z).1)) (by rfl) V (by rfl) al aw.size (by simp only [length_cons,length_nil];omega) (by simp only [length_cons,length_nil];unfold maxLen;omega) (fun v5 u5 o5 g5=>?_);have ap:=aw.grown g5 aw.size (fun x z=>by simp only [Value.ownBlock,Option.some.injEq] at z;omega);refine h _ _ ap ?_;clear h K
 try simp only [Act.put,getElem_toArray,getElem_cons_zero,getElem_cons_succ,setIfInBounds_toArray,set_cons_zero,set_cons_succ]
 refine Qtk 12 (fun K h=>?_);simp only [Qzs] at h;go_simp;(first|refine h _ ?_|refine ⟨_,fun _=>rfl,h _ ?_⟩);clear h K;refine Q11 (by kernel_rfl) ?_
 go_wp2_with fail
 go_ret;refine ⟨v5,_,rfl,o5.row,fun x z=>?_,by rw [map_append,aO,av.out];rfl,D00 U ap⟩;rcases List.mem_append.1 z with z|z
 ·rw [mem_singleton] at z;subst z;have h1:Q02 u3 (.slice N (hdN t).length O) (hdN t):=I.1.below (D00 G aw);exact ⟨Q05.offT h1 g5 (fun y E=>by have:=(I.2.2 y E).2.1;have:=G.size;show y≠af;omega),fun y E=>⟨le_trans ag.size (I.2.2 y E).1,by have h2:=(I.2.2 y E).2.1;have h3:=G.size;have h4:=ap.size;omega⟩⟩
 exact ⟨Q05.offT (bo x z).1 g5 (fun y E=>by have h1:=((a0 x z).2 y E).1;have h2:=((a0 x z).2 y E).2;show y≠af;omega),fun y E=>⟨by have h1:=((a0 x z).2 y E).1;have h2:=U.size;have h3:=aH.size;omega,by have h1:=((a0 x z).2 y E).2;have h2:=g5.size;have h3:=ar;omega⟩⟩
theorem Qr4:∀ (m:Nat)(t:Nd),SizeOf.sizeOf t<=m->GdC t
 | 0,.mk kd pv p vv v kv ks,h=>by simp at h
 | m+1,.mk kd pv path vv v kv ks,h=>by
  intro n d p w D G E K hN S W M;have H:=D;obtain ⟨L,V,y,I⟩:=D.inv;obtain ⟨pa,pc,rfl,_,_⟩:=L.form;obtain ⟨va,vc,rfl,_,_⟩:=V.form;obtain ⟨Z,kc,rfl,_,_⟩:=y.form;have J:=E;simp only [Q15] at J K;obtain ⟨z,rfl⟩:∃ z,n=z+1:=⟨n - 1,by omega⟩;exact Qsm kd pa va Z path.length pc v.length vc ks.length kc path v ks rfl rfl rfl z d p w H G E (by omega) S W M (fun k y d q u U T N O=>Qr4 m k (by
   have:=List.sizeOf_lt_of_mem y;simp only [Nd.mk.sizeOf_spec] at h;omega) z d q u ((I k y).kept U) (G.inv.2.2.2 k y) (by have:=Q1u y;omega) (by have:=Q1u y;omega) (by omega) T N O)
theorem Qne (y:Nd)(ka:Option Addr)(N kc:Nat)(z:List UInt8)(ac:z.length=N)(w:World)(W:IsNd w y)(a0:BgN y)(hk:Q02 w (.slice ka N kc) z) :
  Calls Tryz.prog 61 #[.agg (Q04 y).toArray,.slice ka N kc] w (MkP (mkE y z) (mkL y z) w):=by
 obtain ⟨w1,M⟩:=Qe (w.alloc (.cells (Q04 y).toArray 70));have z1:Blk 70 w1 w.heap.size (Q04 y):=by rw [M];exact D01 w _ _
 have a6:Below w.heap.size w w1:=by rw [M];exact Qba _ _
 have c1:=Qb6 y w1 (W.kept a6) (by have:=a0.b;omega) a0.r;have Z:=a0.b;have a7:=a0.f;clear a0;rw [Qb5 y] at c1;obtain ⟨R,hR⟩:=Qe (rgt 0 y);obtain ⟨E,D⟩:=Qe (mkE y z);obtain ⟨L,G⟩:=Qe (mkL y z);have V:=fun (hr:rgt 0 y=true) u (I:Below w.heap.size w u) (hl:z.length<=32)=>Qr4 (SizeOf.sizeOf y) y (le_refl _) (Q15 y) 0 (Q0c z) u (W.kept I) a7 Z (le_refl _) Z hr (Q52 z) (by rw [Q10];omega);obtain ⟨K,h⟩:=Qe (Q04 y);have a3:K.length=4:=by rw [h];exact Q0b y
 rw [<-D,<-G];unfold mkE at D;unfold mkL at G;rw [ac] at D G;simp only [<-hR,<-h] at c1 z1 M D G V |-;have C1:=Qhd c1;have O:=Qhd M;have a2:=Qhd a3;have r1:=z1.all0;cases R with
 | false =>
  obtain rfl:E=1:=by rw [D];rfl
  have T:L=[]:=by rw [G];rfl
  clear G;subst T;clear c1 hR h a3 M W Z a7 hk D V;go_enter Tryz.func61,Tryz.ntmps61
  go_wp2_with (first
   |((with_reducible refine Qgl 6 ?_);refine Qlw 70 2 w.heap.size 0 Q07 a2.out (by rw [<-O.out];exact r1) ?_)
   |(go_at_call 93;rw [<-O.out];(with_reducible refine C1.out.mono ?_);rintro e U ⟨rfl,S⟩;have J:=D00 a6 S))
  go_ret2;exact ⟨_,[],rfl,Q05.nil Q0p 1 _,fun q hq=>absurd hq (by simp),rfl,J⟩
 | true =>
  by_cases h32:N<=32
  ·obtain rfl:E=0:=by rw [D];simp [h32]
   have T:L=dn (Q15 y) y (Q0c z):=by rw [G];simp [h32]
   have ar:((32:Int)<(N:Int))=False:=eq_false (by omega);obtain ⟨H,hH⟩:=Qe (Q0c z);have ch:∀ u,Below w.heap.size w u->Calls Tryz.prog 95 #[.slice ka N kc] u fun e w'=>∃ v,e=.returned v/\Q08 b8 1 5 w' u.heap.size v H/\Below u.heap.size u w':=fun u I=>by
    have h2:=hk.below I;rw [<-ac] at h2 |-;rw [hH];exact Q3e ka kc z u h2 (by omega)
   have Cg:Hid (∀ u,Below w.heap.size w u->Calls Tryz.prog 94 #[.agg K.toArray,.string ⟨H.toArray⟩] u (Qiq L u)):=Qhd fun u I=>by rw [T,hH];exact V rfl u I (by omega)
   have Ch:=Qhd ch;have ao:Hid (∀ u,Below w1.heap.size w1 u->Blk 70 u w.heap.size K):=Qhd fun u I=>z1.kept I;clear c1 hR a3 M W Z a7 hk D G T hH ch ac h32 h V;go_enter Tryz.func61,Tryz.ntmps61
   go_wp2_with (first
    |((with_reducible refine Qgl 6 ?_);refine Qlw 70 2 w.heap.size 0 Q07 a2.out (by rw [<-O.out];exact r1) ?_)
    |(go_at_call 93;rw [<-O.out];(with_reducible refine C1.out.mono ?_);rintro e U ⟨rfl,S⟩;have J:=D00 a6 S))
   refine Q0w ((fun u=>Below U.heap.size U u)) (by kernel_rfl) ?_;intro u0 ak;simp only [length_cons,length_nil,Nat.reduceAdd,List.replicate_succ,List.replicate_zero];have ai:Below U.heap.size U u0:=(by rw [ak];exact (Below.refl _ _).drew);clear ak
   (refine Qtk 0 (fun K h=>?_);simp only [Qzs] at h;refine Q78 (by rfl) 70 (.tmp 2) (by rfl) w.heap.size (by rfl) Q07 (fun u I=>ao.out u (D00 S I)) a2.out (h _ ?_);clear h K;try simp only [Act.put,getElem_toArray,getElem_cons_zero,getElem_cons_succ,setIfInBounds_toArray,set_cons_zero,set_cons_succ])
   refine Qtk 1 (fun K h=>?_);simp only [Qzs] at h;go_simp;(first|refine h _ ?_|refine ⟨_,fun _=>rfl,h _ ?_⟩);clear h K
   (refine Q0f 2 (by rfl) (by kernel_rfl) (fun K h=>?_);simp only [Qzs] at h;go_simp)
   refine (Ch.out u0 (D00 J ai)).mono ?_;rintro e u1 ⟨aD,rfl,al,ap⟩;obtain ⟨aB,aC,rfl,_⟩:=al.form;have a5:=D00 ai ap;refine h _ _ a5 ?_;clear h K
   try simp only [Act.put,getElem_toArray,getElem_cons_zero,getElem_cons_succ,setIfInBounds_toArray,set_cons_zero,set_cons_succ]
   have s1:=Q0q (P:=Tryz.prog) (src:=25) (dst:=9) elU8.ht (by kernel_rfl) (by kernel_rfl) al.row
   (refine Q0f 3 (by rfl) (by kernel_rfl) (fun K h=>?_);simp only [Qzs] at h;go_simp)
   refine h _ _ a5 ?_;clear h K
   try simp only [Act.put,getElem_toArray,getElem_cons_zero,getElem_cons_succ,setIfInBounds_toArray,set_cons_zero,set_cons_succ]
   clear s1
   (refine Q0f 4 (by rfl) (by kernel_rfl) (fun K h=>?_);simp only [Qzs] at h;go_simp)
   refine (Cg.out u1 (D00 J a5)).mono ?_;rintro e u2 ⟨aA,aw,rfl,ax,az,av,aq⟩;have aj:=D00 a5 aq;refine h _ _ aj ?_;clear h K
   try simp only [Act.put,getElem_toArray,getElem_cons_zero,getElem_cons_succ,setIfInBounds_toArray,set_cons_zero,set_cons_succ]
   refine Qtk 5 (fun K h=>?_);simp only [Qzs] at h;go_simp;(first|refine h _ ?_|refine ⟨_,fun _=>rfl,h _ ?_⟩);clear h K;refine Qtk 6 (fun K h=>?_);simp only [Qzs] at h;go_simp;(first|refine h _ ?_|refine ⟨_,fun _=>rfl,h _ ?_⟩);clear h K;refine Q11 (by kernel_rfl) ?_
   go_wp2_with fail
   go_ret2;exact ⟨aA,aw,rfl,ax,fun x hx=>(az x hx).1,av,D00 J aj⟩
  obtain rfl:E=3:=by rw [D];simp [h32]
  have T:L=[]:=by rw [G];simp [h32]
  have ar:(32:Int)<(N:Int):=by omega
  clear G;subst T;clear c1 hR h a3 M W Z a7 hk D V;go_enter Tryz.func61,Tryz.ntmps61
  go_wp2_with (first
   |((with_reducible refine Qgl 6 ?_);refine Qlw 70 2 w.heap.size 0 Q07 a2.out (by rw [<-O.out];exact r1) ?_)
   |(go_at_call 93;rw [<-O.out];(with_reducible refine C1.out.mono ?_);rintro e U ⟨rfl,S⟩;have J:=D00 a6 S))
  go_ret2;exact ⟨_,[],rfl,Q05.nil Q0p 1 _,fun q hq=>absurd hq (by simp),rfl,J⟩
theorem Qu0 {t s:Nd}(h:erN t=erN s):t.kd=s.kd:=by
 obtain ⟨⟩:=t;obtain ⟨⟩:=s;simp only [erN,Pn.mk.injEq] at h;exact h.1
theorem Qr3 {t s:Nd}(h:erN t=erN s):hdN t=hdN s:=by
 have y:=Qu0 h;obtain ⟨l,z⟩:=Q7q t;obtain ⟨m,D⟩:=Q7q s;unfold hdN whN;rw [y,z,D,Qo2 t s h];split<;>rfl
theorem Qu9:∀ (n:Nat)(t s:Nd)(p:List UInt8),erN t=erN s->dn n t p=dn n s p
 | 0,t,s,p,h=>by rw [dn,dn,Qr3 h]
 | n+1,.mk kd pv path vv v kv ks,.mk kd' pv' path' vv' v' kv' ks',p,h=>by
  have z:=Qr3 h;simp only [erN,Pn.mk.injEq] at h;obtain ⟨rfl,rfl,rfl,D⟩:=h;have E:ks.map erN=ks'.map erN:=by rw [<-Q2u,<-Q2u];exact D
  cases hr:rst kd path p with
  | none=>rw [dn,dn,hr,z]
  | some x =>
   obtain ⟨j,q⟩:=x;have y:(ks[j]?).map erN=(ks'[j]?).map erN:=by rw [<-getElem?_map,<-getElem?_map,E]
   rw [dn,dn,hr,z];cases h1:ks[j]? with
   | none =>
    cases h2:ks'[j]? with
    | none=>simp only [h1,h2]
    | some k'=>rw [h1,h2] at y;simp at y
   | some k =>
    cases h2:ks'[j]? with
    | none=>rw [h1,h2] at y;simp at y
    | some k' =>
     rw [h1,h2] at y;simp only [Option.map_some,Option.some.injEq] at y;simp only [h1,h2];rw [Qu0 y,Qu9 n k k' q y]
theorem Qqj {t s:Nd}(h:erN t=erN s):Q15 t=Q15 s:=by rw [<-Qd7 t,<-Qd7 s,h]
def rgE (T:Pn):Int:=if rgt 0 (ndP T)=true then 0 else 1
def wyP (T:Pn)(key:List UInt8):List (List UInt8):=if rgt 0 (ndP T)=true then dn (Q15 (ndP T)) (ndP T) (Q0c key) else []
theorem Qie:∀ (n:Nat)(t:Nd)(d:Nat)(p:List UInt8),rgt d t=true->(∀ x∈p,x.toNat<16)->(dn n t p).length<=2*p.length+2/\(t.kd=3->(dn n t p).length<=2*p.length+1)
 | 0,t,d,p,_,_=>by rw [dn];simp
 | n+1,.mk kd pv path vv v kv ks,d,p,h,hx=>by
  cases hr:rst kd path p with
  | none=>rw [dn,hr];simp
  | some x =>
   obtain ⟨j,q⟩:=x;obtain ⟨k,D,G,I,E,_⟩:=Q8u h hr hx;obtain ⟨H,M,_⟩:=Q83 hr hx;obtain ⟨N,J⟩:=Qie n k D q I H;rw [dn,hr];simp only [G];by_cases hk0:k.kd=0
   ·rw [if_pos hk0];simp
   rw [if_neg hk0];simp only [length_cons];by_cases hk2:kd=2
   ·have z:=(E hk2).1;have:=J z;refine ⟨by omega,fun e=>?_⟩;have K:kd=3:=e;omega
   have z:kd=3:=by
    unfold rst at hr;rw [if_neg hk2] at hr;by_cases h3:kd=3
    ·exact h3
    rw [if_neg h3] at hr;cases hr
   have L:p.length=q.length+1:=by
    unfold rst at hr;rw [if_neg hk2,if_pos z] at hr;cases p with
    | nil=>cases hr
    | cons y r =>
     simp only [Option.some.injEq,Prod.mk.injEq] at hr;rw [<-hr.2,length_cons]
   exact ⟨by omega,fun _=>by omega⟩
def TxW (E:Int)(L:List (List UInt8)):Ty:=fun v w=>∃ a n c ps,v=.tuple #[.slice a n c,.int .i64 E]/\Q12 w (.slice a n c) ps/\ps.map (·.2)=L
theorem Qrv {T:Pn}{y:Nd}(z:erN y=T)(E:BgN y)(u:World)(D:IsNd u y):Calls Tryz.prog 35 #[.agg (Q04 y).toArray] u fun e w'=>e=.returned (.tuple #[.agg (by8 (rtB T)).toArray,.int .i64 (rgE T)])/\Below u.heap.size u w':=by
 have h:=Qlk y u D E;rw [Qtkz z,Qar 0 y (ndP T) (by rw [Qk1,z])] at h;exact h
theorem Qsk {T:Pn}{y:Nd}(z:erN y=T)(E:BgN y)(u:World)(D:IsNd u y):Calls Tryz.prog 39 #[.agg (Q04 y).toArray] u fun e w'=>e=.returned (.tuple #[.agg (by8 (rtB T)).toArray,.int .i64 (rgE T)])/\Below u.heap.size u w':=by
 have h:=Qnf y u D E;rw [Qtkz z,Qar 0 y (ndP T) (by rw [Qk1,z])] at h;exact h
theorem MkP.tx {E:Int}{L:List (List UInt8)}{w w':World}{e:Ending}(h:MkP E L w e w'):∃ v,e=.returned v/\TxW E L v w'/\Below w.heap.size w w':=by
 obtain ⟨v,ps,rfl,r,t,m,b⟩:=h;obtain ⟨a,c,rfl,_⟩:=r.form;exact ⟨_,rfl,⟨a,_,c,ps,rfl,⟨r,t⟩,m⟩,b⟩
theorem MkP.of {E:Int}{L:List (List UInt8)}{w w':World}{a:Option Addr}{n c:Nat}{ps:List (Value × List UInt8)}(h:Q12 w' (.slice a n c) ps)(m:ps.map (·.2)=L)(b:Below w.heap.size w w'):MkP E L w (.returned (.tuple #[.slice a n c,.int .i64 E])) w' :=
 ⟨_,ps,rfl,h.1,h.2,m,b⟩
theorem MkP.nil {E:Int}{w w':World}(b:Below w.heap.size w w'):MkP E [] w (.returned (.tuple #[.slice none 0 0,.int .i64 E])) w' :=
 ⟨_,[],rfl,Q05.nil Q0p 1 _,fun q h=>absurd h (by simp),rfl,b⟩
def lsKV (L:List (List UInt8)):Kvl:=L.zipIdx.map fun p=>(numB p.2,sumB p.1)
theorem Qmx (L:List (List UInt8))(t:List UInt8):lsKV (L++[t])=lsKV L++[(numB L.length,sumB t)]:=by
 unfold lsKV;rw [List.zipIdx_append,map_append];simp
theorem Qcd (L:List (List UInt8)):(lsKV L).length=L.length:=by simp [lsKV]
def trL (L:List (List UInt8)):Pn:=(bldQ (lsKV L)).1
theorem Qbi {L:List (List UInt8)}(h:L.length<=1048576){t:Nd}(y:erN t=trL L):BgN t:=Qqk (lsKV L) (by rw [Qcd];exact h) y
theorem Qed {L:List (List UInt8)}{i:Nat}{t:List UInt8}(h:L[i]?=some t):lsKV (L.take (i+1))=lsKV (L.take i)++[(numB i,sumB t)]:=by
 have z:i<L.length:=(List.getElem?_eq_some_iff.1 h).1;have y:(L.take i).length=i:=by rw [length_take];omega
 have e:L.take (i+1)=L.take i++[t]:=by rw [List.take_add_one,h];rfl
 rw [e,Qmx,y]
theorem Qtv {t:Nd}{T:Pn}(h:erN t=T){y:List UInt8}(z:y.length<=32):mkE t y=rgE T:=by
 unfold mkE rgE;rw [Qar 0 t (ndP T) (by rw [Qk1,h]),if_pos z]
theorem Qtu {t:Nd}{T:Pn}(h:erN t=T){z:List UInt8}(D:z.length<=32):mkL t z=wyP T z:=by
 have y:erN t=erN (ndP T):=by rw [Qk1,h]
 unfold mkL wyP;rw [Qar 0 t (ndP T) y,if_pos D,Qqj y,Qu9 _ t (ndP T) _ y]
theorem Qtw {T:Pn}{y:Nd}(D:erN y=T)(H:BgN y)(a:Option Addr)(n c:Nat){z:List UInt8}(I:z.length=n)(J:n<=32)(u:World)(G:IsNd u y)(E:Q02 u (.slice a n c) z):Calls Tryz.prog 60 #[.agg (Q04 y).toArray,.slice a n c] u (MkP (rgE T) (wyP T z) u):=by
 have h:=Qpv y a n c z I u G H E;rw [Qtv D (by omega),Qtu D (by omega)] at h;exact h
theorem Qsi {T:Pn}{y:Nd}(D:erN y=T)(H:BgN y)(a:Option Addr)(n c:Nat){z:List UInt8}(I:z.length=n)(J:n<=32)(u:World)(G:IsNd u y)(E:Q02 u (.slice a n c) z):Calls Tryz.prog 61 #[.agg (Q04 y).toArray,.slice a n c] u (MkP (rgE T) (wyP T z) u):=by
 have h:=Qne y a n c z I u G H E;rw [Qtv D (by omega),Qtu D (by omega)] at h;exact h
theorem Qt2 (T:Pn){y:List UInt8}(z:y.length<=32):(wyP T y).length<=130:=by
 unfold wyP;split
 ·rename_i h;have:=(Qie (Q15 (ndP T)) (ndP T) 0 (Q0c y) h (Q52 y)).1;rw [Q10] at this;omega
 simp
theorem Q93 (i:Nat)(J:i<9223372036854775808)(w:World):Calls Tryz.prog 69 #[.int .i64 (i:Int)] w (Qip (numB i) w):=by
 have I:IntKind.u64.wrap (i:Int)=(i:Int):=IntWalk.u64_in _ (by omega);have y:=fun u=>Qnc i (by omega) u;have z:=fun u=>Qme i u;have D:=Qhd y;have E:=Qhd z;clear y z;go_enter Tryz.func69,Tryz.ntmps69
 go_wp2_with (first
  |(rw [I])
  |(go_at_call 51;(with_reducible refine (D.out _).mono ?_);rintro e K ⟨rfl,h⟩)
  |(go_at_call 50;(with_reducible refine (E.out _).mono ?_);rintro e L ⟨v,rfl,H,G⟩))
 go_ret;exact ⟨v,rfl,(FrT.own H).lower h.size,D00 h G⟩
theorem Q7l (a:Option Addr)(n c:Nat)(T:List (Value × List UInt8))(hn:T.length=n)(hN:n<=1048576)(w:World)(h:Q12 w (.slice a n c) T) :
  Calls Tryz.prog 68 #[.slice a n c] w (Qbe (trL (T.map (·.2))) w):=by
 obtain ⟨Z,a4⟩:=Qe (w.alloc (.cells (Q04 zN).toArray 70));have hz:Blk 70 Z w.heap.size (Q04 zN):=by rw [a4];exact D01 w _ _
 have av:Below w.heap.size w Z:=by rw [a4];exact Qba _ _
 have aD:Z=w.alloc (.cells #[.int .i64 0,.slice none 0 0,.slice none 0 0,.slice none 0 0] 70):=by rw [a4];rfl
 have aV:=Qhd aD;have bk:(Q04 zN).length=4:=rfl;obtain ⟨L,hL⟩:=Qe (T.map (·.2));have an:L.length=n:=by rw [hL,length_map];exact hn
 rw [<-hL];have HL:=Qhd hL;have ai:=Qhd an;have Hn:=Qhd hn;have H:=Qhd (h.below av);clear a4 aD h hn hL an;go_enter Tryz.func68,Tryz.ntmps68
 go_wp2_with fail
 rw [show w.alloc (.cells #[.int .i64 0,.slice none 0 0,.slice none 0 0,.slice none 0 0] 70)=Z from aV.out.symm]
 go_loopw [3,11] (fun px ix wr=>∃ (i:Nat) (ps:List Kvp),i<=n/\ix=.int .i64 (i:Int)/\PrW Z px ps wr/\ps.map kvo=lsKV (L.take i)) (fun _ ix _=>n - (intOf ix).toNat)
 case atStart=>exact ⟨0,[],by omega,rfl,PrW.start (Below.refl _ _),rfl⟩
 case round =>
  obtain ⟨i,ps,bF,rfl,F,J⟩:=hrel;obtain ⟨D,rfl⟩:∃ x,x=wr:=⟨wr,rfl⟩;have ak:=D00 av F.hb;have zz:=hz.kept F.hb;have a2:ps.length=i:=by have:=congrArg List.length J;rw [length_map,Qcd,length_take,ai.out] at this;omega
  obtain ⟨pa,z,pc,rfl,ae⟩:=Qhq F.hO;have bh:z=i:=by rw [ae,a2]
  subst bh;by_cases hlt:z<n
  ·have bG:(z:Int)<(n:Int):=by omega
   have ay:z<T.length:=by rw [Hn.out];exact hlt
   obtain ⟨b1,o1,p,rfl,hp,aw,U⟩:=(H.out.below F.hb).at z ay;have ao:L[z]?=some p.2:=by rw [HL.out,getElem?_map,hp];rfl
   have W:=Qed ao;have bI:IntKind.i64.wrap ((z:Int)+1)=((z+1:Nat):Int):=by rw [IntWalk.i64_in _ (by omega)];omega
   obtain ⟨tv,tx⟩:=p;dsimp only at W aw U;obtain ⟨ta,tc,rfl,_⟩:=U.form;obtain ⟨tn,af⟩:=Qe (tx.length);rw [<-af] at aw U;have cs:=Qbl ta tn tc tx af.symm D U;have cp:=fun u=>Q93 z (by omega) u;obtain ⟨VB,au⟩:=Qe (numB z);rw [<-au] at cp W;have ab:(sumB tx).length=32:=Q1r _;change Calls _ _ _ _ (fun e w'=>e=.returned (.agg ((sumB tx).map u8v).toArray)/\Below D.heap.size D w') at cs;obtain ⟨G,ap⟩:=Qe (sumB tx);rw [<-ap] at cs ab W;have az:∀ k,(Value.slice pa z pc).ownBlock=some k->k<D.heap.size:=fun k hk=>Qc1 F.hO hk;have aq:(G.map u8v).length=32:=by rw [length_map];exact ab
   have aj:=Qhd (Q8j G);obtain ⟨SC,aa⟩:=Qe (G.map u8v);rw [<-aa] at cs aq aj;have Cp:=Qhd cp;have Cs:=Qhd cs;have aU:=Qhd W;have aT:=Qhd J;have aO:=Qhd aa;have aR:=Qhd az;clear cp cs W hp hlt ay J au ap aa az ae a2 ao U af;go_upto_region 6 with (first
    |(go_at_call 37;(with_reducible refine Cs.out.mono ?_);rintro e M ⟨rfl,b5⟩;have n5:=D01 M 30 zh)
    |((with_reducible refine Qgs 17 ?_);refine Qsa 30 6 17 M.heap.size SC Q0g n5 aq (by rfl) aj.out (Qba M _) (le_refl _) ?_;intro E h6 O _))
   have a9:=D00 b5 O;have F6:=F.kept a9;have ax:FrT D.heap.size G (.slice (some ⟨M.heap.size,0,none⟩) 32 32) E:=Qni (by rw [<-aO.out];exact h6) ab b5.size;have aQ:Hid (∀ u,Below E.heap.size E u->FrT D.heap.size G (.slice (some ⟨M.heap.size,0,none⟩) 32 32) u):=Qhd fun u hu=>FrT.mono _ _ _ _ _ ax hu;have br:=fun off u=>sl32 M.heap.size off u;have bH:=a9.size;clear F ax n5 h6 b5 O a9;refine Q03 E 6 (by kernel_rfl) (by kernel_rfl) (Below.refl _ _) ?_;simp only [List.take_succ_cons,List.take_zero,List.take_nil]
   iterate 2 (refine Q06 (by rfl) (fun K V=>?_);go_simp;refine V _ ?_;clear V K)
   refine Q0e 20 (FrT D.heap.size VB) rfl (of_decide_eq_true rfl) (FrT.mono _ _) (fun I a5=>?_) ?_
   ·simp only [Q18,List.filter_nil,List.filter_cons,Q00]
    try simp only [Q00]
    refine ⟨rfl,?_⟩;go_simp;refine (Cp.out I).mono ?_;rintro e w8 ⟨v,rfl,o8,b8⟩;exact ⟨v,rfl,o8.lower (by have:=a5.size;omega),b8⟩
   (refine Q06 (by rfl) (fun K V=>?_);go_simp;refine V _ ?_;clear V K)
   refine Q0e 22 (PrT D.heap.size VB G) rfl (of_decide_eq_true rfl) (PrT.mono _ _ _) (fun I a5=>?_) ?_
   ·change Q00 I [(20,_)] _ _;intro bv al;obtain ⟨bB,bD,rfl,_⟩:=al.1.form;simp only [Q00];refine ⟨rfl,?_⟩;go_simp;exact ⟨Below.refl _ _,_,_,_,_,_,_,rfl,al,aQ.out I a5⟩
   refine Q0e 23 (OneP D.heap.size VB G) rfl (of_decide_eq_true rfl) (OneP.mono _ _ _) (fun I a5=>?_) ?_
   ·change Q00 I [(22,_)] _ _;rintro bw ⟨qa,qn,qc,bO,bT,bR,rfl,h1,h2⟩;simp only [Q00];refine ⟨rfl,?_⟩;go_simp;exact Qpq h1 h2
   refine Q0i ?_;intro u3 bf bv _ bw _ bV ba;change wpList _ _ _ [_,_] _ _;obtain ⟨bE,ka,kn,kc,va,vn,vc,rfl,bp,fk,fv⟩:=ba;have N:=F6.kept bf;clear br F6;simp only [Act.put,Qzs]
   go_wp2_with (refine Q0t (o:=⟨some 24,_,_,_,_,_⟩) (by rfl) (.tmp 18) (.tmp 23) 105 (by rfl) Qr7 (by intro u hu;simp [kvc] at hu;rcases hu with rfl|rfl<;>rfl) (by rfl) N.hO (by rfl) bp N.hb.size (by have:=N.hO.row.fits.1;simp only [length_singleton];omega) (by have:=N.hO.row.fits.1;unfold maxLen;simp only [length_singleton];omega) ?_;intro v5 c0 be b4 bn;have F5:=N.grew b4 be bn aR.out fk fv)
   go_roundw
   case rel=>exact ⟨z+1,_,by omega,by go_num,F5,by rw [map_append,aT.out,aU.out];rfl⟩
   case measure=>simp [intOf];omega
  obtain rfl:n=z:=by omega
  have aC:L.take n=L:=by rw [<-ai.out,List.take_length]
  rw [aC] at J;have S:=Qts pa n pc ps a2 hN D F.hO.row F.is;have hT:(bldP ps).1=trL L:=by rw [Qra,J];rfl
  unfold Qok at S;rw [hT] at S;obtain ⟨T,ac⟩:=Qe (trL L);rw [<-ac] at S;have aP:=Qhd ac;have CO:=Qhd S;have bi:w.heap.size<D.heap.size:=zz.lt;clear S hT hlt J a2 ae F aC ac
  go_wp2_with (first
   |(go_at_call 76;(with_reducible refine CO.out.mono ?_);rintro e E ⟨y,rfl,oy,ey,O⟩;have aX:=D00 ak O;have bz:=zz.kept O;have aA:=oy.is.one;have a1:=Q0b y)
   |((with_reducible refine Qgs 29 ?_);refine Qsa 70 7 29 E.heap.size (Q04 y) Q07 (D01 E 70 (Q04 zN)) a1 (by rfl) aA (Qba E _) (le_refl _) ?_;intro I h7 b7 _;have aY:=D00 aX b7;have bA:=bz.kept b7;have bm:=oy.kept b7;have r7:=h7.all0)
   |((with_reducible refine Qgl 31 ?_);refine Qlw 70 7 E.heap.size 0 Q07 a1 r7 ?_)
   |((with_reducible refine Qgs 31 ?_);refine Qsa 70 2 31 w.heap.size (Q04 y) Q07 bA a1 bk aA aY (le_refl _) ?_;intro w8 h8 b8 g8))
  exact bodyPost_ret (Q0h rfl _ _ w.heap.size Q07 h8 a1 rfl) rfl ⟨y,rfl,(bm.off g8 bi).lower ak.size,by rw [ey,aP.out],b8⟩
theorem Qes (a:Option Addr)(n c:Nat)(T:List (Value × List UInt8))(hn:T.length=n)(hN:n<=1048576)(hs:∀ q∈T,q.2.length<=1048576)(w:World)(h:Q12 w (.slice a n c) T) :
  Calls Tryz.prog 70 #[.slice a n c] w (Qbe (trL (T.map (·.2))) w):=by
 obtain ⟨N,Z⟩:=Qe (w.alloc (.cells (Q04 zN).toArray 70));have hz:Blk 70 N w.heap.size (Q04 zN):=by rw [Z];exact D01 w _ _
 have aq:Below w.heap.size w N:=by rw [Z];exact Qba _ _
 have az:N=w.alloc (.cells #[.int .i64 0,.slice none 0 0,.slice none 0 0,.slice none 0 0] 70):=by rw [Z];rfl
 have aT:=Qhd az;have bj:(Q04 zN).length=4:=rfl;obtain ⟨L,S⟩:=Qe (T.map (·.2));have al:L.length=n:=by rw [S,length_map];exact hn
 rw [<-S];have HL:=Qhd S;have af:=Qhd al;have Hn:=Qhd hn;have H:=Qhd (h.below aq);have Hs:=Qhd hs;clear Z az h hn S al hs;go_enter Tryz.func70,Tryz.ntmps70
 go_wp2_with fail
 rw [show w.alloc (.cells #[.int .i64 0,.slice none 0 0,.slice none 0 0,.slice none 0 0] 70)=N from aT.out.symm]
 go_loopw [3,10] (fun px ix wr=>∃ (i:Nat) (ps:List Kvp),i<=n/\ix=.int .i64 (i:Int)/\PrW N px ps wr/\ps.map kvo=lsKV (L.take i)) (fun _ ix _=>n - (intOf ix).toNat)
 case atStart=>exact ⟨0,[],by omega,rfl,PrW.start (Below.refl _ _),rfl⟩
 case round =>
  obtain ⟨i,ps,bu,rfl,F,D⟩:=hrel;obtain ⟨O,rfl⟩:∃ x,x=wr:=⟨wr,rfl⟩;have aj:=D00 aq F.hb;have zz:=hz.kept F.hb;have V:ps.length=i:=by have:=congrArg List.length D;rw [length_map,Qcd,length_take,af.out] at this;omega
  obtain ⟨pa,z,pc,rfl,aa⟩:=Qhq F.hO;have bf:z=i:=by rw [aa,V]
  subst bf;by_cases hlt:z<n
  ·have bv:(z:Int)<(n:Int):=by omega
   have au:z<T.length:=by rw [Hn.out];exact hlt
   obtain ⟨b1,o1,p,rfl,hp,ar,K⟩:=(H.out.below F.hb).at z au;have am:L[z]?=some p.2:=by rw [HL.out,getElem?_map,hp];rfl
   have M:=Qed am;have bw:IntKind.i64.wrap ((z:Int)+1)=((z+1:Nat):Int):=by rw [IntWalk.i64_in _ (by omega)];omega
   obtain ⟨tv,tx⟩:=p;dsimp only at M ar K;obtain ⟨ta,tc,rfl,_⟩:=K.form;obtain ⟨tn,ab⟩:=Qe (tx.length);rw [<-ab] at ar K;have bh:tx.length<=1048576:=Hs.out (.slice ta tx.length tc,tx) (List.mem_of_getElem? hp);have cs:∀ u,Below O.heap.size O u->Calls Tryz.prog 62 #[.slice ta tn tc] u (Qip (sumB tx) u):=fun u W=>Qiz ta tn tc tx ab.symm u (K.below W) (by omega);have w0:IntKind.u64.wrap (z:Int)=(z:Int):=IntWalk.u64_in _ (by omega);have ci:=fun u=>Q7w z (by omega) u;have cn:=fun u=>Q92 z u;obtain ⟨I,ap⟩:=Qe (numB z);rw [<-ap] at cn M;obtain ⟨G,an⟩:=Qe (sumB tx);rw [<-an] at cs M;have av:∀ k,(Value.slice pa z pc).ownBlock=some k->k<O.heap.size:=fun k hk=>Qc1 F.hO hk;have Ci:=Qhd ci;have Cn:=Qhd cn;have Cs:=Qhd cs;have aS:=Qhd M;have aQ:=Qhd D;have aO:=Qhd av;clear ci cn cs M hp hlt au D ap an av aa V am K ab bh
   go_wp2_with (first
    |(rw [w0])
    |(go_at_call 54;(with_reducible refine (Ci.out _).mono ?_);rintro e w2 ⟨rfl,b2⟩)
    |(go_at_call 53;(with_reducible refine (Cn.out _).mono ?_);rintro e w3 ⟨v3,rfl,o3,b3⟩;have a5:=D00 b2 b3;obtain ⟨ka,kc,rfl,_⟩:=o3.1.form)
    |(go_at_call 62;(with_reducible refine (Cs.out _ a5).mono ?_);rintro e w4 ⟨v4,rfl,o4,b4⟩;obtain ⟨va,vc,rfl,_⟩:=o4.1.form;have aU:=D00 a5 b4;have aZ:=FrT.mono _ _ _ _ _ (o3.lower b2.size) b4;have b0:=FrT.mono _ _ _ _ _ aZ ((Below.refl _ _).alloc (le_refl _) (.cells #[.slice ka I.length kc,.slice va G.length vc] 107));have b5:=FrT.mono _ _ _ _ _ (o4.lower a5.size) ((Below.refl _ _).alloc (le_refl _) (.cells #[.slice ka I.length kc,.slice va G.length vc] 107));have E:=F.kept (D00 aU ((Below.refl _ _).alloc (le_refl _) (.cells #[.slice ka I.length kc,.slice va G.length vc] 107)));have bn:=D02 Q9e w4 107 [⟨.slice ka I.length kc,I,.slice va G.length vc,G⟩] 1 rfl (by unfold maxLen;omega))
    |(refine Q0t (o:=⟨some 24,_,_,_,_,_⟩) (by rfl) (.tmp 15) (.tmp 23) 105 (by rfl) Qr7 (by intro u W;simp [kvc] at W;rcases W with rfl|rfl<;>rfl) (by rfl) E.hO (by rfl) bn E.hb.size (by have:=E.hO.row.fits.1;simp only [length_singleton];omega) (by have:=E.hO.row.fits.1;unfold maxLen;simp only [length_singleton];omega) ?_;intro v5 bF bd b' bl;have F5:=E.grew b' bd bl aO.out b0 b5))
   go_roundw
   case rel=>exact ⟨z+1,_,by omega,by go_num,F5,by rw [map_append,aQ.out,aS.out];rfl⟩
   case measure=>simp [intOf];omega
  obtain rfl:n=z:=by omega
  have ay:L.take n=L:=by rw [<-af.out,List.take_length]
  rw [ay] at D;have J:=Qsl pa n pc ps V hN O F.hO.row F.is;have hT:(bldP ps).1=trL L:=by rw [Qra,D];rfl
  unfold Qok at J;rw [hT] at J;obtain ⟨T,a8⟩:=Qe (trL L);rw [<-a8] at J;have aN:=Qhd a8;have CO:=Qhd J;have bg:w.heap.size<O.heap.size:=zz.lt;clear J hT hlt D V aa F ay a8
  go_wp2_with (first
   |(go_at_call 81;(with_reducible refine CO.out.mono ?_);rintro e w6 ⟨y,rfl,oy,ey,b6⟩;have aW:=D00 aj b6;have br:=zz.kept b6;have aw:=oy.is.one;have U:=Q0b y)
   |((with_reducible refine Qgs 29 ?_);refine Qsa 70 6 29 w6.heap.size (Q04 y) Q07 (D01 w6 70 (Q04 zN)) U (by rfl) aw (Qba w6 _) (le_refl _) ?_;intro w7 h7 b7 _;have aX:=D00 aW b7;have bs:=br.kept b7;have bk:=oy.kept b7;have r7:=h7.all0)
   |((with_reducible refine Qgl 31 ?_);refine Qlw 70 6 w6.heap.size 0 Q07 U r7 ?_)
   |((with_reducible refine Qgs 31 ?_);refine Qsa 70 2 31 w.heap.size (Q04 y) Q07 bs U bj aw aX (le_refl _) ?_;intro w8 h8 b8 g8))
  exact bodyPost_ret (Q0h rfl _ _ w.heap.size Q07 h8 U rfl) rfl ⟨y,rfl,(bk.off g8 bg).lower aj.size,by rw [ey,aN.out],b8⟩
def lpP (L:List (List UInt8))(i:Int):List (List UInt8) × Int:=if i<0 then ([],31) else (wyP (trL L) (numB i.toNat),rgE (trL L))
theorem Qsf (L:List (List UInt8))(i:Int):(lpP L i).1.length<=130:=by
 unfold lpP;split
 ·simp
 exact Qt2 _ (Q9a _)
theorem Qee (a:Option Addr)(n c:Nat)(T:List (Value × List UInt8))(hn:T.length=n)(W:n<=1048576)(w:World)(h:Q12 w (.slice a n c) T) :
  Calls Tryz.prog 28 #[.slice a n c] w fun e w'=>e=.returned (.agg (by8 (rtB (trL (T.map (·.2))))).toArray)/\Below w.heap.size w w':=by
 obtain ⟨J,I⟩:=Qe (w.alloc (.cells zh.toArray 30));have hz:Blk 30 J w.heap.size zh:=by rw [I];exact D01 w _ _
 have a1:Below w.heap.size w J:=by rw [I];exact Qba _ _
 have z:=Q7l a n c T hn W J (h.below a1);have M:(T.map (·.2)).length<=1048576:=by rw [length_map];omega
 obtain ⟨L,V⟩:=Qe (T.map (·.2));rw [<-V] at z M |-;have D:=fun (y:Nd) (hy:erN y=trL L) u (hI:IsNd u y)=>Qrv hy (Qbi M hy) u hI;have H:(rtB (trL L)).length=32:=Qfd _;obtain ⟨O,hT⟩:=Qe (trL L);simp only [<-hT] at z D H |-;have a3:J=w.alloc (.cells #[.int .u8 0,.int .u8 0,.int .u8 0,.int .u8 0,.int .u8 0,.int .u8 0,.int .u8 0,.int .u8 0,.int .u8 0,.int .u8 0,.int .u8 0,.int .u8 0,.int .u8 0,.int .u8 0,.int .u8 0,.int .u8 0,.int .u8 0,.int .u8 0,.int .u8 0,.int .u8 0,.int .u8 0,.int .u8 0,.int .u8 0,.int .u8 0,.int .u8 0,.int .u8 0,.int .u8 0,.int .u8 0,.int .u8 0,.int .u8 0,.int .u8 0,.int .u8 0] 30):=I;have a7:=Qhd a3;obtain ⟨R,Z⟩:=Qe (rtB O);obtain ⟨E,U⟩:=Qe (rgE O);simp only [<-Z,<-U] at D H |-;unfold Qbe at z;have Cl:=Qhd z;have Cr:=Qhd D;have G:(by8 R).length=32:=by rw [Q59];exact H
 have N:=Qhd (Q8j R);have a4:zh.length=32:=rfl;clear a3 z D hT I hn W h H Z U V M;go_enter Tryz.func28,Tryz.ntmps28
 go_wp2_with (first
  |(rw [<-a7.out])
  |(go_at_call 68;(with_reducible refine Cl.out.mono ?_);rintro e w2 ⟨y,rfl,oy,ey,b2⟩)
  |(go_at_call 35;(with_reducible refine (Cr.out y ey _ oy.is).mono ?_);rintro e K ⟨rfl,b4⟩;have n4:=D01 K 30 zh;have a8:=D00 b2 b4)
  |((with_reducible refine Qgs 9 ?_);refine Qsa 30 3 9 K.heap.size (by8 R) Q0g n4 G a4 N.out (Qba K _) (le_refl _) ?_;intro w5 h5 b5 _;have r5:=h5.all0;have S:=D00 a8 b5;have ah:=hz.kept S;have ab:=D00 a1 S)
  |((with_reducible refine Qgl 11 ?_);refine Qlw 30 3 K.heap.size 0 Q0g G r5 ?_)
  |((with_reducible refine Qgs 11 ?_);refine Qsa 30 2 11 w.heap.size (by8 R) Q0g ah G a4 N.out ab (le_refl _) ?_;intro w6 h6 ac _))
 exact bodyPost_ret (Q0h rfl _ _ w.heap.size Q0g h6 G rfl) rfl ⟨rfl,ac⟩
theorem Qd8 (a:Option Addr)(n c:Nat)(T:List (Value × List UInt8))(hn:T.length=n)(W:n<=1048576)(hs:∀ q∈T,q.2.length<=1048576)(w:World)(h:Q12 w (.slice a n c) T) :
  Calls Tryz.prog 29 #[.slice a n c] w fun e w'=>e=.returned (.agg (by8 (rtB (trL (T.map (·.2))))).toArray)/\Below w.heap.size w w':=by
 obtain ⟨J,I⟩:=Qe (w.alloc (.cells zh.toArray 30));have hz:Blk 30 J w.heap.size zh:=by rw [I];exact D01 w _ _
 have a1:Below w.heap.size w J:=by rw [I];exact Qba _ _
 have z:=Qes a n c T hn W hs J (h.below a1);have M:(T.map (·.2)).length<=1048576:=by rw [length_map];omega
 obtain ⟨L,V⟩:=Qe (T.map (·.2));rw [<-V] at z M |-;have D:=fun (y:Nd) (hy:erN y=trL L) u (hI:IsNd u y)=>Qsk hy (Qbi M hy) u hI;have H:(rtB (trL L)).length=32:=Qfd _;obtain ⟨O,hT⟩:=Qe (trL L);simp only [<-hT] at z D H |-;have a4:J=w.alloc (.cells #[.int .u8 0,.int .u8 0,.int .u8 0,.int .u8 0,.int .u8 0,.int .u8 0,.int .u8 0,.int .u8 0,.int .u8 0,.int .u8 0,.int .u8 0,.int .u8 0,.int .u8 0,.int .u8 0,.int .u8 0,.int .u8 0,.int .u8 0,.int .u8 0,.int .u8 0,.int .u8 0,.int .u8 0,.int .u8 0,.int .u8 0,.int .u8 0,.int .u8 0,.int .u8 0,.int .u8 0,.int .u8 0,.int .u8 0,.int .u8 0,.int .u8 0,.int .u8 0] 30):=I;have a8:=Qhd a4;obtain ⟨R,Z⟩:=Qe (rtB O);obtain ⟨E,U⟩:=Qe (rgE O);simp only [<-Z,<-U] at D H |-;unfold Qbe at z;have Cl:=Qhd z;have Cr:=Qhd D;have G:(by8 R).length=32:=by rw [Q59];exact H
 have N:=Qhd (Q8j R);have a5:zh.length=32:=rfl;clear a4 z D hT I hn W h H Z U V M hs;go_enter Tryz.func29,Tryz.ntmps29
 go_wp2_with (first
  |(rw [<-a8.out])
  |(go_at_call 70;(with_reducible refine Cl.out.mono ?_);rintro e w2 ⟨y,rfl,oy,ey,b2⟩)
  |(go_at_call 39;(with_reducible refine (Cr.out y ey _ oy.is).mono ?_);rintro e K ⟨rfl,b4⟩;have n4:=D01 K 30 zh;have a9:=D00 b2 b4)
  |((with_reducible refine Qgs 9 ?_);refine Qsa 30 3 9 K.heap.size (by8 R) Q0g n4 G a5 N.out (Qba K _) (le_refl _) ?_;intro w5 h5 b5 _;have r5:=h5.all0;have S:=D00 a9 b5;have ai:=hz.kept S;have ac:=D00 a1 S)
  |((with_reducible refine Qgl 11 ?_);refine Qlw 30 3 K.heap.size 0 Q0g G r5 ?_)
  |((with_reducible refine Qgs 11 ?_);refine Qsa 30 2 11 w.heap.size (by8 R) Q0g ai G a5 N.out ac (le_refl _) ?_;intro w6 h6 ad _))
 exact bodyPost_ret (Q0h rfl _ _ w.heap.size Q0g h6 G rfl) rfl ⟨rfl,ad⟩
theorem Qce (a:Option Addr)(n c:Nat)(T:List (Value × List UInt8))(H:T.length=n)(V:n<=1048576)(i:Int)(hi:i<=9223372036854775807)(w:World)(h:Q12 w (.slice a n c) T) :
  Calls Tryz.prog 24 #[.slice a n c,.int .i64 i] w (MkP (lpP (T.map (·.2)) i).2 (lpP (T.map (·.2)) i).1 w):=by
 by_cases hneg:i<0
 ·have e:lpP (T.map (·.2)) i=([],31):=if_pos hneg;rw [e];go_enter Tryz.func24,Tryz.ntmps24
  go_wp2_with fail
  go_ret2;exact MkP.nil (Below.refl _ _)
 have e:lpP (T.map (·.2)) i=(wyP (trL (T.map (·.2))) (numB i.toNat),rgE (trL (T.map (·.2)))):=if_neg hneg;rw [e];obtain ⟨k,rfl⟩:∃ k:Nat,i=(k:Int):=⟨i.toNat,by omega⟩;have a':k<=9223372036854775807:=by omega
 clear e;have ag:¬ ((k:Int)<0):=by omega
 rw [show ((k:Int)).toNat=k from Int.toNat_natCast k];have z:=Q7l a n c T H V w h;have K:(T.map (·.2)).length<=1048576:=by rw [length_map];omega
 obtain ⟨L,U⟩:=Qe (T.map (·.2));rw [<-U] at z K |-;have J:=fun u=>Q93 k (by omega) u;have I:(numB k).length<=32:=Q9a k;obtain ⟨D,S⟩:=Qe (numB k);rw [<-S] at J I |-;have G:=fun (y:Nd) (hy:erN y=trL L) (a:Option Addr) (n c:Nat) (H:D.length=n) (hk:n<=32) u (hI:IsNd u y) hB=>Qtw hy (Qbi K hy) a n c H hk u hI hB;obtain ⟨M,Z⟩:=Qe (trL L);simp only [<-Z] at z G |-;obtain ⟨P,W⟩:=Qe (wyP M D);obtain ⟨E,O⟩:=Qe (rgE M);simp only [<-W,<-O] at G |-;unfold Qbe at z;have Cl:=Qhd z;have Cm:=Qhd G;have Cn:=Qhd J;have HK:=Qhd I;clear z G J Z H V h W O U K I S hneg hi a';go_enter Tryz.func24,Tryz.ntmps24
 go_wp2_with (first
  |(go_at_call 68;(with_reducible refine Cl.out.mono ?_);rintro e w2 ⟨y,rfl,oy,ey,b2⟩)
  |(go_at_call 69;(with_reducible refine (Cn.out _).mono ?_);rintro e w4 ⟨v,rfl,o4,N⟩;obtain ⟨ka,kc,rfl,_⟩:=o4.1.form;have B4:Q02 w4 (.slice ka D.length kc) D:=o4.1)
  |(go_at_call 60;(with_reducible refine (Cm.out y ey _ _ _ rfl HK.out _ (oy.is.kept N) B4).mono ?_);intro e w5 m;obtain ⟨v,rfl,⟨xa,xn,xc,ps,rfl,t5,l5⟩,b5⟩:=MkP.tx m;clear m))
 go_ret2;exact MkP.of t5 l5 (D00 b2 (D00 N b5))
theorem Qae (a:Option Addr)(n c:Nat)(T:List (Value × List UInt8))(H:T.length=n)(W:n<=1048576)(hs:∀ q∈T,q.2.length<=1048576)(i:Int)(hi:i<=9223372036854775807)(w:World)(h:Q12 w (.slice a n c) T) :
  Calls Tryz.prog 25 #[.slice a n c,.int .i64 i] w (MkP (lpP (T.map (·.2)) i).2 (lpP (T.map (·.2)) i).1 w):=by
 by_cases hneg:i<0
 ·have e:lpP (T.map (·.2)) i=([],31):=if_pos hneg;rw [e];go_enter Tryz.func25,Tryz.ntmps25
  go_wp2_with fail
  go_ret2;exact MkP.nil (Below.refl _ _)
 have e:lpP (T.map (·.2)) i=(wyP (trL (T.map (·.2))) (numB i.toNat),rgE (trL (T.map (·.2)))):=if_neg hneg;rw [e];obtain ⟨k,rfl⟩:∃ k:Nat,i=(k:Int):=⟨i.toNat,by omega⟩;have ae:k<=9223372036854775807:=by omega
 clear e;have am:¬ ((k:Int)<0):=by omega
 rw [show ((k:Int)).toNat=k from Int.toNat_natCast k];have z:=Qes a n c T H W hs w h;have K:(T.map (·.2)).length<=1048576:=by rw [length_map];omega
 obtain ⟨L,V⟩:=Qe (T.map (·.2));rw [<-V] at z K |-;have w0:IntKind.u64.wrap (k:Int)=(k:Int):=IntWalk.u64_in _ (by omega);have O:=fun u=>Q7w k (by omega) u;have J:=fun u=>Q92 k u;have Ci:=Qhd O;have I:(numB k).length<=32:=Q9a k;obtain ⟨D,U⟩:=Qe (numB k);rw [<-U] at J I |-;have G:=fun (y:Nd) (hy:erN y=trL L) (a:Option Addr) (n c:Nat) (H:D.length=n) (hk:n<=32) u (hI:IsNd u y) hB=>Qsi hy (Qbi K hy) a n c H hk u hI hB;obtain ⟨M,hT⟩:=Qe (trL L);simp only [<-hT] at z G |-;obtain ⟨P,Z⟩:=Qe (wyP M D);obtain ⟨E,S⟩:=Qe (rgE M);simp only [<-Z,<-S] at G |-;unfold Qbe at z;have Cl:=Qhd z;have Cm:=Qhd G;have Cn:=Qhd J;have HK:=Qhd I;clear z G O J hT H W h Z S V K hs I U hneg hi ae;go_enter Tryz.func25,Tryz.ntmps25
 go_wp2_with (first
  |(go_at_call 70;(with_reducible refine Cl.out.mono ?_);rintro e w2 ⟨y,rfl,oy,ey,b2⟩)
  |(rw [w0])
  |(go_at_call 54;(with_reducible refine (Ci.out _).mono ?_);rintro e w3 ⟨rfl,b3⟩)
  |(go_at_call 53;(with_reducible refine (Cn.out _).mono ?_);rintro e w4 ⟨v,rfl,o4,b4⟩;obtain ⟨ka,kc,rfl,_⟩:=o4.1.form;have B4:Q02 w4 (.slice ka D.length kc) D:=o4.1;have N:=D00 b3 b4)
  |(go_at_call 61;(with_reducible refine (Cm.out y ey _ _ _ rfl HK.out _ (oy.is.kept N) B4).mono ?_);intro e w5 m;obtain ⟨v,rfl,⟨xa,xn,xc,ps,rfl,t5,l5⟩,b5⟩:=MkP.tx m;clear m))
 go_ret2;exact MkP.of t5 l5 (D00 b2 (D00 N b5))
end Go.Proofs.YtbdmkfjgnjfjbaaGreat
