/- The reference's goDown. | The reference's IMake. -/
import Derived.Test.YtbdmkfjgnjfjbaaGreatLazyServesK38
set_option linter.unusedSimpArgs false
set_option linter.unusedVariables false
set_option maxHeartbeats 4000000
set_option maxRecDepth 100000
namespace Go.Proofs.YtbdmkfjgnjfjbaaGreat
open Go.RowKit
def GdPost (A:List (List UInt8))(w:World)(e:Ending)(w':World):Prop:=∃ v ps,e=.returned v∧RowOf tcell 1 w' v ps∧(∀ q∈ps,Bytes w' q.1 q.2∧∀ k,q.1.ownBlock=some k→w.heap.size≤k∧k<w'.heap.size)∧ps.map (·.2)=A∧Below w.heap.size w w'
def GdC (t:Nd):Prop:=∀ (n d:Nat) (p:List UInt8) (w:World),IsNd w t→FnN t→bulkN t≤10000000000→bulkN t≤n→n≤10000000000→rgt d t=true→(∀ x∈p,x.toNat<16)→p.length≤1000000000→Calls Tryz.prog 94 #[.agg (Q03 t).toArray,.string ⟨p.toArray⟩] w (GdPost (dn n t p) w)
theorem rgt_kd {d:Nat}{t:Nd}(h:rgt d t=true):t.kd=0∨t.kd=1∨t.kd=2∨t.kd=3:=by
 obtain ⟨kd,pv,p,vv,v,kv,ks⟩:=t
 show kd=0∨kd=1∨kd=2∨kd=3
 unfold rgt at h
 by_cases h0:kd=0
 ·exact .inl h0
 ·by_cases h1:kd=1
  ·exact .inr (.inl h1)
  ·by_cases h2:kd=2
   ·exact .inr (.inr (.inl h2))
   ·by_cases h3:kd=3
    ·exact .inr (.inr (.inr h3))
    ·rw [if_neg h0,if_neg h1,if_neg h2,if_neg h3] at h;cases h
theorem Qdx (t:Nd)(d:Nat)(hr:rgt d t=true)(hf:FnN t)(hb:bulkN t≤10000000000)(w:World)(hI:IsNd w t):Calls Tryz.prog 109 #[.agg (Q03 t).toArray] w (TcPost (whN t) w):=by
 unfold whN
 by_cases h0:t.kd=0
 ·rw [if_pos h0]
  obtain ⟨kd,pv,p,vv,v,kv,ks⟩:=t
  obtain rfl:kd=0:=h0
  obtain ⟨hp,hv,hk,_⟩:=hI.inv
  obtain ⟨pa,pc,rfl,_,_⟩:=hp.form
  obtain ⟨va,vc,rfl,_,_⟩:=hv.form
  obtain ⟨ka,kc,rfl,_,_⟩:=hk.form
  exact Qfi pa va ka _ pc _ vc _ kc w
 ·rw [if_neg h0]
  exact tc_any (SizeOf.sizeOf t) t (Nat.le_refl _) (rgt_ok d t hr h0) hf hb w hI
theorem dn_len:∀ (n:Nat)(t:Nd)(p:List UInt8),(dn n t p).length≤n+1
 | 0,t,p=>by rw [dn];simp
 | n+1,.mk kd pv path vv v kv ks,p=>by
  cases h:rst kd path p with
  | none=>rw [dn,h];simp
  | some x =>
   obtain ⟨j,q⟩:=x
   cases hk:ks[j]? with
   | none=>rw [dn,h];simp only [hk];simp
   | some k =>
    rw [dn,h];simp only [hk]
    split
    ·simp
    ·have:=dn_len n k q
     simp only [List.length_cons];omega
theorem Qlu {kd:Int}{pv:Value}{path:List UInt8}{vv:Value}{v:List UInt8}{kv:Value}{ks:List Nd}{n:Nat}{p:List UInt8}(h:rst kd path p=none):dn (n+1) (.mk kd pv path vv v kv ks) p=[hdN (.mk kd pv path vv v kv ks)]:=by rw [dn,h]
theorem Qlt {kd:Int}{pv:Value}{path:List UInt8}{vv:Value}{v:List UInt8}{kv:Value}{ks:List Nd}{n j:Nat}{p q:List UInt8}{k:Nd}(h:rst kd path p=some (j,q))(hk:ks[j]?=some k)(h0:k.kd=0):dn (n+1) (.mk kd pv path vv v kv ks) p=[hdN (.mk kd pv path vv v kv ks)]:=by
 rw [dn,h];simp only [hk,h0,if_true]
theorem dn_kid {kd:Int}{pv:Value}{path:List UInt8}{vv:Value}{v:List UInt8}{kv:Value}{ks:List Nd}{n j:Nat}{p q:List UInt8}{k:Nd}(h:rst kd path p=some (j,q))(hk:ks[j]?=some k)(h0:k.kd≠0):dn (n+1) (.mk kd pv path vv v kv ks) p=hdN (.mk kd pv path vv v kv ks)::dn n k q:=by
 rw [dn,h];simp only [hk];rw [if_neg h0]
theorem Qlo (kd:Int)(ta va xa:Option Addr)(tn tc vn vc xn xc:Nat)(path vb:List UInt8)(ks:List Nd)(htn:path.length=tn)(hvn:vb.length=vn)(hxn:ks.length=xn)(n d:Nat)(p:List UInt8)(w:World)(hI:IsNd w (.mk kd (.slice ta tn tc) path (.slice va vn vc) vb (.slice xa xn xc) ks))
  (hf:FnN (.mk kd (.slice ta tn tc) path (.slice va vn vc) vb (.slice xa xn xc) ks)) (hb:bulkN (.mk kd (.slice ta tn tc) path (.slice va vn vc) vb (.slice xa xn xc) ks)≤10000000000) (hn:n≤9999999999) (hr:rgt d (.mk kd (.slice ta tn tc) path (.slice va vn vc) vb (.slice xa xn xc) ks)=true) (hx:∀ x∈p,x.toNat<16) (hpl:p.length≤1000000000)
  (ih:∀ k∈ks,∀ (d:Nat) (q:List UInt8) (u:World),Below w.heap.size w u→rgt d k=true→(∀ x∈q,x.toNat<16)→q.length≤1000000000→Calls Tryz.prog 94 #[.agg (Q03 k).toArray,.string ⟨q.toArray⟩] u (GdPost (dn n k q) u)) :
  Calls Tryz.prog 94 #[.agg #[.int .i64 kd,.slice ta tn tc,.slice va vn vc,.slice xa xn xc],.string ⟨p.toArray⟩] w (GdPost (dn (n+1) (.mk kd (.slice ta tn tc) path (.slice va vn vc) vb (.slice xa xn xc) ks) p) w):=by
 obtain ⟨w1,hw1⟩:∃ w1,w1=w.alloc (.cells #[.int .i64 kd,.slice ta tn tc,.slice va vn vc,.slice xa xn xc] 70):=⟨_,rfl⟩
 have z1:Blk 70 w1 w.heap.size [.int .i64 kd,.slice ta tn tc,.slice va vn vc,.slice xa xn xc]:=by rw [hw1];exact Blk.new w _ _
 have hbel:Below w.heap.size w w1:=by rw [hw1];exact Qba _ _
 obtain ⟨hp,hv,hk,hks⟩:=hI.inv
 obtain ⟨t,ht⟩:∃ t,t=Nd.mk kd (.slice ta tn tc) path (.slice va vn vc) vb (.slice xa xn xc) ks:=⟨_,rfl⟩
 have ct:Calls Tryz.prog 109 #[.agg #[.int .i64 kd,.slice ta tn tc,.slice va vn vc,.slice xa xn xc]] w1 (TcPost (whN t) w1):=by rw [ht];exact Qdx _ d hr hf hb w1 (hI.kept hbel)
 obtain ⟨l0,hl0⟩:=whN_hd t
 have hkd:kd=0∨kd=1∨kd=2∨kd=3:=rgt_kd hr
 have cw:=fun u (hu:Below w.heap.size w u)=>Qku kd ta tn tc path p htn hpl u (hp.below hu) hkd
 obtain ⟨wi,wq,wb,hwy⟩:∃ a b c,wayP kd path p=(a,b,c):=⟨_,_,_,rfl⟩
 rw [hwy] at cw
 have hwc:=Ql1 kd path p
 rw [hwy] at hwc
 have Hw1:=Qhd hw1
 have Ct:=Qhd ct
 have Cw:Hid (∀ u,Below w.heap.size w u→Calls Tryz.prog 120 #[.int .i64 kd,.slice ta tn tc,.string ⟨p.toArray⟩] u fun e w'=>e=.returned (.tuple #[.int .i64 wi,.string ⟨wq.toArray⟩,.bool wb])∧Below u.heap.size u w'):=Qhd cw
 have Hl0:=Qhd hl0
 rcases hwc with ⟨hrs,hwi⟩|⟨j,q,hrs,hwi,hwq⟩
 ·dsimp only at hwi
  subst hwi
  have hdn:dn (n+1) (.mk kd (.slice ta tn tc) path (.slice va vn vc) vb (.slice xa xn xc) ks) p=[hdN t]:=by rw [Qlu hrs,ht]
  have Hdn:=Qhd hdn
  clear hf hw1 ct cw hdn hrs hl0 hwy hr hI hb ih hx ht hks hk hv hp hkd hxn hvn htn
  go_enter Tryz.func94,Tryz.ntmps94
  go_wp2_with (first
   |((with_reducible refine Qgl 9 ?_);rw [←Hw1.out];refine Qla 70 2 w.heap.size Q05 z1 (by rfl) ?_)
   |(go_at_call 109;(with_reducible refine Ct.out.mono ?_);rintro e w2 ⟨v2,ps2,rfl,o2,t2,m2,b2⟩;obtain ⟨qv,ps3,rfl,_⟩:=Q41 (m2.trans Hl0.out);obtain ⟨n2,hn2⟩:∃ m,m=ps3.length+1:=⟨_,rfl⟩;obtain ⟨a2,c2,rfl,_⟩:=o2.form' n2 (by rw [hn2];rfl);obtain ⟨b3,c3,run3,row3⟩:=to_any elTxt o2.row 1 (by omega) 1 rfl;have bb2:=Below.then hbel b2;have z2:=z1.kept b2;have T3:=t2 _ List.mem_cons_self;have d0:w2.cell? ⟨w.heap.size,0,none⟩=some (.int .i64 kd):=z2.cell 0;have d1:w2.cell? ⟨w.heap.size,1,none⟩=some (.slice ta tn tc):=z2.cell 1;clear m2 t2 hn2)
   |(go_at_call 120;(with_reducible refine (Cw.out _ bb2).mono ?_);rintro e w3 ⟨rfl,b3'⟩;have bb3:=Below.then bb2 b3'))
  go_ret
  exact ⟨_,[(qv,hdN t)],rfl,row3.kept b3',fun x hx=>by rw [List.mem_singleton] at hx;subst hx;exact ⟨T3.1.kept b3',fun k hk=>⟨Nat.le_trans hbel.size (T3.2.2 k hk).1,Nat.lt_of_lt_of_le (T3.2.2 k hk).2.1 b3'.size⟩⟩,Hdn.out.symm,bb3⟩
 ·dsimp only at hwi hwq
  subst hwi hwq
  obtain ⟨k,d1,hkk,hrk,_,_⟩:=Q4r hr hrs hx
  obtain ⟨hq16,hql,_⟩:=Q48 hrs hx
  have hmem:=List.mem_of_getElem? hkk
  have hjl:j<ks.length:=(List.getElem?_eq_some_iff.1 hkk).1
  have hje:ks[j]=k:=(List.getElem?_eq_some_iff.1 hkk).2
  obtain ⟨xb,xo,rfl,hkr⟩:=RowOf.range Q06 hk j hjl
  rw [hje] at hkr
  have hji:(j:Int)<(xn:Int):=by omega
  have hj0:((j:Int)<0)=False:=eq_false (by omega)
  have ihk:=fun u hu=>ih k hmem d1 wq u hu hrk hq16 (by omega)
  obtain ⟨KK,hKK⟩:∃ K,K=Q03 k:=⟨_,rfl⟩
  have hKl:KK.length=4:=by rw [hKK];exact Q06 k
  have hk0c:w.cell? ⟨xb,xo+j*4,none⟩=some (.int .i64 k.kd):=by
   have:=hkr 0 (.int .i64 k.kd) (by cases k;rfl)
   simpa using this
  rw [←hKK] at hkr
  simp only [←hKK] at ihk
  obtain ⟨kk,hkk'⟩:∃ x,x=k.kd:=⟨_,rfl⟩
  rw [←hkk'] at hk0c
  by_cases hk0:kk=0
  ·have hdn:dn (n+1) (.mk kd (.slice ta tn tc) path (.slice va vn vc) vb (.slice (some ⟨xb,xo,none⟩) xn xc) ks) p=[hdN t]:=by rw [Qlt hrs hkk (by rw [←hkk',hk0]),ht]
   subst hk0
   have Hdn:=Qhd hdn
   have Hk0c:=Qhd hk0c
   clear hf hw1 ct cw hdn hrs hl0 hwy hr hI hb ih hx ht hks hk hv hp hkd hxn hvn htn hkk hrk hq16 hql hmem hjl hje hkr ihk hKK hKl hkk' hk0c
   go_enter Tryz.func94,Tryz.ntmps94
   go_wp2_with (first
    |((with_reducible refine Qgl 9 ?_);rw [←Hw1.out];refine Qla 70 2 w.heap.size Q05 z1 (by rfl) ?_)
    |(go_at_call 109;(with_reducible refine Ct.out.mono ?_);rintro e w2 ⟨v2,ps2,rfl,o2,t2,m2,b2⟩;obtain ⟨qv,ps3,rfl,_⟩:=Q41 (m2.trans Hl0.out);obtain ⟨n2,hn2⟩:∃ m,m=ps3.length+1:=⟨_,rfl⟩;obtain ⟨a2,c2,rfl,_⟩:=o2.form' n2 (by rw [hn2];rfl);obtain ⟨b3,c3,run3,row3⟩:=to_any elTxt o2.row 1 (by omega) 1 rfl;have bb2:=Below.then hbel b2;have z2:=z1.kept b2;have T3:=t2 _ List.mem_cons_self;have d0:w2.cell? ⟨w.heap.size,0,none⟩=some (.int .i64 kd):=z2.cell 0;have d1:w2.cell? ⟨w.heap.size,1,none⟩=some (.slice ta tn tc):=z2.cell 1;clear m2 t2 hn2)
    |(go_at_call 120;(with_reducible refine (Cw.out _ bb2).mono ?_);rintro e w3 ⟨rfl,b3'⟩;have bb3:=Below.then bb2 b3';have z3:=z2.kept b3';have d3:w3.cell? ⟨w.heap.size,3,none⟩=some (.slice (some ⟨xb,xo,none⟩) xn xc):=z3.cell 3;have dk:w3.cell? ⟨xb,xo+j*4,none⟩=some (.int .i64 0):=(bb3.cell (World.block_lt_of_cell? w _ Hk0c.out)).trans Hk0c.out))
   go_ret
   exact ⟨_,[(qv,hdN t)],rfl,row3.kept b3',fun x hx=>by rw [List.mem_singleton] at hx;subst hx;exact ⟨T3.1.kept b3',fun k hk=>⟨Nat.le_trans hbel.size (T3.2.2 k hk).1,Nat.lt_of_lt_of_le (T3.2.2 k hk).2.1 b3'.size⟩⟩,Hdn.out.symm,bb3⟩
  ·have hdn:dn (n+1) (.mk kd (.slice ta tn tc) path (.slice va vn vc) vb (.slice (some ⟨xb,xo,none⟩) xn xc) ks) p=hdN t::dn n k wq:=by rw [dn_kid hrs hkk (by rw [←hkk'];exact hk0),ht]
   have nk:(kk==0)=false:=by rw [beq_eq_false_iff_ne];exact hk0
   have Hdn:=Qhd hdn
   have Hk0c:=Qhd hk0c
   have Hkr:=Qhd hkr
   have Ihk:=Qhd ihk
   have HKl:=Qhd hKl
   clear hf hw1 ct cw hdn hrs hl0 hwy hr hI hb ih hx ht hks hk hv hp hkd hxn hvn htn hkk hrk hq16 hql hmem hjl hje hkr ihk hKK hKl hkk' hk0c hk0
   go_enter Tryz.func94,Tryz.ntmps94
   go_wp2_with (first
    |((with_reducible refine Qgl 9 ?_);rw [←Hw1.out];refine Qla 70 2 w.heap.size Q05 z1 (by rfl) ?_)
    |(go_at_call 109;(with_reducible refine Ct.out.mono ?_);rintro e w2 ⟨v2,ps2,rfl,o2,t2,m2,b2⟩;obtain ⟨qv,ps3,rfl,_⟩:=Q41 (m2.trans Hl0.out);obtain ⟨n2,hn2⟩:∃ m,m=ps3.length+1:=⟨_,rfl⟩;obtain ⟨a2,c2,rfl,_⟩:=o2.form' n2 (by rw [hn2];rfl);obtain ⟨b3,c3,run3,row3⟩:=to_any elTxt o2.row 1 (by omega) 1 rfl;have bb2:=Below.then hbel b2;have z2:=z1.kept b2;have T3:=t2 _ List.mem_cons_self;have d0:w2.cell? ⟨w.heap.size,0,none⟩=some (.int .i64 kd):=z2.cell 0;have d1:w2.cell? ⟨w.heap.size,1,none⟩=some (.slice ta tn tc):=z2.cell 1;clear m2 t2 hn2)
    |(go_at_call 120;(with_reducible refine (Cw.out _ bb2).mono ?_);rintro e w3 ⟨rfl,b3'⟩;have bb3:=Below.then bb2 b3';have z3:=z2.kept b3';have d3:w3.cell? ⟨w.heap.size,3,none⟩=some (.slice (some ⟨xb,xo,none⟩) xn xc):=z3.cell 3;have dk:w3.cell? ⟨xb,xo+j*4,none⟩=some (.int .i64 kk):=(bb3.cell (World.block_lt_of_cell? w _ Hk0c.out)).trans Hk0c.out))
   obtain ⟨gb,go,rfl,rr⟩:=RowOf.range (f:=tcell) (size:=1) (fun _=>rfl) (row3.kept b3') 0 (by simp)
   have dq:w3.cell? ⟨gb,go,none⟩=some qv:=by have:=rr 0 qv rfl;simpa using this
   obtain ⟨qa,qc,rfl,_⟩:=T3.1.form
   try dsimp only at T3
   have hkr3:w3.rangeAt xb (xo+j*4) KK:=fun i v hv=>(bb3.cell (World.block_lt_of_cell? w _ (Hkr.out i v hv))).trans (Hkr.out i v hv)
   have Hkr3:=Qhd hkr3
   clear rr hkr3
   refine Q0t ((fun u=>Below w3.heap.size w3 u)) (by kernel_rfl) ?_;intro u0 hu0;simp only [List.length_cons,List.length_nil,Nat.reduceAdd,List.replicate_succ,List.replicate_zero]
   have hS0:Below w3.heap.size w3 u0:=(by rw [hu0];exact (Below.refl _ _).drew)
   clear hu0
   have k2:∀ u:In (fun u=>Below w3.heap.size w3 u),u.val.cell? ⟨gb,go,none⟩=some (.slice qa (hdN t).length qc):=fun u=>(Below.cell u.held (World.block_lt_of_cell? w3 _ dq)).trans dq
   have k3:∀ u:In (fun u=>Below w3.heap.size w3 u),u.val.cell? ⟨w.heap.size,3,none⟩=some (.slice (some ⟨xb,xo,none⟩) xn xc):=fun u=>(Below.cell u.held (World.block_lt_of_cell? w3 _ d3)).trans d3
   clear dq d3 dk
   (refine wpH_takeQ 0 (fun K hK=>?_);simp only [Qzs] at hK;go_simp;first|(refine hK _ ?_;clear hK K)|(apply Exists.intro;refine ⟨fun _=>rfl,hK _ ?_⟩;clear hK K));(refine wpH_takeQ 1 (fun K hK=>?_);simp only [Qzs] at hK;go_simp;first|(refine hK _ ?_;clear hK K)|(apply Exists.intro;refine ⟨fun _=>rfl,hK _ ?_⟩;clear hK K));(refine wpH_takeQ 2 (fun K hK=>?_);simp only [Qzs] at hK;go_simp;first|(refine hK _ ?_;clear hK K)|(apply Exists.intro;refine ⟨fun _=>rfl,hK _ ?_⟩;clear hK K));(refine wpH_takeQ 4 (fun K hK=>?_);simp only [Qzs] at hK;go_simp;first|(refine hK _ ?_;clear hK K)|(apply Exists.intro;refine ⟨fun _=>rfl,hK _ ?_⟩;clear hK K));(refine wpH_takeQ 5 (fun K hK=>?_);simp only [Qzs] at hK;go_simp;first|(refine hK _ ?_;clear hK K)|(apply Exists.intro;refine ⟨fun _=>rfl,hK _ ?_⟩;clear hK K));(refine wpH_takeQ 6 (fun K hK=>?_);simp only [Qzs] at hK;go_simp;first|(refine hK _ ?_;clear hK K)|(apply Exists.intro;refine ⟨fun _=>rfl,hK _ ?_⟩;clear hK K));(refine wpH_takeQ 7 (fun K hK=>?_);simp only [Qzs] at hK;go_simp;first|(refine hK _ ?_;clear hK K)|(apply Exists.intro;refine ⟨fun _=>rfl,hK _ ?_⟩;clear hK K))
   (refine wpH_takeQ 8 (fun K hK=>?_);simp only [Qzs] at hK;refine Q4p (by rfl) 70 (.tmp 41) (by rfl) xb (xo+j*4) (by rfl) Q05 HKl.out (fun u hu=>World.rangeAt.below Hkr3.out hu) (hK _ ?_);clear hK K;simp only [Act.put,List.getElem_toArray,List.getElem_cons_zero,List.getElem_cons_succ,List.setIfInBounds_toArray,List.set_cons_zero,List.set_cons_succ])
   (refine wpH_takeQ 9 (fun K hK=>?_);simp only [Qzs] at hK;go_simp;first|(refine hK _ ?_;clear hK K)|(apply Exists.intro;refine ⟨fun _=>rfl,hK _ ?_⟩;clear hK K))
   clear k2 k3
   refine Q7y [3,10] (by kernel_rfl) (by simp) ?_
   intro i hi
   simp only [List.mem_cons,List.not_mem_nil,or_false] at hi
   rcases hi with rfl|rfl
   ·(refine brH_of (i:=3) (by rfl) (fun K hK=>?_);simp only [Qzs] at hK;go_simp)
    have bb1:Below u0.heap.size u0 (u0.alloc (.cells #[Value.slice qa (hdN t).length qc] 25)):=Qba _ _
    have o37:=Blk.own (f:=tcell) (size:=1) (l:=[(Value.slice qa (hdN t).length qc,hdN t)]) (B:=u0.heap.size) (Blk.new u0 25 [Value.slice qa (hdN t).length qc]) 1 (fun _=>rfl) rfl (Nat.le_refl _) (by unfold maxLen;omega)
    have hS1:=Below.then hS0 bb1
    refine hK _ _ hS1 ?_;clear hK K
    have hs1:(u0.alloc (.cells #[Value.slice qa (hdN t).length qc] 25)).heap.size=u0.heap.size+1:=World.size_alloc _ _
    obtain ⟨g37,hg37⟩:∃ g,g=u0.heap.size:=⟨_,rfl⟩
    obtain ⟨u1,hu1⟩:∃ x,x=u0.alloc (.cells #[Value.slice qa (hdN t).length qc] 25):=⟨_,rfl⟩
    change OwnOf tcell 1 25 (u0.alloc (.cells #[Value.slice qa (hdN t).length qc] 25)) u0.heap.size _ _ at o37
    have hgs:w3.heap.size≤g37:=by rw [hg37];exact Below.size hS0
    rw [←hu1] at hS1 o37 hs1
    rw [←hg37] at o37 hs1
    try simp only [←hg37,←hu1]
    clear hu1 hg37 bb1
    (refine Q0e 10 (by rfl) (by kernel_rfl) (fun K hK=>?_);simp only [Qzs] at hK;go_simp)
    refine (Ihk.out _ (Below.then bb3 hS1)).mono ?_
    rintro e u2 ⟨v44,ps44,rfl,r44,t44,m44,b44⟩
    have hS2:=Below.then hS1 b44
    obtain ⟨a44,c44,rfl,_⟩:=r44.form
    refine hK _ _ hS2 ?_;clear hK K
    try simp only [Act.put,List.getElem_toArray,List.getElem_cons_zero,List.getElem_cons_succ,List.setIfInBounds_toArray,List.set_cons_zero,List.set_cons_succ]
    have o37:=OwnOf.lower (o37.kept b44) (B':=w3.heap.size) hgs
    have hpl44:ps44.length≤10000000000:=by have h1:=dn_len n k wq;have h2:=congrArg List.length m44;rw [List.length_map] at h2;omega
    refine Q0e 11 (by rfl) (by kernel_rfl) (fun K hK=>?_)
    simp only [Qzs] at hK
    refine Q1z (by rfl) (.tmp 37) (.tmp 44) 44 (by rfl) elText (Q0y (fun x hx=>(t44 x hx).1)) (by rfl) o37 (by rfl) r44 hS2.size (by simp only [List.length_cons,List.length_nil];omega) (by simp only [List.length_cons,List.length_nil];unfold maxLen;omega) (fun v5 u5 o5 g5=>?_)
    have hS5:=hS2.grown g5 hS2.size (fun x hx=>by simp only [Value.ownBlock,Option.some.injEq] at hx;omega)
    refine hK _ _ hS5 ?_;clear hK K
    try simp only [Act.put,List.getElem_toArray,List.getElem_cons_zero,List.getElem_cons_succ,List.setIfInBounds_toArray,List.set_cons_zero,List.set_cons_succ]
    (refine wpH_takeQ 12 (fun K hK=>?_);simp only [Qzs] at hK;go_simp;first|(refine hK _ ?_;clear hK K)|(apply Exists.intro;refine ⟨fun _=>rfl,hK _ ?_⟩;clear hK K))
    refine Q16 (by kernel_rfl) ?_
    go_wp2_with fail
    go_ret
    refine ⟨v5,_,rfl,o5.row,fun x hx=>?_,by rw [List.map_append,m44,Hdn.out];rfl,Below.then bb3 hS5⟩
    rcases List.mem_append.1 hx with hx|hx
    ·rw [List.mem_singleton] at hx
     subst hx
     have h1:Bytes u2 (.slice qa (hdN t).length qc) (hdN t):=T3.1.below (Below.then b3' hS2)
     exact ⟨RowOf.offT h1 g5 (fun y hy=>by have:=(T3.2.2 y hy).2.1;have:=b3'.size;show y≠g37;omega),fun y hy=>⟨Nat.le_trans hbel.size (T3.2.2 y hy).1,by have h2:=(T3.2.2 y hy).2.1;have h3:=b3'.size;have h4:=hS5.size;omega⟩⟩
    ·exact ⟨RowOf.offT (t44 x hx).1 g5 (fun y hy=>by have h1:=((t44 x hx).2 y hy).1;have h2:=((t44 x hx).2 y hy).2;show y≠g37;omega),fun y hy=>⟨by have h1:=((t44 x hx).2 y hy).1;have h2:=bb3.size;have h3:=hS1.size;omega,by have h1:=((t44 x hx).2 y hy).2;have h2:=g5.size;have h3:=hs1;omega⟩⟩
   ·(refine brH_of (i:=10) (by rfl) (fun K hK=>?_);simp only [Qzs] at hK;go_simp)
    refine (Ihk.out _ (Below.then bb3 hS0)).mono ?_
    rintro e u2 ⟨v44,ps44,rfl,r44,t44,m44,b44⟩
    have hS2:=Below.then hS0 b44
    obtain ⟨a44,c44,rfl,_⟩:=r44.form
    refine hK _ _ hS2 ?_;clear hK K
    try simp only [Act.put,List.getElem_toArray,List.getElem_cons_zero,List.getElem_cons_succ,List.setIfInBounds_toArray,List.set_cons_zero,List.set_cons_succ]
    (refine Q0e 3 (by rfl) (by kernel_rfl) (fun K hK=>?_);simp only [Qzs] at hK;go_simp)
    have bb1:Below u2.heap.size u2 (u2.alloc (.cells #[Value.slice qa (hdN t).length qc] 25)):=Qba _ _
    have o37:=Blk.own (f:=tcell) (size:=1) (l:=[(Value.slice qa (hdN t).length qc,hdN t)]) (B:=u2.heap.size) (Blk.new u2 25 [Value.slice qa (hdN t).length qc]) 1 (fun _=>rfl) rfl (Nat.le_refl _) (by unfold maxLen;omega)
    have hS3:=Below.then hS2 bb1
    have r44:=r44.kept bb1
    have tkid:=fun x hx=>(⟨(t44 x hx).1.kept bb1,trivial⟩:Bytes (u2.alloc (.cells #[Value.slice qa (hdN t).length qc] 25)) x.1 x.2∧True)
    refine hK _ _ hS3 ?_;clear hK K
    have hs1:(u2.alloc (.cells #[Value.slice qa (hdN t).length qc] 25)).heap.size=u2.heap.size+1:=World.size_alloc _ _
    obtain ⟨g37,hg37⟩:∃ g,g=u2.heap.size:=⟨_,rfl⟩
    obtain ⟨u3,hu3⟩:∃ x,x=u2.alloc (.cells #[Value.slice qa (hdN t).length qc] 25):=⟨_,rfl⟩
    change OwnOf tcell 1 25 (u2.alloc (.cells #[Value.slice qa (hdN t).length qc] 25)) u2.heap.size _ _ at o37
    have hgs:w3.heap.size≤g37:=by rw [hg37];exact Below.size hS2
    rw [←hu3] at hS3 o37 hs1 r44 tkid
    have o37:=OwnOf.lower o37 (B':=w3.heap.size) (Below.size hS2)
    rw [←hg37] at o37 hs1
    try simp only [←hg37,←hu3]
    have hgu:g37=u2.heap.size:=hg37
    clear hu3 hg37 bb1
    have hpl44:ps44.length≤10000000000:=by have h1:=dn_len n k wq;have h2:=congrArg List.length m44;rw [List.length_map] at h2;omega
    refine Q0e 11 (by rfl) (by kernel_rfl) (fun K hK=>?_)
    simp only [Qzs] at hK
    refine Q1z (by rfl) (.tmp 37) (.tmp 44) 44 (by rfl) elText (Q0y (fun x hx=>(tkid x hx).1)) (by rfl) o37 (by rfl) r44 hS3.size (by simp only [List.length_cons,List.length_nil];omega) (by simp only [List.length_cons,List.length_nil];unfold maxLen;omega) (fun v5 u5 o5 g5=>?_)
    have hS5:=hS3.grown g5 hS3.size (fun x hx=>by simp only [Value.ownBlock,Option.some.injEq] at hx;omega)
    refine hK _ _ hS5 ?_;clear hK K
    try simp only [Act.put,List.getElem_toArray,List.getElem_cons_zero,List.getElem_cons_succ,List.setIfInBounds_toArray,List.set_cons_zero,List.set_cons_succ]
    (refine wpH_takeQ 12 (fun K hK=>?_);simp only [Qzs] at hK;go_simp;first|(refine hK _ ?_;clear hK K)|(apply Exists.intro;refine ⟨fun _=>rfl,hK _ ?_⟩;clear hK K))
    refine Q16 (by kernel_rfl) ?_
    go_wp2_with fail
    go_ret
    refine ⟨v5,_,rfl,o5.row,fun x hx=>?_,by rw [List.map_append,m44,Hdn.out];rfl,Below.then bb3 hS5⟩
    rcases List.mem_append.1 hx with hx|hx
    ·rw [List.mem_singleton] at hx
     subst hx
     have h1:Bytes u3 (.slice qa (hdN t).length qc) (hdN t):=T3.1.below (Below.then b3' hS3)
     exact ⟨RowOf.offT h1 g5 (fun y hy=>by have:=(T3.2.2 y hy).2.1;have:=b3'.size;show y≠g37;omega),fun y hy=>⟨Nat.le_trans hbel.size (T3.2.2 y hy).1,by have h2:=(T3.2.2 y hy).2.1;have h3:=b3'.size;have h4:=hS5.size;omega⟩⟩
    ·exact ⟨RowOf.offT (tkid x hx).1 g5 (fun y hy=>by have h1:=((t44 x hx).2 y hy).1;have h2:=((t44 x hx).2 y hy).2;show y≠g37;omega),fun y hy=>⟨by have h1:=((t44 x hx).2 y hy).1;have h2:=bb3.size;have h3:=hS0.size;omega,by have h1:=((t44 x hx).2 y hy).2;have h2:=g5.size;have h3:=hs1;omega⟩⟩
theorem gd_any:∀ (m:Nat)(t:Nd),SizeOf.sizeOf t≤m→GdC t
 | 0,.mk kd pv p vv v kv ks,h=>by simp at h
 | m+1,.mk kd pv path vv v kv ks,h=>by
  intro n d p w hI hf hb hn hN hr hx hpl
  have hI':=hI
  obtain ⟨hp,hv,hk,hall⟩:=hI.inv
  obtain ⟨pa,pc,rfl,_,_⟩:=hp.form
  obtain ⟨va,vc,rfl,_,_⟩:=hv.form
  obtain ⟨ka,kc,rfl,_,_⟩:=hk.form
  have hb2:=hb
  simp only [bulkN] at hb2 hn
  obtain ⟨n',rfl⟩:∃ n',n=n'+1:=⟨n - 1,by omega⟩
  exact Qlo kd pa va ka path.length pc v.length vc ks.length kc path v ks rfl rfl rfl n' d p w hI' hf hb (by omega) hr hx hpl (fun k hk d q u hu hrk hq hql=>gd_any m k (by
   have:=List.sizeOf_lt_of_mem hk
   simp only [Nd.mk.sizeOf_spec] at h
   omega) n' d q u ((hall k hk).kept hu) (hf.inv.2.2.2 k hk) (by have:=Q1a hk;omega) (by have:=Q1a hk;omega) (by omega) hrk hq hql)
theorem Qhp (t0:Nd)(ka:Option Addr)(kn kc:Nat)(key:List UInt8)(hkn:key.length=kn)(w:World)(hI:IsNd w t0)(hbg:BgN t0)(hk:Bytes w (.slice ka kn kc) key) :
  Calls Tryz.prog 61 #[.agg (Q03 t0).toArray,.slice ka kn kc] w (MkP (mkE t0 key) (mkL t0 key) w):=by
 obtain ⟨w1,hw1⟩:∃ w1,w1=w.alloc (.cells (Q03 t0).toArray 70):=⟨_,rfl⟩
 have z1:Blk 70 w1 w.heap.size (Q03 t0):=by rw [hw1];exact Blk.new w _ _
 have hbel:Below w.heap.size w w1:=by rw [hw1];exact Qba _ _
 have c1:=Q7n t0 w1 (hI.kept hbel) (by have:=hbg.b;omega) hbg.r
 have hb:=hbg.b
 have hfn:=hbg.f
 clear hbg
 rw [Q7m t0] at c1
 obtain ⟨R,hR⟩:∃ R,R=rgt 0 t0:=⟨_,rfl⟩
 obtain ⟨E,hE⟩:∃ E,E=mkE t0 key:=⟨_,rfl⟩
 obtain ⟨L,hL⟩:∃ L,L=mkL t0 key:=⟨_,rfl⟩
 have cg:=fun (hr:rgt 0 t0=true) u (hu:Below w.heap.size w u) (hl:key.length≤32)=>gd_any (SizeOf.sizeOf t0) t0 (Nat.le_refl _) (bulkN t0) 0 (Q0d key) u (hI.kept hu) hfn hb (Nat.le_refl _) hb hr (Q4g key) (by rw [Q1f];omega)
 obtain ⟨K,hK⟩:∃ K,K=Q03 t0:=⟨_,rfl⟩
 have hKl:K.length=4:=by rw [hK];exact Q06 t0
 rw [←hE,←hL]
 unfold mkE at hE
 unfold mkL at hL
 rw [hkn] at hE hL
 simp only [←hR,←hK] at c1 z1 hw1 hE hL cg ⊢
 have C1:=Qhd c1
 have Hw1:=Qhd hw1
 have HKl:=Qhd hKl
 have r1:=z1.all0
 cases R with
 | false =>
  obtain rfl:E=1:=by rw [hE];rfl
  have hL':L=[]:=by rw [hL];rfl
  clear hL
  subst hL'
  clear c1 hR hK hKl hw1 hI hb hfn hk hE cg
  go_enter Tryz.func61,Tryz.ntmps61
  go_wp2_with (first
   |((with_reducible refine Qgl 6 ?_);refine Qlw 70 2 w.heap.size 0 Q05 HKl.out (by rw [←Hw1.out];exact r1) ?_)
   |(go_at_call 93;rw [←Hw1.out];(with_reducible refine C1.out.mono ?_);rintro e w2 ⟨rfl,b2⟩;have bb2:=Below.then hbel b2))
  go_ret2
  exact ⟨_,[],rfl,RowOf.nil tcell 1 _,fun q hq=>absurd hq (by simp),rfl,bb2⟩
 | true =>
  by_cases h32:kn≤32
  ·obtain rfl:E=0:=by rw [hE];simp [h32]
   have hL':L=dn (bulkN t0) t0 (Q0d key):=by rw [hL];simp [h32]
   have hki:((32:Int)<(kn:Int))=False:=eq_false (by omega)
   obtain ⟨H,hH⟩:∃ H,H=Q0d key:=⟨_,rfl⟩
   have ch:∀ u,Below w.heap.size w u→Calls Tryz.prog 95 #[.slice ka kn kc] u fun e w'=>∃ v,e=.returned v∧OwnOf b8 1 5 w' u.heap.size v H∧Below u.heap.size u w':=fun u hu=>by
    have h2:=hk.below hu
    rw [←hkn] at h2 ⊢
    rw [hH];exact Q40 ka kc key u h2 (by omega)
   have Cg:Hid (∀ u,Below w.heap.size w u→Calls Tryz.prog 94 #[.agg K.toArray,.string ⟨H.toArray⟩] u (GdPost L u)):=Qhd fun u hu=>by rw [hL',hH];exact cg rfl u hu (by omega)
   have Ch:=Qhd ch
   have HzL:Hid (∀ u,Below w1.heap.size w1 u→Blk 70 u w.heap.size K):=Qhd fun u hu=>z1.kept hu
   clear c1 hR hKl hw1 hI hb hfn hk hE hL hL' hH ch hkn h32 hK cg
   go_enter Tryz.func61,Tryz.ntmps61
   go_wp2_with (first
    |((with_reducible refine Qgl 6 ?_);refine Qlw 70 2 w.heap.size 0 Q05 HKl.out (by rw [←Hw1.out];exact r1) ?_)
    |(go_at_call 93;rw [←Hw1.out];(with_reducible refine C1.out.mono ?_);rintro e w2 ⟨rfl,b2⟩;have bb2:=Below.then hbel b2))
   refine Q0t ((fun u=>Below w2.heap.size w2 u)) (by kernel_rfl) ?_;intro u0 hu0;simp only [List.length_cons,List.length_nil,Nat.reduceAdd,List.replicate_succ,List.replicate_zero]
   have hS0:Below w2.heap.size w2 u0:=(by rw [hu0];exact (Below.refl _ _).drew)
   clear hu0
   (refine wpH_takeQ 0 (fun K hK=>?_);simp only [Qzs] at hK;refine Qdy (by rfl) 70 (.tmp 2) (by rfl) w.heap.size (by rfl) Q05 (fun u hu=>HzL.out u (Below.then b2 hu)) HKl.out (hK _ ?_);clear hK K;try simp only [Act.put,List.getElem_toArray,List.getElem_cons_zero,List.getElem_cons_succ,List.setIfInBounds_toArray,List.set_cons_zero,List.set_cons_succ])
   (refine wpH_takeQ 1 (fun K hK=>?_);simp only [Qzs] at hK;go_simp;first|(refine hK _ ?_;clear hK K)|(apply Exists.intro;refine ⟨fun _=>rfl,hK _ ?_⟩;clear hK K))
   (refine Q0e 2 (by rfl) (by kernel_rfl) (fun K hK=>?_);simp only [Qzs] at hK;go_simp)
   refine (Ch.out u0 (Below.then bb2 hS0)).mono ?_
   rintro e u1 ⟨v14,rfl,o14,b14⟩
   obtain ⟨a14,c14,rfl,_⟩:=o14.form
   have hS1:=Below.then hS0 b14
   refine hK _ _ hS1 ?_;clear hK K
   try simp only [Act.put,List.getElem_toArray,List.getElem_cons_zero,List.getElem_cons_succ,List.setIfInBounds_toArray,List.set_cons_zero,List.set_cons_succ]
   have s1:=Q0h (P:=Tryz.prog) (src:=25) (dst:=9) elU8.ht (by kernel_rfl) (by kernel_rfl) o14.row
   (refine Q0e 3 (by rfl) (by kernel_rfl) (fun K hK=>?_);simp only [Qzs] at hK;go_simp)
   refine hK _ _ hS1 ?_;clear hK K
   try simp only [Act.put,List.getElem_toArray,List.getElem_cons_zero,List.getElem_cons_succ,List.setIfInBounds_toArray,List.set_cons_zero,List.set_cons_succ]
   clear s1
   (refine Q0e 4 (by rfl) (by kernel_rfl) (fun K hK=>?_);simp only [Qzs] at hK;go_simp)
   refine (Cg.out u1 (Below.then bb2 hS1)).mono ?_
   rintro e u2 ⟨v16,ps16,rfl,r16,t16,m16,b16⟩
   have hS2:=Below.then hS1 b16
   refine hK _ _ hS2 ?_;clear hK K
   try simp only [Act.put,List.getElem_toArray,List.getElem_cons_zero,List.getElem_cons_succ,List.setIfInBounds_toArray,List.set_cons_zero,List.set_cons_succ]
   (refine wpH_takeQ 5 (fun K hK=>?_);simp only [Qzs] at hK;go_simp;first|(refine hK _ ?_;clear hK K)|(apply Exists.intro;refine ⟨fun _=>rfl,hK _ ?_⟩;clear hK K));(refine wpH_takeQ 6 (fun K hK=>?_);simp only [Qzs] at hK;go_simp;first|(refine hK _ ?_;clear hK K)|(apply Exists.intro;refine ⟨fun _=>rfl,hK _ ?_⟩;clear hK K))
   refine Q16 (by kernel_rfl) ?_
   go_wp2_with fail
   go_ret2
   exact ⟨v16,ps16,rfl,r16,fun x hx=>(t16 x hx).1,m16,Below.then bb2 hS2⟩
  ·obtain rfl:E=3:=by rw [hE];simp [h32]
   have hL':L=[]:=by rw [hL];simp [h32]
   have hki:(32:Int)<(kn:Int):=by omega
   clear hL
   subst hL'
   clear c1 hR hK hKl hw1 hI hb hfn hk hE cg
   go_enter Tryz.func61,Tryz.ntmps61
   go_wp2_with (first
    |((with_reducible refine Qgl 6 ?_);refine Qlw 70 2 w.heap.size 0 Q05 HKl.out (by rw [←Hw1.out];exact r1) ?_)
    |(go_at_call 93;rw [←Hw1.out];(with_reducible refine C1.out.mono ?_);rintro e w2 ⟨rfl,b2⟩;have bb2:=Below.then hbel b2))
   go_ret2
   exact ⟨_,[],rfl,RowOf.nil tcell 1 _,fun q hq=>absurd hq (by simp),rfl,bb2⟩
end Go.Proofs.YtbdmkfjgnjfjbaaGreat
