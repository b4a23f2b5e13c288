/- root.Codes, the reference's HCodes. | root.Root, the reference's HRoot. -/
import Derived.Test.YtbdmkfjgnjfjbaaGreatLazyServesK28
import Derived.Test.YtbdmkfjgnjfjbaaGreatLazyServesK14
set_option linter.unusedSimpArgs false
set_option linter.unusedVariables false
set_option maxHeartbeats 4000000
set_option maxRecDepth 100000
namespace Go.Proofs.YtbdmkfjgnjfjbaaGreat
open Go.RowKit
structure BgN (t:Nd):Prop where
 f:FnN t
 b:bulkN t≤10000000000
 r:∀ l,rts t=some l→l.length≤1048576
def whN (t:Nd):List (List UInt8):=if t.kd=0 then [textB []] else alN t
theorem whN_ne (t:Nd):∃ c l,whN t=c::l:=by
 unfold whN
 split
 ·exact ⟨_,_,rfl⟩
 ·obtain ⟨l,h⟩:=alN_ne t;exact ⟨_,_,h⟩
theorem Qks (t:Nd):(whN t).length≤bulkN t:=by
 unfold whN
 split
 ·exact Q2t t
 ·exact Qih t
def WhP (R:Bool)(A:List (List UInt8))(w:World)(e:Ending)(w':World):Prop:=∃ v ps,e=.returned (.tuple #[v,.int .i64 (if R=true then 0 else 1)])∧RowOf tcell 1 w' v ps∧(∀ q∈ps,Bytes w' q.1 q.2∧q.2.length≤1000000000∧∀ k,q.1.ownBlock=some k→w.heap.size≤k∧k<w'.heap.size)∧ps.map (·.2)=(if R=true then A else [])∧Below w.heap.size w w'∧∀ k,v.ownBlock=some k→w.heap.size≤k∧k<w'.heap.size
abbrev WhPost (t:Nd)(w:World)(e:Ending)(w':World):Prop:=WhP (rgt 0 t) (whN t) w e w'
theorem Qfi (pa va ka:Option Addr)(pn pc vn vc kn kc:Nat)(w:World):Calls Tryz.prog 109 #[.agg #[.int .i64 0,.slice pa pn pc,.slice va vn vc,.slice ka kn kc]] w (TcPost [textB []] w):=by
 obtain ⟨w2,hw2⟩:∃ w2,w2=(w.alloc (.cells #[.int .i64 0,.slice pa pn pc,.slice va vn vc,.slice ka kn kc] 70)).alloc (.cells #[.int .i64 0,.slice none 0 0,.slice none 0 0,.slice none 0 0] 134):=⟨_,rfl⟩
 have z1:Blk 70 w2 w.heap.size [.int .i64 0,.slice pa pn pc,.slice va vn vc,.slice ka kn kc]:=by rw [hw2];exact (Blk.new w _ _).alloc _
 have z2:Blk 134 w2 (w.heap.size+1) [.int .i64 0,.slice none 0 0,.slice none 0 0,.slice none 0 0]:=by
  have:=Blk.new (w.alloc (.cells #[.int .i64 0,.slice pa pn pc,.slice va vn vc,.slice ka kn kc] 70)) 134 [.int .i64 0,.slice none 0 0,.slice none 0 0,.slice none 0 0]
  simp only [World.size_alloc] at this
  rw [hw2];exact this
 have hbel:Below w.heap.size w w2:=by rw [hw2];exact (Qba _ _).alloc (by simp) _
 obtain ⟨CB,hCB⟩:∃ B,B=textB []:=⟨_,rfl⟩
 have ci:∀ x,Calls Tryz.prog 136 #[.agg #[.int .i64 0,.slice none 0 0,.slice none 0 0,.slice none 0 0]] x fun e w'=>∃ cv,e=.returned (.tuple #[cv,.int .i64 0])∧Bytes w' cv CB∧(∀ k,cv.ownBlock=some k→x.heap.size≤k∧k<w'.heap.size)∧Below x.heap.size x w'∧CB.length≤1000000000:=fun x=>by
  have:=Q6d 0 none none none 0 0 0 0 0 0 [] [] [] rfl rfl rfl x (RowOf.nil b8 1 x) (RowOf.nil b8 1 x) ⟨RowOf.nil tcell 1 x,fun q hq=>absurd hq (by simp)⟩ (by omega) (by omega) (by omega) (fun q hq=>absurd hq (by simp))
  rw [hCB];exact this
 rw [←hCB]
 have Ci:=Qhd ci
 have c0:=z1.cell 0
 have Hw2:=Qhd hw2
 clear hw2 ci hCB
 go_enter Tryz.func109,Tryz.ntmps109
 go_wp2_with (first
  |(rw [←Hw2.out];have c0:w2.cell? ⟨w.heap.size,0,none⟩=some (.int .i64 0):=c0)
  |((with_reducible refine Qgl 64 ?_);refine Qla 134 3 (w.heap.size+1) Q1k z2 (by rfl) ?_)
  |(go_at_call 136;refine (Ci.out _).mono ?_;rintro e w4 ⟨cv,rfl,hc,fc,b4,lc⟩;obtain ⟨ca,cc,rfl,_⟩:=hc.form;have hbel4:=Below.then hbel b4)
  |((with_reducible refine Qgl 69 ?_);refine Q0s (o:=⟨some 69,_,_,_,_,_⟩) (by rfl) 44 1 [(0,.tmp 68)] (by rfl) elText [(.slice ca CB.length cc,CB)] [.slice ca CB.length cc] (by rfl) (by rfl) (by rfl) (by omega) (by omega) ?_;intro w5 y5 _ b5;have hbel5:=Below.then hbel4 b5;have o5:=Blk.own (f:=tcell) (size:=1) (l:=[(Value.slice ca CB.length cc,CB)]) (B:=w.heap.size) y5 1 (fun _=>rfl) rfl hbel4.size (by unfold maxLen;omega);have hc:=hc.kept b5)
  |((with_reducible refine Qgl 71 ?_);refine Q0g (o:=⟨some 71,_,_,_,_,_⟩) (by rfl) (.tmp 69) (.tmp 70) 44 (by rfl) elText (m:=[]) (by simp) (by rfl) o5 (by rfl) (RowOf.nil tcell 1 _) (by have:=hbel5.size;omega) (by simp) (by simp;unfold maxLen;omega) ?_;intro v6 w6 o6 g6 p6))
 go_ret
 have hcl:∀ k,(Value.slice ca CB.length cc).ownBlock=some k→k<w4.heap.size:=fun k hk=>(fc k hk).2
 refine ⟨v6,[(.slice ca CB.length cc,CB)],rfl,by simpa using o6,fun q hq=>?_,rfl,?_⟩
 ·rw [List.mem_singleton] at hq
  subst hq
  refine ⟨RowOf.offT hc g6 (fun x hx=>Nat.ne_of_lt (hcl x hx)),lc,fun k hk=>⟨Nat.le_trans hbel.size (fc k hk).1,Nat.lt_of_lt_of_le (hcl k hk) (Nat.le_trans b5.size g6.size),fun e=>?_⟩⟩
  have h1:=hcl k hk
  rcases p6 k e with h|h
  ·simp only [Value.ownBlock,Option.some.injEq] at h;omega
  ·have:=b5.size;omega
 ·exact hbel5.grown g6 hbel5.size (fun k hk=>by simp only [Value.ownBlock,Option.some.injEq] at hk;have:=hbel4.size;omega)
theorem Qj0 (t:Nd)(hr:rgt 0 t=true)(hb:BgN t)(w:World)(hI:IsNd w t):Calls Tryz.prog 109 #[.agg (Q03 t).toArray] w (TcPost (whN t) w):=by
 unfold whN
 by_cases h0:t.kd=0
 ·rw [if_pos h0]
  obtain ⟨kd,pv,p,vv,v,kv,ks⟩:=t
  obtain rfl:kd=0:=h0
  obtain ⟨hp,hv,hk,_⟩:=hI.inv
  obtain ⟨pa,pc,rfl,_,_⟩:=hp.form
  obtain ⟨va,vc,rfl,_,_⟩:=hv.form
  obtain ⟨ka,kc,rfl,_,_⟩:=hk.form
  exact Qfi pa va ka _ pc _ vc _ kc w
 ·rw [if_neg h0]
  exact tc_any (SizeOf.sizeOf t) t (Nat.le_refl _) (rgt_ok 0 t hr h0) hb.f hb.b w hI
theorem Qen (t:Nd)(w:World)(hI:IsNd w t)(hb:BgN t):Calls Tryz.prog 80 #[.agg (Q03 t).toArray] w (WhPost t w):=by
 obtain ⟨w1,hw1⟩:∃ w1,w1=w.alloc (.cells (Q03 t).toArray 70):=⟨_,rfl⟩
 have hz:Blk 70 w1 w.heap.size (Q03 t):=by rw [hw1];exact Blk.new w _ _
 have hbel:Below w.heap.size w w1:=by rw [hw1];exact Qba _ _
 have c1:=Q7n t w1 (hI.kept hbel) (by have:=hb.b;omega) hb.r
 rw [Q7m t] at c1
 have c2:=fun (hr:rgt 0 t=true) u (hu:Below w.heap.size w u)=>Qj0 t hr hb u (hI.kept hu)
 show Calls _ _ _ _ (WhP (rgt 0 t) (whN t) w)
 obtain ⟨R,hR⟩:∃ R,R=rgt 0 t:=⟨_,rfl⟩
 obtain ⟨K,hK⟩:∃ K,K=Q03 t:=⟨_,rfl⟩
 have hKl:K.length=4:=by rw [hK];exact Q06 t
 simp only [←hR,←hK] at c1 c2 hz hw1 ⊢
 have C1:=Qhd c1
 have Hw1:=Qhd hw1
 have HKl:=Qhd hKl
 have r1:=hz.all0
 cases R with
 | false =>
  clear c1 c2 hR hK hKl hw1 hI hb
  go_enter Tryz.func80,Tryz.ntmps80
  go_wp2_with (first
   |((with_reducible refine Qgl 4 ?_);refine Qlw 70 1 w.heap.size 0 Q05 HKl.out (by rw [←Hw1.out];exact r1) ?_)
   |(go_at_call 93;rw [←Hw1.out];(with_reducible refine C1.out.mono ?_);rintro e w2 ⟨rfl,b2⟩;have bb2:=Below.then hbel b2))
  go_ret2
  exact ⟨_,[],rfl,RowOf.nil tcell 1 _,fun q hq=>absurd hq (by simp),rfl,bb2,fun k hk=>by simp [Value.ownBlock] at hk⟩
 | true =>
  have C2:=Qhd (c2 rfl)
  clear c1 c2 hR hK hKl hw1 hI hb
  go_enter Tryz.func80,Tryz.ntmps80
  go_wp2_with (first
   |((with_reducible refine Qgl 4 ?_);refine Qlw 70 1 w.heap.size 0 Q05 HKl.out (by rw [←Hw1.out];exact r1) ?_)
   |(go_at_call 93;rw [←Hw1.out];(with_reducible refine C1.out.mono ?_);rintro e w2 ⟨rfl,b2⟩;have bb2:=Below.then hbel b2;have r2:=(hz.kept b2).all0)
   |((with_reducible refine Qgl 7 ?_);refine Qlw 70 1 w.heap.size 0 Q05 HKl.out r2 ?_)
   |(go_at_call 109;(with_reducible refine (C2.out _ bb2).mono ?_);rintro e w3 ⟨v3,ps3,rfl,o3,t3,m3,b3⟩;have bb3:=Below.then bb2 b3))
  go_ret2
  exact ⟨v3,ps3,rfl,o3.row,fun q hq=>⟨(t3 q hq).1,(t3 q hq).2.1,fun k hk=>⟨Nat.le_trans bb2.size ((t3 q hq).2.2 k hk).1,((t3 q hq).2.2 k hk).2.1⟩⟩,m3,bb3,fun k hk=>⟨Nat.le_trans bb2.size (OwnOf.lt o3 k hk),OwnOf.ltT o3 k hk⟩⟩
theorem Q7a (t:Nd)(w:World)(hI:IsNd w t)(hb:BgN t):Calls Tryz.prog 75 #[.agg (Q03 t).toArray] w (WhPost t w):=by
 have c1:=fun u (hu:Below w.heap.size w u)=>Q71 t u (hI.kept hu) (by have:=hb.b;omega)
 show Calls _ _ _ _ (WhP (rgt 0 t) (whN t) w)
 obtain ⟨R,hR⟩:∃ R,R=rgt 0 t:=⟨_,rfl⟩
 simp only [←hR] at c1 ⊢
 have hwh:∀ k,t.kd=k→k≠0→whN t=alN t:=fun k h1 h2=>by unfold whN;rw [if_neg (by rw [h1];exact h2)]
 have hw0:t.kd=0→whN t=[textB []]:=fun h1=>by unfold whN;rw [if_pos h1]
 have c2:=Q6q (SizeOf.sizeOf t) t (Nat.le_refl _) hb.f
 replace hb:=hb.b
 obtain ⟨A,hA⟩:∃ A,A=alN t:=⟨_,rfl⟩
 obtain ⟨C,hC⟩:∃ C,C=cdN t:=⟨_,rfl⟩
 obtain ⟨Wh,hWh⟩:∃ A,A=whN t:=⟨_,rfl⟩
 rw [←hWh] at hwh hw0 ⊢
 rw [←hA] at hwh
 unfold CdC at c2
 rw [←hA,←hC] at c2
 obtain ⟨t',ht'⟩:∃ t',t'=t:=⟨_,rfl⟩
 rw [←ht'] at c2 hb hI
 obtain ⟨kd,pv,p,vv,v,kv,ks⟩:=t
 obtain ⟨hp,hv,hk,_⟩:=(ht'▸hI:IsNd w (.mk kd pv p vv v kv ks)).inv
 obtain ⟨pa,pc,rfl,_,_⟩:=hp.form
 obtain ⟨va,vc,rfl,_,_⟩:=hv.form
 obtain ⟨ka,kc,rfl,_,_⟩:=hk.form
 obtain ⟨pn,hpn⟩:∃ n,n=p.length:=⟨_,rfl⟩
 obtain ⟨vn,hvn⟩:∃ n,n=v.length:=⟨_,rfl⟩
 obtain ⟨kn,hkn⟩:∃ n,n=ks.length:=⟨_,rfl⟩
 rw [←hpn,←hvn,←hkn] at c1 ht' hwh hw0 ⊢
 obtain ⟨w1,hw1⟩:∃ w1,w1=w.alloc (.cells #[.int .i64 kd,.slice pa pn pc,.slice va vn vc,.slice ka kn kc] 70):=⟨_,rfl⟩
 have hz:Blk 70 w1 w.heap.size [.int .i64 kd,.slice pa pn pc,.slice va vn vc,.slice ka kn kc]:=by rw [hw1];exact Blk.new w _ _
 have hbel:Below w.heap.size w w1:=by rw [hw1];exact Qba _ _
 have C1:Hid (∀ u,Below w.heap.size w u→Calls Tryz.prog 103 #[.agg #[.int .i64 kd,.slice pa pn pc,.slice va vn vc,.slice ka kn kc]] u fun e w'=>e=.returned (.bool R)∧Below u.heap.size u w'):=Qhd fun u hu=>c1 u hu
 have Hw1:=Qhd hw1
 have hwh:kd≠0→Wh=A:=fun h=>hwh kd rfl h
 have hw0:kd=0→Wh=[textB []]:=fun h=>hw0 h
 change Calls Tryz.prog 75 #[.agg #[.int .i64 kd,.slice pa pn pc,.slice va vn vc,.slice ka kn kc]] w (WhP R Wh w)
 cases R with
 | false =>
  clear c1 c2 hR hw1 hI hb hA hC hWh hwh hw0 ht' hp hv hk hpn hvn hkn
  go_enter Tryz.func75,Tryz.ntmps75
  go_wp2_with (first
   |((with_reducible refine Qgl 5 ?_);rw [←Hw1.out];refine Qla 70 1 w.heap.size Q05 hz (by rfl) ?_)
   |(go_at_call 103;(with_reducible refine (C1.out _ hbel).mono ?_);rintro e w2 ⟨rfl,b2⟩;have bb2:=Below.then hbel b2))
  go_ret2
  exact ⟨_,[],rfl,RowOf.nil tcell 1 _,fun q hq=>absurd hq (by simp),rfl,bb2,fun k hk=>by simp [Value.ownBlock] at hk⟩
 | true =>
  by_cases h0:kd=0
  ·have HW:=Qhd (hw0 h0)
   have hc0:cdN (.mk 0 (.slice none 0 0) [] (.slice none 0 0) [] (.slice none 0 0) [])=textB []:=by rw [cdN];simp [shOk,shB]
   have ha0:alN (.mk 0 (.slice none 0 0) [] (.slice none 0 0) [] (.slice none 0 0) [])=[textB []]:=by rw [alN,hc0];simp [alL]
   have cz:=Q6q (SizeOf.sizeOf (Nd.mk 0 (.slice none 0 0) [] (.slice none 0 0) [] (.slice none 0 0) [])) _ (Nat.le_refl _) (.mk _ _ _ _ _ _ _ (by simp) (by simp) (by simp) (fun k hk=>absurd hk (by simp)))
   unfold CdC at cz
   rw [hc0,ha0] at cz
   have ci:∀ u g,Below w.heap.size w u→w.heap.size≤g→Blk 44 u g [.slice none 0 0]→Calls Tryz.prog 104 #[.agg #[.int .i64 0,.slice none 0 0,.slice none 0 0,.slice none 0 0],.pointer (some ⟨g,0,none⟩)] u (CdPost (textB []) [textB []] g w.heap.size (.slice none 0 0) [] u):=fun u g h1 h2 h3=>cz w u g w.heap.size _ [] (.mk _ _ _ _ _ _ _ (RowOf.nil b8 1 _) (RowOf.nil b8 1 _) (RowOf.nil Q03 4 _) (fun k hk=>absurd hk (by simp))) h1 h2 (Nat.le_refl _) h1.size h3 (OwnOf.nil tcell 1 _ _ _) (by simp [bulkN,bulkNL]) (by simp [bulkN,bulkNL])
   have Ci:=Qhd ci
   have c0:w1.cell? ⟨w.heap.size,0,none⟩=some (.int .i64 0):=by rw [←h0];exact hz.cell 0
   subst h0
   clear c1 c2 hR hw1 hI hb hA hC hWh hwh hw0 ht' hp hv hk hpn hvn hkn cz hc0 ha0 ci
   go_enter Tryz.func75,Tryz.ntmps75
   go_wp2_with (first
    |((with_reducible refine Qgl 5 ?_);rw [←Hw1.out];refine Qla 70 1 w.heap.size Q05 hz (by rfl) ?_)
    |(go_at_call 103;(with_reducible refine (C1.out _ hbel).mono ?_);rintro e w2 ⟨rfl,b2⟩;have bb2:=Below.then hbel b2;have z2:=hz.kept b2;have c2:w2.cell? ⟨w.heap.size,0,none⟩=some (.int .i64 0):=z2.cell 0)
    |((with_reducible refine Qgs 11 ?_);refine Qsa 70 1 11 w.heap.size [.int .i64 0,.slice none 0 0,.slice none 0 0,.slice none 0 0] Q05 z2 (by rfl) (by rfl) (by intro u hu;simp at hu;rcases hu with rfl|rfl|rfl|rfl<;>rfl) bb2 (Nat.le_refl _) ?_;intro w3 y3 bb3 _;have y3:=y3.alloc (.cells #[.slice none 0 0] 44);have n4:=Blk.new w3 44 [.slice none 0 0];have bb4:=bb3.alloc bb3.size (.cells #[.slice none 0 0] 44))
    |((with_reducible refine Qgl 12 ?_);refine Qla 70 1 w.heap.size Q05 y3 (by rfl) ?_)
    |(go_at_call 104;(with_reducible refine (Ci.out _ _ bb4 bb3.size n4).mono ?_);rintro e w5 ⟨cv,rv,ps5,rfl,_,_,_,zg5,o5,m5,t5,p5,bt5⟩;have cg:w5.cell? ⟨w3.heap.size,0,none⟩=some rv:=zg5.cell 0;obtain ⟨ra,rc,rfl,_⟩:=o5.form))
   go_ret2
   exact ⟨_,ps5,rfl,o5.row,fun q hq=>⟨(t5 q hq).1,(t5 q hq).2.1,fun k hk=>⟨Nat.le_trans bb4.size ((t5 q hq).2.2 k hk).1,((t5 q hq).2.2 k hk).2.1⟩⟩,by rw [m5,HW.out];rfl,bb4.trans (bt5.below bb4.size bb3.size (fun k hk=>by simp [Value.ownBlock] at hk)),fun k hk=>⟨OwnOf.lt o5 k hk,OwnOf.ltT o5 k hk⟩⟩
  ·have HW:=Qhd (hwh h0)
   have hkb:(kd==0)=false:=by rw [beq_eq_false_iff_ne];exact h0
   have ci:∀ u g,Below w.heap.size w u→w.heap.size≤g→Blk 44 u g [.slice none 0 0]→Calls Tryz.prog 104 #[.agg #[.int .i64 kd,.slice pa pn pc,.slice va vn vc,.slice ka kn kc],.pointer (some ⟨g,0,none⟩)] u (CdPost C A g w.heap.size (.slice none 0 0) [] u):=fun u g h1 h2 h3=>by
    have:=c2 w u g w.heap.size _ [] hI h1 h2 (Nat.le_refl _) h1.size h3 (OwnOf.nil tcell 1 _ _ _) (by simp;omega) hb
    rw [ht'] at this;exact this
   have Ci:=Qhd ci
   clear c1 c2 hR hw1 hI hb hA hC hWh hwh hw0 ht' hp hv hk hpn hvn hkn ci h0
   go_enter Tryz.func75,Tryz.ntmps75
   go_wp2_with (first
    |((with_reducible refine Qgl 5 ?_);rw [←Hw1.out];refine Qla 70 1 w.heap.size Q05 hz (by rfl) ?_)
    |(go_at_call 103;(with_reducible refine (C1.out _ hbel).mono ?_);rintro e w2 ⟨rfl,b2⟩;have bb2:=Below.then hbel b2;have z2:=hz.kept b2;have c2:w2.cell? ⟨w.heap.size,0,none⟩=some (.int .i64 kd):=z2.cell 0;have y3:=z2.alloc (.cells #[.slice none 0 0] 44);have n4:=Blk.new w2 44 [.slice none 0 0];have bb4:=bb2.alloc bb2.size (.cells #[.slice none 0 0] 44))
    |((with_reducible refine Qgl 12 ?_);refine Qla 70 1 w.heap.size Q05 y3 (by rfl) ?_)
    |(go_at_call 104;(with_reducible refine (Ci.out _ _ bb4 bb2.size n4).mono ?_);rintro e w5 ⟨cv,rv,ps5,rfl,_,_,_,zg5,o5,m5,t5,p5,bt5⟩;have cg:w5.cell? ⟨w2.heap.size,0,none⟩=some rv:=zg5.cell 0;obtain ⟨ra,rc,rfl,_⟩:=o5.form))
   go_ret2
   exact ⟨_,ps5,rfl,o5.row,fun q hq=>⟨(t5 q hq).1,(t5 q hq).2.1,fun k hk=>⟨Nat.le_trans bb4.size ((t5 q hq).2.2 k hk).1,((t5 q hq).2.2 k hk).2.1⟩⟩,by rw [m5,HW.out];rfl,bb4.trans (bt5.below bb4.size bb2.size (fun k hk=>by simp [Value.ownBlock] at hk)),fun k hk=>⟨OwnOf.lt o5 k hk,OwnOf.ltT o5 k hk⟩⟩
def rtC (t:Nd):List Value:=if rgt 0 t=true then (sumB ((whN t).headD [])).map u8v else zh
theorem Qg5 (t:Nd)(w:World)(hI:IsNd w t)(hb:BgN t):Calls Tryz.prog 35 #[.agg (Q03 t).toArray] w fun e w'=>e=.returned (.tuple #[.agg (rtC t).toArray,.int .i64 (if rgt 0 t=true then 0 else 1)])∧Below w.heap.size w w':=by
 obtain ⟨w1,hw1⟩:∃ w1,w1=(w.alloc (.cells (Q03 t).toArray 70)).alloc (.cells zh.toArray 30):=⟨_,rfl⟩
 have hz:Blk 70 w1 w.heap.size (Q03 t):=by rw [hw1];exact (Blk.new w _ _).alloc _
 have hh:Blk 30 w1 (w.heap.size+1) zh:=by
  have:=Blk.new (w.alloc (.cells (Q03 t).toArray 70)) 30 zh
  simp only [World.size_alloc] at this
  rw [hw1];exact this
 have hbel:Below w.heap.size w w1:=by rw [hw1];exact (Qba _ _).alloc (by simp) _
 have c1:Calls Tryz.prog 75 #[.agg (Q03 t).toArray] w1 (WhP (rgt 0 t) (whN t) w1):=Q7a t w1 (hI.kept hbel) hb
 obtain ⟨c,l,hcl⟩:=whN_ne t
 have hrt:rtC t=if rgt 0 t=true then (sumB c).map u8v else zh:=by unfold rtC;rw [hcl];rfl
 obtain ⟨R,hR⟩:∃ R,R=rgt 0 t:=⟨_,rfl⟩
 obtain ⟨K,hK⟩:∃ K,K=Q03 t:=⟨_,rfl⟩
 have hKl:K.length=4:=by rw [hK];exact Q06 t
 rw [hrt]
 rw [hcl] at c1
 simp only [←hR,←hK] at c1 hz hw1 ⊢
 have C1:=Qhd c1
 have Hw1:=Qhd hw1
 have HKl:=Qhd hKl
 have r1:=hz.all0
 cases R with
 | false =>
  rw [if_neg (by simp)]
  clear c1 hR hK hKl hw1 hI hb hrt hcl
  go_enter Tryz.func35,Tryz.ntmps35
  go_wp2_with (first
   |((with_reducible refine Qgl 7 ?_);refine Qlw 70 1 w.heap.size 0 Q05 HKl.out (by have h:=r1;rw [Hw1.out] at h;exact h) ?_)
   |(go_at_call 75;have C2:=C1.out;rw [Hw1.out] at C2;refine C2.mono ?_;rintro e w2 ⟨v2,ps2,rfl,r2,_,m2,b2,_⟩;rw [←Hw1.out] at b2;obtain ⟨x2,y2,rfl,_⟩:=r2.form;have hh2:=hh.kept b2;have bb2:=Below.then hbel b2)
   |((with_reducible refine Qgs 13 ?_);refine Qsa 30 2 13 (w.heap.size+1) zh Q0l hh2 (by rfl) (by rfl) (by intro u hu;rw [List.eq_of_mem_replicate hu];rfl) bb2 (by omega) ?_;intro w3 hh3 bb3 _))
  exact bodyPost_ret (Q04 rfl _ _ (w.heap.size+1) Q0l hh3 rfl rfl rfl) rfl ⟨rfl,bb3⟩
 | true =>
  rw [if_pos rfl]
  obtain ⟨S,hS⟩:∃ S,S=(sumB c).map u8v:=⟨_,rfl⟩
  have cs:∀ (a:Option Addr) (n k:Nat) (hn:c.length=n) (x:World),Bytes x (.slice a n k) c→n≤1000000000→Calls Tryz.prog 37 #[.slice a n k] x fun e w'=>e=.returned (.agg S.toArray)∧Below x.heap.size x w':=fun a n k hn x hx hn2=>by rw [hS];exact Q3w a n k c hn x hx
  have HSl:Hid (S.length=32):=Qhd (by rw [hS,List.length_map];exact Q0i _)
  have HSo:Hid (∀ u∈S,u.oneCell'=true):=Qhd (by rw [hS];intro u hu;obtain ⟨y,_,rfl⟩:=List.mem_map.1 hu;rfl)
  rw [←hS]
  have Cs:=Qhd cs
  clear c1 hR hK hKl hw1 hI hb hrt hcl cs hS
  go_enter Tryz.func35,Tryz.ntmps35
  go_wp2_with (first
   |((with_reducible refine Qgl 7 ?_);refine Qlw 70 1 w.heap.size 0 Q05 HKl.out (by have h:=r1;rw [Hw1.out] at h;exact h) ?_)
   |(go_at_call 75;have C2:=C1.out;rw [Hw1.out] at C2;refine C2.mono ?_;rintro e w2 ⟨v2,ps2,rfl,r2,t2,m2,b2,_⟩;rw [←Hw1.out] at b2;obtain ⟨qv,ps3,rfl,_⟩:=Q41 (m2.trans (if_pos rfl));obtain ⟨t3,l3,_⟩:=t2 _ List.mem_cons_self;dsimp only at t3 l3;obtain ⟨n2,hn2⟩:∃ n,n=ps3.length+1:=⟨_,rfl⟩;have h0n:(0:Int)<(n2:Int):=(by omega);obtain ⟨va,vc,rfl,_⟩:=r2.form' n2 (by rw [hn2];rfl);obtain ⟨b,off,rfl,rr⟩:=RowOf.range (f:=tcell) (size:=1) (fun _=>rfl) r2 0 (Nat.zero_lt_succ _);have k2:w2.cell? ⟨b,off,none⟩=some qv:=rr 0 qv rfl;obtain ⟨qa,qc,rfl,_⟩:=t3.form;obtain ⟨qn,hqn⟩:∃ n,n=c.length:=⟨_,rfl⟩;rw [←hqn] at t3 l3 k2;have Hqn:=Qhd hqn;clear hqn hn2 m2 t2;have hh2:=hh.kept b2;have bb2:=Below.then hbel b2)
   |(go_at_call 37;refine (Cs.out qa qn qc Hqn.out.symm _ t3 l3).mono ?_;rintro e w3 ⟨rfl,b3⟩;have hh3:=hh2.kept b3;have bb3:=Below.then bb2 b3)
   |((with_reducible refine Qgs 18 ?_);refine Qsa 30 2 18 (w.heap.size+1) S Q0l hh3 HSl.out (by rfl) HSo.out bb3 (by omega) ?_;intro w4 hh4 bb4 _))
  exact bodyPost_ret (Q04 rfl _ _ (w.heap.size+1) Q0l hh4 HSl.out rfl rfl) rfl ⟨rfl,bb4⟩
theorem Qhr (t:Nd)(w:World)(hI:IsNd w t)(hb:BgN t):Calls Tryz.prog 39 #[.agg (Q03 t).toArray] w fun e w'=>e=.returned (.tuple #[.agg (rtC t).toArray,.int .i64 (if rgt 0 t=true then 0 else 1)])∧Below w.heap.size w w':=by
 obtain ⟨w1,hw1⟩:∃ w1,w1=(w.alloc (.cells (Q03 t).toArray 70)).alloc (.cells zh.toArray 30):=⟨_,rfl⟩
 have hz:Blk 70 w1 w.heap.size (Q03 t):=by rw [hw1];exact (Blk.new w _ _).alloc _
 have hh:Blk 30 w1 (w.heap.size+1) zh:=by
  have:=Blk.new (w.alloc (.cells (Q03 t).toArray 70)) 30 zh
  simp only [World.size_alloc] at this
  rw [hw1];exact this
 have hbel:Below w.heap.size w w1:=by rw [hw1];exact (Qba _ _).alloc (by simp) _
 have c1:Calls Tryz.prog 80 #[.agg (Q03 t).toArray] w1 (WhP (rgt 0 t) (whN t) w1):=Qen t w1 (hI.kept hbel) hb
 obtain ⟨c,l,hcl⟩:=whN_ne t
 have hrt:rtC t=if rgt 0 t=true then (sumB c).map u8v else zh:=by unfold rtC;rw [hcl];rfl
 obtain ⟨R,hR⟩:∃ R,R=rgt 0 t:=⟨_,rfl⟩
 obtain ⟨K,hK⟩:∃ K,K=Q03 t:=⟨_,rfl⟩
 have hKl:K.length=4:=by rw [hK];exact Q06 t
 rw [hrt]
 rw [hcl] at c1
 simp only [←hR,←hK] at c1 hz hw1 ⊢
 have C1:=Qhd c1
 have Hw1:=Qhd hw1
 have HKl:=Qhd hKl
 have r1:=hz.all0
 cases R with
 | false =>
  rw [if_neg (by simp)]
  clear c1 hR hK hKl hw1 hI hb hrt hcl
  go_enter Tryz.func39,Tryz.ntmps39
  go_wp2_with (first
   |((with_reducible refine Qgl 7 ?_);refine Qlw 70 1 w.heap.size 0 Q05 HKl.out (by have h:=r1;rw [Hw1.out] at h;exact h) ?_)
   |(go_at_call 80;have C2:=C1.out;rw [Hw1.out] at C2;refine C2.mono ?_;rintro e w2 ⟨v2,ps2,rfl,r2,_,m2,b2,_⟩;rw [←Hw1.out] at b2;obtain ⟨x2,y2,rfl,_⟩:=r2.form;have hh2:=hh.kept b2;have bb2:=Below.then hbel b2)
   |((with_reducible refine Qgs 13 ?_);refine Qsa 30 2 13 (w.heap.size+1) zh Q0l hh2 (by rfl) (by rfl) (by intro u hu;rw [List.eq_of_mem_replicate hu];rfl) bb2 (by omega) ?_;intro w3 hh3 bb3 _))
  exact bodyPost_ret (Q04 rfl _ _ (w.heap.size+1) Q0l hh3 rfl rfl rfl) rfl ⟨rfl,bb3⟩
 | true =>
  rw [if_pos rfl]
  obtain ⟨S,hS⟩:∃ S,S=(sumB c).map u8v:=⟨_,rfl⟩
  have cs:∀ (a:Option Addr) (n k:Nat) (hn:c.length=n) (x:World),Bytes x (.slice a n k) c→n≤1000000000→Calls Tryz.prog 41 #[.slice a n k] x fun e w'=>e=.returned (.agg S.toArray)∧Below x.heap.size x w':=fun a n k hn x hx hn2=>by rw [hS];exact Q59 a n k c hn x hx (by omega)
  have HSl:Hid (S.length=32):=Qhd (by rw [hS,List.length_map];exact Q0i _)
  have HSo:Hid (∀ u∈S,u.oneCell'=true):=Qhd (by rw [hS];intro u hu;obtain ⟨y,_,rfl⟩:=List.mem_map.1 hu;rfl)
  rw [←hS]
  have Cs:=Qhd cs
  clear c1 hR hK hKl hw1 hI hb hrt hcl cs hS
  go_enter Tryz.func39,Tryz.ntmps39
  go_wp2_with (first
   |((with_reducible refine Qgl 7 ?_);refine Qlw 70 1 w.heap.size 0 Q05 HKl.out (by have h:=r1;rw [Hw1.out] at h;exact h) ?_)
   |(go_at_call 80;have C2:=C1.out;rw [Hw1.out] at C2;refine C2.mono ?_;rintro e w2 ⟨v2,ps2,rfl,r2,t2,m2,b2,_⟩;rw [←Hw1.out] at b2;obtain ⟨qv,ps3,rfl,_⟩:=Q41 (m2.trans (if_pos rfl));obtain ⟨t3,l3,_⟩:=t2 _ List.mem_cons_self;dsimp only at t3 l3;obtain ⟨n2,hn2⟩:∃ n,n=ps3.length+1:=⟨_,rfl⟩;have h0n:(0:Int)<(n2:Int):=(by omega);obtain ⟨va,vc,rfl,_⟩:=r2.form' n2 (by rw [hn2];rfl);obtain ⟨b,off,rfl,rr⟩:=RowOf.range (f:=tcell) (size:=1) (fun _=>rfl) r2 0 (Nat.zero_lt_succ _);have k2:w2.cell? ⟨b,off,none⟩=some qv:=rr 0 qv rfl;obtain ⟨qa,qc,rfl,_⟩:=t3.form;obtain ⟨qn,hqn⟩:∃ n,n=c.length:=⟨_,rfl⟩;rw [←hqn] at t3 l3 k2;have Hqn:=Qhd hqn;clear hqn hn2 m2 t2;have hh2:=hh.kept b2;have bb2:=Below.then hbel b2)
   |(go_at_call 41;refine (Cs.out qa qn qc Hqn.out.symm _ t3 l3).mono ?_;rintro e w3 ⟨rfl,b3⟩;have hh3:=hh2.kept b3;have bb3:=Below.then bb2 b3)
   |((with_reducible refine Qgs 18 ?_);refine Qsa 30 2 18 (w.heap.size+1) S Q0l hh3 HSl.out (by rfl) HSo.out bb3 (by omega) ?_;intro w4 hh4 bb4 _))
  exact bodyPost_ret (Q04 rfl _ _ (w.heap.size+1) Q0l hh4 HSl.out rfl rfl) rfl ⟨rfl,bb4⟩
end Go.Proofs.YtbdmkfjgnjfjbaaGreat
