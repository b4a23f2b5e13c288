/- root.Codes, the reference's HCodes. | root.Root, the reference's HRoot. | Trees built of keys and values: how great they are; the root of what grows. Plain Lean -/
import Derived.Test.YtbdmkfjgnjfjbaaGreatBlockListsK19
import Derived.Test.YtbdmkfjgnjfjbaaGreatBlockListsK09
import Derived.Test.YtbdmkfjgnjfjbaaGreatBlockListsK12
import Derived.Test.YtbdmkfjgnjfjbaaGreatBlockListsK01
import Derived.Test.YtbdmkfjgnjfjbaaGreatBlockListsK03
import Derived.MapViews
import Derived.DeepKeys2
set_option linter.unusedSimpArgs false
set_option linter.unusedVariables false
set_option maxHeartbeats 4000000
set_option maxRecDepth 100000
open List (length_append length_map map_cons mem_map mem_singleton)
open Nat (le_refl le_trans)
namespace Go.Proofs.YtbdmkfjgnjfjbaaGreat
open Go.RowKit
structure BgN (t:Nd):Prop where
 f:FnN t
 b:Q15 t<=10000000000
 r:∀ l,rts t=some l->l.length<=1048576
def whN (t:Nd):List (List UInt8):=if t.kd=0 then [Q1q []] else alN t
theorem Qkg (t:Nd):∃ c l,whN t=c::l:=by
 unfold whN;split
 ·exact ⟨_,_,rfl⟩
 obtain ⟨l,h⟩:=Q7q t;exact ⟨_,_,h⟩
theorem Qrk (t:Nd):(whN t).length<=Q15 t:=by
 unfold whN;split
 ·exact Q49 t
 exact Qob t
def WhP (R:Bool)(A:List (List UInt8))(w:World)(e:Ending)(w':World):Prop:=∃ v ps,e=.returned (.tuple #[v,.int .i64 (if R=true then 0 else 1)])/\Q05 Q0p 1 w' v ps/\(∀ q∈ps,Q02 w' q.1 q.2/\q.2.length<=1000000000/\∀ k,q.1.ownBlock=some k->w.heap.size<=k/\k<w'.heap.size)/\ps.map (·.2)=(if R=true then A else [])/\Below w.heap.size w w'/\∀ k,v.ownBlock=some k->w.heap.size<=k/\k<w'.heap.size
abbrev Qrg (t:Nd)(w:World)(e:Ending)(w':World):Prop:=WhP (rgt 0 t) (whN t) w e w'
theorem Qkt (O U L:Option Addr)(T S W V N M:Nat)(w:World):Calls Tryz.prog 109 #[.agg #[.int .i64 0,.slice O T S,.slice U W V,.slice L N M]] w (Q71 [Q1q []] w):=by
 obtain ⟨Z,H⟩:=Qe ((w.alloc (.cells #[.int .i64 0,.slice O T S,.slice U W V,.slice L N M] 70)).alloc (.cells #[.int .i64 0,.slice none 0 0,.slice none 0 0,.slice none 0 0] 134));have z1:Blk 70 Z w.heap.size [.int .i64 0,.slice O T S,.slice U W V,.slice L N M]:=by rw [H];exact (D01 w _ _).alloc _
 have z2:Blk 134 Z (w.heap.size+1) [.int .i64 0,.slice none 0 0,.slice none 0 0,.slice none 0 0]:=by
  have:=D01 (w.alloc (.cells #[.int .i64 0,.slice O T S,.slice U W V,.slice L N M] 70)) 134 [.int .i64 0,.slice none 0 0,.slice none 0 0,.slice none 0 0];simp only [World.size_alloc] at this;rw [H];exact this
 have a8:Below w.heap.size w Z:=by rw [H];exact (Qba _ _).alloc (by simp) _
 obtain ⟨y,a1⟩:=Qe (Q1q []);have ci:∀ x,Calls Tryz.prog 136 #[.agg #[.int .i64 0,.slice none 0 0,.slice none 0 0,.slice none 0 0]] x fun e w'=>∃ J,e=.returned (.tuple #[J,.int .i64 0])/\Q02 w' J y/\(∀ k,J.ownBlock=some k->x.heap.size<=k/\k<w'.heap.size)/\Below x.heap.size x w'/\y.length<=1000000000:=fun x=>by
  have:=Q9i 0 none none none 0 0 0 0 0 0 [] [] [] rfl rfl rfl x (Q05.nil b8 1 x) (Q05.nil b8 1 x) ⟨Q05.nil Q0p 1 x,fun q D=>absurd D (by simp)⟩ (by omega) (by omega) (by omega) (fun q D=>absurd D (by simp));rw [a1];exact this
 rw [<-a1];have Ci:=Qhd ci;have c0:=z1.cell 0;have a':=Qhd H;clear H ci a1;go_enter Tryz.func109,Tryz.ntmps109
 go_wp2_with (first
  |(rw [<-a'.out];have c0:Z.cell? ⟨w.heap.size,0,none⟩=some (.int .i64 0):=c0)
  |((with_reducible refine Qgl 64 ?_);refine Qla 134 3 (w.heap.size+1) Q0a z2 (by rfl) ?_)
  |(go_at_call 136;refine (Ci.out _).mono ?_;rintro e w4 ⟨J,rfl,K,fc,b4,lc⟩;obtain ⟨E,G,rfl,_⟩:=K.form;have a2:=D00 a8 b4)
  |((with_reducible refine Qgl 69 ?_);refine Q0o (o:=⟨some 69,_,_,_,_,_⟩) (by rfl) 44 1 [(0,.tmp 68)] (by rfl) Q1i [(.slice E y.length G,y)] [.slice E y.length G] (by rfl) (by rfl) (by rfl) (by omega) (by omega) ?_;intro w5 y5 _ I;have a3:=D00 a2 I;have o5:=Blk.own (f:=Q0p) (size:=1) (l:=[(Value.slice E y.length G,y)]) (B:=w.heap.size) y5 1 (fun _=>rfl) rfl a2.size (by unfold maxLen;omega);have K:=K.kept I)
  |((with_reducible refine Qgl 71 ?_);refine Q0t (o:=⟨some 71,_,_,_,_,_⟩) (by rfl) (.tmp 69) (.tmp 70) 44 (by rfl) Q1i (m:=[]) (by simp) (by rfl) o5 (by rfl) (Q05.nil Q0p 1 _) (by have:=a3.size;omega) (by simp) (by simp;unfold maxLen;omega) ?_;intro v6 w6 o6 g6 p6))
 go_ret;have a4:∀ k,(Value.slice E y.length G).ownBlock=some k->k<w4.heap.size:=fun k z=>(fc k z).2;refine ⟨v6,[(.slice E y.length G,y)],rfl,by simpa using o6,fun q D=>?_,rfl,?_⟩
 ·rw [mem_singleton] at D;subst D;refine ⟨Q05.offT K g6 (fun x hx=>Nat.ne_of_lt (a4 x hx)),lc,fun k z=>⟨le_trans a8.size (fc k z).1,Nat.lt_of_lt_of_le (a4 k z) (le_trans I.size g6.size),fun e=>?_⟩⟩;have h1:=a4 k z;rcases p6 k e with h|h
  ·simp only [Value.ownBlock,Option.some.injEq] at h;omega
  have:=I.size;omega
 exact a3.grown g6 a3.size (fun k z=>by simp only [Value.ownBlock,Option.some.injEq] at z;have:=a2.size;omega)
theorem Qox (t:Nd)(E:rgt 0 t=true)(y:BgN t)(w:World)(h:IsNd w t):Calls Tryz.prog 109 #[.agg (Q04 t).toArray] w (Q71 (whN t) w):=by
 unfold whN;by_cases h0:t.kd=0
 ·rw [if_pos h0];obtain ⟨kd,O,p,S,v,N,ks⟩:=t;obtain rfl:kd=0:=h0;obtain ⟨D,G,z,_⟩:=h.inv;obtain ⟨J,K,rfl,_,_⟩:=D.form;obtain ⟨L,M,rfl,_,_⟩:=G.form;obtain ⟨H,I,rfl,_,_⟩:=z.form;exact Qkt J L H _ K _ M _ I w
 rw [if_neg h0];exact Qku (SizeOf.sizeOf t) t (le_refl _) (Qlo 0 t E h0) y.f y.b w h
theorem Qjw (t:Nd)(w:World)(J:IsNd w t)(E:BgN t):Calls Tryz.prog 80 #[.agg (Q04 t).toArray] w (Qrg t w):=by
 obtain ⟨W,D⟩:=Qe (w.alloc (.cells (Q04 t).toArray 70));have U:Blk 70 W w.heap.size (Q04 t):=by rw [D];exact D01 w _ _
 have T:Below w.heap.size w W:=by rw [D];exact Qba _ _
 have c1:=Qb6 t W (J.kept T) (by have:=E.b;omega) E.r;rw [Qb5 t] at c1;have I:=fun (hr:rgt 0 t=true) u (hu:Below w.heap.size w u)=>Qox t hr E u (J.kept hu);show Calls _ _ _ _ (WhP (rgt 0 t) (whN t) w);obtain ⟨R,S⟩:=Qe (rgt 0 t);obtain ⟨K,L⟩:=Qe (Q04 t);have O:K.length=4:=by rw [L];exact Q0b t
 simp only [<-S,<-L] at c1 I U D |-;have Z:=Qhd c1;have G:=Qhd D;have N:=Qhd O;have r1:=U.all0;cases R with
 | false =>
  clear c1 I S L O D J E;go_enter Tryz.func80,Tryz.ntmps80
  go_wp2_with (first
   |((with_reducible refine Qgl 4 ?_);refine Qlw 70 1 w.heap.size 0 Q07 N.out (by rw [<-G.out];exact r1) ?_)
   |(go_at_call 93;rw [<-G.out];(with_reducible refine Z.out.mono ?_);rintro e w2 ⟨rfl,H⟩;have y:=D00 T H))
  go_ret2;exact ⟨_,[],rfl,Q05.nil Q0p 1 _,fun q z=>absurd z (by simp),rfl,y,fun k h=>by simp [Value.ownBlock] at h⟩
 | true =>
  have C2:=Qhd (I rfl);clear c1 I S L O D J E;go_enter Tryz.func80,Tryz.ntmps80
  go_wp2_with (first
   |((with_reducible refine Qgl 4 ?_);refine Qlw 70 1 w.heap.size 0 Q07 N.out (by rw [<-G.out];exact r1) ?_)
   |(go_at_call 93;rw [<-G.out];(with_reducible refine Z.out.mono ?_);rintro e w2 ⟨rfl,H⟩;have y:=D00 T H;have r2:=(U.kept H).all0)
   |((with_reducible refine Qgl 7 ?_);refine Qlw 70 1 w.heap.size 0 Q07 N.out r2 ?_)
   |(go_at_call 109;(with_reducible refine (C2.out _ y).mono ?_);rintro e w3 ⟨v3,a5,rfl,V,M,m3,b3⟩;have a3:=D00 y b3))
  go_ret2;exact ⟨v3,a5,rfl,V.row,fun q z=>⟨(M q z).1,(M q z).2.1,fun k h=>⟨le_trans y.size ((M q z).2.2 k h).1,((M q z).2.2 k h).2.1⟩⟩,m3,a3,fun k h=>⟨le_trans y.size (Q08.lt V k h),Q08.ltT V k h⟩⟩
theorem Qas (t:Nd)(w:World)(O:IsNd w t)(H:BgN t):Calls Tryz.prog 75 #[.agg (Q04 t).toArray] w (Qrg t w):=by
 have c1:=fun u (U:Below w.heap.size w u)=>Qaa t u (O.kept U) (by have:=H.b;omega);show Calls _ _ _ _ (WhP (rgt 0 t) (whN t) w);obtain ⟨R,hR⟩:=Qe (rgt 0 t);simp only [<-hR] at c1 |-;have I:∀ k,t.kd=k->k≠0->whN t=alN t:=fun k G h2=>by unfold whN;rw [if_neg (by rw [G];exact h2)]
 have M:t.kd=0->whN t=[Q1q []]:=fun G=>by unfold whN;rw [if_pos G]
 have E:=Q9w (SizeOf.sizeOf t) t (le_refl _) H.f;replace H:=H.b;obtain ⟨A,hA⟩:=Qe (alN t);obtain ⟨C,hC⟩:=Qe (cdN t);obtain ⟨Wh,ah⟩:=Qe (whN t);rw [<-ah] at I M |-;rw [<-hA] at I;unfold CdC at E;rw [<-hA,<-hC] at E;obtain ⟨t',S⟩:=Qe t;rw [<-S] at E H O;obtain ⟨kd,pv,p,vv,v,kv,ks⟩:=t;obtain ⟨hp,hv,y,_⟩:=(S▸O:IsNd w (.mk kd pv p vv v kv ks)).inv;obtain ⟨pa,pc,rfl,_,_⟩:=hp.form;obtain ⟨va,vc,rfl,_,_⟩:=hv.form;obtain ⟨ka,kc,rfl,_,_⟩:=y.form;obtain ⟨pn,ak⟩:=Qe (p.length);obtain ⟨vn,am⟩:=Qe (v.length);obtain ⟨kn,ai⟩:=Qe (ks.length);rw [<-ak,<-am,<-ai] at c1 S I M |-;obtain ⟨w1,V⟩:=Qe (w.alloc (.cells #[.int .i64 kd,.slice pa pn pc,.slice va vn vc,.slice ka kn kc] 70));have W:Blk 70 w1 w.heap.size [.int .i64 kd,.slice pa pn pc,.slice va vn vc,.slice ka kn kc]:=by rw [V];exact D01 w _ _
 have T:Below w.heap.size w w1:=by rw [V];exact Qba _ _
 have C1:Hid (∀ u,Below w.heap.size w u->Calls Tryz.prog 103 #[.agg #[.int .i64 kd,.slice pa pn pc,.slice va vn vc,.slice ka kn kc]] u fun e w'=>e=.returned (.bool R)/\Below u.heap.size u w'):=Qhd fun u U=>c1 u U;have aq:=Qhd V;have I:kd≠0->Wh=A:=fun h=>I kd rfl h;have M:kd=0->Wh=[Q1q []]:=fun h=>M h;change Calls Tryz.prog 75 #[.agg #[.int .i64 kd,.slice pa pn pc,.slice va vn vc,.slice ka kn kc]] w (WhP R Wh w);cases R with
 | false =>
  clear c1 E hR V O H hA hC ah I M S hp hv y ak am ai;go_enter Tryz.func75,Tryz.ntmps75
  go_wp2_with (first
   |((with_reducible refine Qgl 5 ?_);rw [<-aq.out];refine Qla 70 1 w.heap.size Q07 W (by rfl) ?_)
   |(go_at_call 103;(with_reducible refine (C1.out _ T).mono ?_);rintro e Z ⟨rfl,N⟩;have L:=D00 T N))
  go_ret2;exact ⟨_,[],rfl,Q05.nil Q0p 1 _,fun q z=>absurd z (by simp),rfl,L,fun k y=>by simp [Value.ownBlock] at y⟩
 | true =>
  by_cases h0:kd=0
  ·have HW:=Qhd (M h0);have aw:cdN (.mk 0 (.slice none 0 0) [] (.slice none 0 0) [] (.slice none 0 0) [])=Q1q []:=by rw [cdN];simp [shOk,shB]
   have aE:alN (.mk 0 (.slice none 0 0) [] (.slice none 0 0) [] (.slice none 0 0) [])=[Q1q []]:=by rw [alN,aw];simp [alL]
   have cz:=Q9w (SizeOf.sizeOf (Nd.mk 0 (.slice none 0 0) [] (.slice none 0 0) [] (.slice none 0 0) [])) _ (le_refl _) (.mk _ _ _ _ _ _ _ (by simp) (by simp) (by simp) (fun k y=>absurd y (by simp)));unfold CdC at cz;rw [aw,aE] at cz;have ci:∀ u g,Below w.heap.size w u->w.heap.size<=g->Blk 44 u g [.slice none 0 0]->Calls Tryz.prog 104 #[.agg #[.int .i64 0,.slice none 0 0,.slice none 0 0,.slice none 0 0],.pointer (some ⟨g,0,none⟩)] u (Qf2 (Q1q []) [Q1q []] g w.heap.size (.slice none 0 0) [] u):=fun u g G h2 h3=>cz w u g w.heap.size _ [] (.mk _ _ _ _ _ _ _ (Q05.nil b8 1 _) (Q05.nil b8 1 _) (Q05.nil Q04 4 _) (fun k y=>absurd y (by simp))) G h2 (le_refl _) G.size h3 (Q08.nil Q0p 1 _ _ _) (by simp [Q15,Q0v]) (by simp [Q15,Q0v]);have Ci:=Qhd ci;have c0:w1.cell? ⟨w.heap.size,0,none⟩=some (.int .i64 0):=by rw [<-h0];exact W.cell 0
   subst h0;clear c1 E hR V O H hA hC ah I M S hp hv y ak am ai cz aw aE ci;go_enter Tryz.func75,Tryz.ntmps75
   go_wp2_with (first
    |((with_reducible refine Qgl 5 ?_);rw [<-aq.out];refine Qla 70 1 w.heap.size Q07 W (by rfl) ?_)
    |(go_at_call 103;(with_reducible refine (C1.out _ T).mono ?_);rintro e Z ⟨rfl,N⟩;have L:=D00 T N;have z2:=W.kept N;have E:Z.cell? ⟨w.heap.size,0,none⟩=some (.int .i64 0):=z2.cell 0)
    |((with_reducible refine Qgs 11 ?_);refine Qsa 70 1 11 w.heap.size [.int .i64 0,.slice none 0 0,.slice none 0 0,.slice none 0 0] Q07 z2 (by rfl) (by rfl) (by intro u U;simp at U;rcases U with rfl|rfl|rfl|rfl<;>rfl) L (le_refl _) ?_;intro w3 y3 ad _;have y3:=y3.alloc (.cells #[.slice none 0 0] 44);have n4:=D01 w3 44 [.slice none 0 0];have D:=ad.alloc ad.size (.cells #[.slice none 0 0] 44))
    |((with_reducible refine Qgl 12 ?_);refine Qla 70 1 w.heap.size Q07 y3 (by rfl) ?_)
    |(go_at_call 104;(with_reducible refine (Ci.out _ _ D ad.size n4).mono ?_);rintro e w5 ⟨cv,rv,az,rfl,_,_,_,aD,J,m5,K,p5,au⟩;have cg:w5.cell? ⟨w3.heap.size,0,none⟩=some rv:=aD.cell 0;obtain ⟨ra,rc,rfl,_⟩:=J.form))
   go_ret2;exact ⟨_,az,rfl,J.row,fun q z=>⟨(K q z).1,(K q z).2.1,fun k y=>⟨le_trans D.size ((K q z).2.2 k y).1,((K q z).2.2 k y).2.1⟩⟩,by rw [m5,HW.out];rfl,D.trans (au.below D.size ad.size (fun k y=>by simp [Value.ownBlock] at y)),fun k y=>⟨Q08.lt J k y,Q08.ltT J k y⟩⟩
  have HW:=Qhd (I h0);have aP:(kd==0)=false:=by rw [beq_eq_false_iff_ne];exact h0
  have ci:∀ u g,Below w.heap.size w u->w.heap.size<=g->Blk 44 u g [.slice none 0 0]->Calls Tryz.prog 104 #[.agg #[.int .i64 kd,.slice pa pn pc,.slice va vn vc,.slice ka kn kc],.pointer (some ⟨g,0,none⟩)] u (Qf2 C A g w.heap.size (.slice none 0 0) [] u):=fun u g G h2 h3=>by
   have:=E w u g w.heap.size _ [] O G h2 (le_refl _) G.size h3 (Q08.nil Q0p 1 _ _ _) (by simp;omega) H;rw [S] at this;exact this
  have Ci:=Qhd ci;clear c1 E hR V O H hA hC ah I M S hp hv y ak am ai ci h0;go_enter Tryz.func75,Tryz.ntmps75
  go_wp2_with (first
   |((with_reducible refine Qgl 5 ?_);rw [<-aq.out];refine Qla 70 1 w.heap.size Q07 W (by rfl) ?_)
   |(go_at_call 103;(with_reducible refine (C1.out _ T).mono ?_);rintro e Z ⟨rfl,N⟩;have L:=D00 T N;have z2:=W.kept N;have E:Z.cell? ⟨w.heap.size,0,none⟩=some (.int .i64 kd):=z2.cell 0;have y3:=z2.alloc (.cells #[.slice none 0 0] 44);have n4:=D01 Z 44 [.slice none 0 0];have D:=L.alloc L.size (.cells #[.slice none 0 0] 44))
   |((with_reducible refine Qgl 12 ?_);refine Qla 70 1 w.heap.size Q07 y3 (by rfl) ?_)
   |(go_at_call 104;(with_reducible refine (Ci.out _ _ D L.size n4).mono ?_);rintro e w5 ⟨cv,rv,az,rfl,_,_,_,aD,J,m5,K,p5,au⟩;have cg:w5.cell? ⟨Z.heap.size,0,none⟩=some rv:=aD.cell 0;obtain ⟨ra,rc,rfl,_⟩:=J.form))
  go_ret2;exact ⟨_,az,rfl,J.row,fun q z=>⟨(K q z).1,(K q z).2.1,fun k y=>⟨le_trans D.size ((K q z).2.2 k y).1,((K q z).2.2 k y).2.1⟩⟩,by rw [m5,HW.out];rfl,D.trans (au.below D.size L.size (fun k y=>by simp [Value.ownBlock] at y)),fun k y=>⟨Q08.lt J k y,Q08.ltT J k y⟩⟩
def rtC (t:Nd):List Value:=if rgt 0 t=true then (sumB ((whN t).headD [])).map u8v else zh
theorem Qlk (t:Nd)(w:World)(U:IsNd w t)(Z:BgN t):Calls Tryz.prog 35 #[.agg (Q04 t).toArray] w fun e w'=>e=.returned (.tuple #[.agg (rtC t).toArray,.int .i64 (if rgt 0 t=true then 0 else 1)])/\Below w.heap.size w w':=by
 obtain ⟨G,D⟩:=Qe ((w.alloc (.cells (Q04 t).toArray 70)).alloc (.cells zh.toArray 30));have hz:Blk 70 G w.heap.size (Q04 t):=by rw [D];exact (D01 w _ _).alloc _
 have hh:Blk 30 G (w.heap.size+1) zh:=by
  have:=D01 (w.alloc (.cells (Q04 t).toArray 70)) 30 zh;simp only [World.size_alloc] at this;rw [D];exact this
 have a0:Below w.heap.size w G:=by rw [D];exact (Qba _ _).alloc (by simp) _
 have c1:Calls Tryz.prog 75 #[.agg (Q04 t).toArray] G (WhP (rgt 0 t) (whN t) G):=Qas t G (U.kept a0) Z;obtain ⟨c,l,L⟩:=Qkg t;have a5:rtC t=if rgt 0 t=true then (sumB c).map u8v else zh:=by unfold rtC;rw [L];rfl
 obtain ⟨R,W⟩:=Qe (rgt 0 t);obtain ⟨K,J⟩:=Qe (Q04 t);have V:K.length=4:=by rw [J];exact Q0b t
 rw [a5];rw [L] at c1;simp only [<-W,<-J] at c1 hz D |-;have C1:=Qhd c1;have E:=Qhd D;have a':=Qhd V;have r1:=hz.all0;cases R with
 | false =>
  rw [if_neg (by simp)];clear c1 W J V D U Z a5 L;go_enter Tryz.func35,Tryz.ntmps35
  go_wp2_with (first
   |((with_reducible refine Qgl 7 ?_);refine Qlw 70 1 w.heap.size 0 Q07 a'.out (by have h:=r1;rw [E.out] at h;exact h) ?_)
   |(go_at_call 75;have H:=C1.out;rw [E.out] at H;refine H.mono ?_;rintro e w2 ⟨v2,ar,rfl,M,_,m2,z,_⟩;rw [<-E.out] at z;obtain ⟨x2,y2,rfl,_⟩:=M.form;have a1:=hh.kept z;have O:=D00 a0 z)
   |((with_reducible refine Qgs 13 ?_);refine Qsa 30 2 13 (w.heap.size+1) zh Q0g a1 (by rfl) (by rfl) (by intro u hu;rw [List.eq_of_mem_replicate hu];rfl) O (by omega) ?_;intro w3 a2 T _))
  exact bodyPost_ret (Q01 rfl _ _ (w.heap.size+1) Q0g a2 rfl rfl rfl) rfl ⟨rfl,T⟩
 | true =>
  rw [if_pos rfl];obtain ⟨S,I⟩:=Qe ((sumB c).map u8v);have cs:∀ (a:Option Addr) (n k:Nat) (hn:c.length=n) (x:World),Q02 x (.slice a n k) c->n<=1000000000->Calls Tryz.prog 37 #[.slice a n k] x fun e w'=>e=.returned (.agg S.toArray)/\Below x.heap.size x w':=fun a n k hn x hx a3=>by rw [I];exact Qbl a n k c hn x hx
  have aa:Hid (S.length=32):=Qhd (by rw [I,length_map];exact Q1r _);have al:Hid (∀ u∈S,u.oneCell'=true):=Qhd (by rw [I];intro u hu;obtain ⟨y,_,rfl⟩:=mem_map.1 hu;rfl);rw [<-I];have Cs:=Qhd cs;clear c1 W J V D U Z a5 L cs I;go_enter Tryz.func35,Tryz.ntmps35
  go_wp2_with (first
   |((with_reducible refine Qgl 7 ?_);refine Qlw 70 1 w.heap.size 0 Q07 a'.out (by have h:=r1;rw [E.out] at h;exact h) ?_)
   |(go_at_call 75;have H:=C1.out;rw [E.out] at H;refine H.mono ?_;rintro e w2 ⟨v2,ar,rfl,M,t2,m2,z,_⟩;rw [<-E.out] at z;obtain ⟨qv,au,rfl,_⟩:=Q6a (m2.trans (if_pos rfl));obtain ⟨N,l3,_⟩:=t2 _ List.mem_cons_self;dsimp only at N l3;obtain ⟨n2,a3⟩:=Qe (au.length+1);have aB:(0:Int)<(n2:Int):=(by omega);obtain ⟨va,vc,rfl,_⟩:=M.form' n2 (by rw [a3];rfl);obtain ⟨b,off,rfl,rr⟩:=Q05.range (f:=Q0p) (size:=1) (fun _=>rfl) M 0 (Nat.zero_lt_succ _);have k2:w2.cell? ⟨b,off,none⟩=some qv:=rr 0 qv rfl;obtain ⟨qa,qc,rfl,_⟩:=N.form;obtain ⟨qn,a4⟩:=Qe (c.length);rw [<-a4] at N l3 k2;have am:=Qhd a4;clear a4 a3 m2 t2;have a1:=hh.kept z;have O:=D00 a0 z)
   |(go_at_call 37;refine (Cs.out qa qn qc am.out.symm _ N l3).mono ?_;rintro e w3 ⟨rfl,b3⟩;have a2:=a1.kept b3;have T:=D00 O b3)
   |((with_reducible refine Qgs 18 ?_);refine Qsa 30 2 18 (w.heap.size+1) S Q0g a2 aa.out (by rfl) al.out T (by omega) ?_;intro w4 ao an _))
  exact bodyPost_ret (Q01 rfl _ _ (w.heap.size+1) Q0g ao aa.out rfl rfl) rfl ⟨rfl,an⟩
theorem Qnf (t:Nd)(w:World)(U:IsNd w t)(Z:BgN t):Calls Tryz.prog 39 #[.agg (Q04 t).toArray] w fun e w'=>e=.returned (.tuple #[.agg (rtC t).toArray,.int .i64 (if rgt 0 t=true then 0 else 1)])/\Below w.heap.size w w':=by
 obtain ⟨G,D⟩:=Qe ((w.alloc (.cells (Q04 t).toArray 70)).alloc (.cells zh.toArray 30));have hz:Blk 70 G w.heap.size (Q04 t):=by rw [D];exact (D01 w _ _).alloc _
 have hh:Blk 30 G (w.heap.size+1) zh:=by
  have:=D01 (w.alloc (.cells (Q04 t).toArray 70)) 30 zh;simp only [World.size_alloc] at this;rw [D];exact this
 have a0:Below w.heap.size w G:=by rw [D];exact (Qba _ _).alloc (by simp) _
 have c1:Calls Tryz.prog 80 #[.agg (Q04 t).toArray] G (WhP (rgt 0 t) (whN t) G):=Qjw t G (U.kept a0) Z;obtain ⟨c,l,L⟩:=Qkg t;have a5:rtC t=if rgt 0 t=true then (sumB c).map u8v else zh:=by unfold rtC;rw [L];rfl
 obtain ⟨R,W⟩:=Qe (rgt 0 t);obtain ⟨K,J⟩:=Qe (Q04 t);have V:K.length=4:=by rw [J];exact Q0b t
 rw [a5];rw [L] at c1;simp only [<-W,<-J] at c1 hz D |-;have C1:=Qhd c1;have E:=Qhd D;have a':=Qhd V;have r1:=hz.all0;cases R with
 | false =>
  rw [if_neg (by simp)];clear c1 W J V D U Z a5 L;go_enter Tryz.func39,Tryz.ntmps39
  go_wp2_with (first
   |((with_reducible refine Qgl 7 ?_);refine Qlw 70 1 w.heap.size 0 Q07 a'.out (by have h:=r1;rw [E.out] at h;exact h) ?_)
   |(go_at_call 80;have H:=C1.out;rw [E.out] at H;refine H.mono ?_;rintro e w2 ⟨v2,ar,rfl,M,_,m2,z,_⟩;rw [<-E.out] at z;obtain ⟨x2,y2,rfl,_⟩:=M.form;have a1:=hh.kept z;have O:=D00 a0 z)
   |((with_reducible refine Qgs 13 ?_);refine Qsa 30 2 13 (w.heap.size+1) zh Q0g a1 (by rfl) (by rfl) (by intro u hu;rw [List.eq_of_mem_replicate hu];rfl) O (by omega) ?_;intro w3 a2 T _))
  exact bodyPost_ret (Q01 rfl _ _ (w.heap.size+1) Q0g a2 rfl rfl rfl) rfl ⟨rfl,T⟩
 | true =>
  rw [if_pos rfl];obtain ⟨S,I⟩:=Qe ((sumB c).map u8v);have cs:∀ (a:Option Addr) (n k:Nat) (hn:c.length=n) (x:World),Q02 x (.slice a n k) c->n<=1000000000->Calls Tryz.prog 41 #[.slice a n k] x fun e w'=>e=.returned (.agg S.toArray)/\Below x.heap.size x w':=fun a n k hn x hx a3=>by rw [I];exact Q81 a n k c hn x hx (by omega)
  have aa:Hid (S.length=32):=Qhd (by rw [I,length_map];exact Q1r _);have al:Hid (∀ u∈S,u.oneCell'=true):=Qhd (by rw [I];intro u hu;obtain ⟨y,_,rfl⟩:=mem_map.1 hu;rfl);rw [<-I];have Cs:=Qhd cs;clear c1 W J V D U Z a5 L cs I;go_enter Tryz.func39,Tryz.ntmps39
  go_wp2_with (first
   |((with_reducible refine Qgl 7 ?_);refine Qlw 70 1 w.heap.size 0 Q07 a'.out (by have h:=r1;rw [E.out] at h;exact h) ?_)
   |(go_at_call 80;have H:=C1.out;rw [E.out] at H;refine H.mono ?_;rintro e w2 ⟨v2,ar,rfl,M,t2,m2,z,_⟩;rw [<-E.out] at z;obtain ⟨qv,au,rfl,_⟩:=Q6a (m2.trans (if_pos rfl));obtain ⟨N,l3,_⟩:=t2 _ List.mem_cons_self;dsimp only at N l3;obtain ⟨n2,a3⟩:=Qe (au.length+1);have aB:(0:Int)<(n2:Int):=(by omega);obtain ⟨va,vc,rfl,_⟩:=M.form' n2 (by rw [a3];rfl);obtain ⟨b,off,rfl,rr⟩:=Q05.range (f:=Q0p) (size:=1) (fun _=>rfl) M 0 (Nat.zero_lt_succ _);have k2:w2.cell? ⟨b,off,none⟩=some qv:=rr 0 qv rfl;obtain ⟨qa,qc,rfl,_⟩:=N.form;obtain ⟨qn,a4⟩:=Qe (c.length);rw [<-a4] at N l3 k2;have am:=Qhd a4;clear a4 a3 m2 t2;have a1:=hh.kept z;have O:=D00 a0 z)
   |(go_at_call 41;refine (Cs.out qa qn qc am.out.symm _ N l3).mono ?_;rintro e w3 ⟨rfl,b3⟩;have a2:=a1.kept b3;have T:=D00 O b3)
   |((with_reducible refine Qgs 18 ?_);refine Qsa 30 2 18 (w.heap.size+1) S Q0g a2 aa.out (by rfl) al.out T (by omega) ?_;intro w4 ao an _))
  exact bodyPost_ret (Q01 rfl _ _ (w.heap.size+1) Q0g ao aa.out rfl rfl) rfl ⟨rfl,an⟩
mutual
def cnP:Pn->Nat
 | .mk kd _ v ks=>if kd=0 then 0 else if kd=1 then 1 else if kd=2 then cnPL ks else (if v=[] then 0 else 1)+cnPL ks
def cnPL:List Pn->Nat
 | []=>0
 | k::ks=>cnP k+cnPL ks
end
mutual
theorem Qqw:∀ {t:Nd}{l:List Rt},rts t=some l->l.length<=cnP (erN t)
 | .mk kd pv p vv v kv ks,l,h=>by
  unfold rts at h;simp only [erN,cnP];split at h
  ·simp at h
  by_cases h0:kd=0
  ·rw [if_pos h0] at h;simp only [Option.some.injEq] at h;subst h;simp
  rw [if_neg h0] at h |-;by_cases h1:kd=1
  ·rw [if_pos h1] at h |-;simp only [Option.some.injEq] at h;subst h;simp
  rw [if_neg h1] at h |-;split at h
  ·rename_i y;rw [if_pos y.1];cases hls:rtsL ks with
   | none=>rw [hls] at h;simp at h
   | some ls =>
    rw [hls] at h;simp only [Option.map_some,Option.some.injEq] at h;subst h;have:=Qfc hls;rw [Q2b,List.length_flatten];exact this
  split at h
  ·rename_i z;rw [if_neg (by omega)];cases hls:rtsL ks with
   | none=>rw [hls] at h;simp at h
   | some ls =>
    rw [hls] at h;simp only [Option.map_some,Option.some.injEq] at h;subst h;have:=Qfc hls;rw [length_append,Qd3];have:(if v=[] then ([]:List Rt) else [([],v)]).length<=if v=[] then 0 else 1:=by split<;>simp
    omega
  cases h
theorem Qfc:∀ {ks:List Nd}{ls:List (List Rt)},rtsL ks=some ls->(ls.map List.length).sum<=cnPL (erNL ks)
 | [],ls,h=>by
  unfold rtsL at h;simp only [Option.some.injEq] at h;subst h;simp
 | k::ks,ls,h=>by
  unfold rtsL at h;simp only [erNL,cnPL];cases h1:rts k with
  | none=>rw [h1] at h;cases h
  | some l =>
   rw [h1] at h;dsimp only at h;cases h2:rtsL ks with
   | none=>rw [h2] at h;cases h
   | some ls' =>
    rw [h2] at h;simp only [Option.some.injEq] at h;subst h;have y:=Qqw h1;have z:=Qfc h2;simp only [map_cons,List.sum_cons];omega
end
theorem Qig:∀ (ls:List (List Rt))(ks:List Pn)(i:Nat),ls.length=ks.length->(∀ (i:Nat) (l:List Rt) (k:Pn),ls[i]?=some l->ks[i]?=some k->cnP k<=l.length)->cnPL ks<=(cat i ls).length
 | [],[],i,_,_=>by simp [cnPL]
 | [],k::ks,i,h,_=>by simp at h
 | l::ls,[],i,h,_=>by simp at h
 | l::ls,k::ks,i,h,hh=>by
  have G:=hh 0 l k rfl rfl;have H:=Qig ls ks (i+1) (by simpa using h) (fun j E D y z=>hh (j+1) E D (by simpa using y) (by simpa using z));simp only [cat,cnPL,length_append,Q2b];omega
theorem Qq8 {l:List Rt}{T:Pn}(h:Q1c l T):cnP T<=l.length:=by
 induction h with
 | none=>simp [nP,cnP]
 | leaf p v hv hp=>simp [cnP]
 | road p l k hp hn h hk ih =>
  have y:cnP (.mk 2 p [] [k])=cnP k:=by simp [cnP,cnPL]
  rw [y,Q2b];exact ih
 | fork v ls ks hl hk h hm ih =>
  have y:=Qig ls ks 0 (by omega) ih;have z:cnP (.mk 3 [] v ks)=(if v=[] then 0 else 1)+cnPL ks:=by simp [cnP]
  rw [z];unfold bdP;rw [length_append];have:(if v=[] then 0 else 1)<=(if v=[] then ([]:List Rt) else [([],v)]).length:=by split<;>simp
  omega
inductive FnP:Pn->Prop where
 | mk (kd:Int) (p v:List UInt8) (ks:List Pn) (hp:p.length<=1048576) (hv:v.length<=1048576) (hk:ks.length<=1048576) (h:∀ k∈ks,FnP k):FnP (.mk kd p v ks)
theorem Qu4:∀ (n:Nat)(t:Nd),SizeOf.sizeOf t<=n->FnP (erN t)->FnN t
 | 0,.mk kd pv p vv v kv ks,h,_=>by simp at h
 | n+1,.mk kd pv p vv v kv ks,h,hf=>by
  simp only [erN,Q2u] at hf;cases hf with
  | mk _ _ _ _ hp hv y hh =>
   rw [length_map] at y;exact .mk _ _ _ _ _ _ _ hp hv y (fun k y=>Qu4 n k (by
    have:=List.sizeOf_lt_of_mem y;simp only [Nd.mk.sizeOf_spec] at h;omega) (hh _ (mem_map.2 ⟨k,y,rfl⟩)))
theorem Qq7 {l:List Rt}{T:Pn}(h:Q1c l T):(∀ r∈l,r.1.length<=64/\r.2.length<=1024)->FnP T:=by
 induction h with
 | none=>intro _;exact .mk _ _ _ _ (by simp) (by simp) (by simp) (by simp)
 | leaf p v hv hp =>
  intro z;have:=z (p,v) (mem_singleton.2 rfl);exact .mk _ _ _ _ (by have:=this.1;dsimp only at this;omega) (by have:=this.2;dsimp only at this;omega) (by simp) (by simp)
 | road p l k hp hn h hk ih =>
  intro z;have E:∀ r∈l,p.length+r.1.length<=64/\r.2.length<=1024:=fun r y=>by
   have:=z (p++r.1,r.2) (mem_map.2 ⟨r,y,rfl⟩);rw [length_append] at this;exact this
  obtain ⟨r,y⟩:=List.exists_mem_of_ne_nil _ (h.ne (by omega));have J:=(E r y).1;refine .mk _ _ _ _ (by omega) (by simp) (by simp) (fun I D=>?_);rw [mem_singleton] at D;subst D;exact ih (fun r y=>by have:=E r y;omega)
 | fork v ls ks hl hk h hm ih =>
  intro z;refine .mk _ _ _ _ (by simp) ?_ (by omega) (fun I D=>?_)
  ·by_cases h0:v=[]
   ·subst h0;simp
   have:=(z ([],v) (List.mem_append_left _ (by rw [if_neg h0];exact mem_singleton.2 rfl))).2;dsimp only at this;omega
  obtain ⟨i,H,rfl⟩:=List.mem_iff_getElem.1 D;have G:i<ls.length:=by omega
  refine ih i ls[i] ks[i] (List.getElem?_eq_getElem G) (List.getElem?_eq_getElem H) (fun r y=>?_);have:=z _ (List.mem_append_right _ (Q4e (i:=0) (List.getElem?_eq_getElem G) y));simp only [List.length_cons] at this;omega
theorem Qek {l:List Rt}{T:Pn}(h:Q1c l T)(y:∀ r∈l,r.1.length<=64/\r.2.length<=1024)(H:l.length<=1048576){t:Nd}(G:erN t=T):BgN t:=by
 subst G;refine ⟨Qu4 _ t (le_refl _) (Qq7 h y),?_,fun I E=>?_⟩
 ·have z:=Qnl h;have D:=Qt3 y;rw [<-Qd7];omega
 have z:=Qqw E;have D:=Qq8 h;omega
abbrev Kvl:=List (List UInt8 × List UInt8)
def kvo (p:Kvp):List UInt8 × List UInt8:=(p.k,p.v)
def ofKV (q:List UInt8 × List UInt8):Kvp:=⟨.slice none 0 0,q.1,.slice none 0 0,q.2⟩
def bldQ (qs:Kvl):Pn × Int:=bldP (qs.map ofKV)
theorem Qrb:∀ ps:List Kvp,bldE ps=bldE ((ps.map kvo).map ofKV)
 | []=>rfl
 | p::ps=>by
  have:=Qrb ps;simp only [map_cons,bldE,kvo,ofKV];rw [this]
theorem Quk (ps:List Kvp):trB ps=trB ((ps.map kvo).map ofKV):=by
 unfold trB;rw [List.foldl_map,List.foldl_map];rfl
theorem Qra (ps:List Kvp):bldP ps=bldQ (ps.map kvo):=by
 unfold bldQ bldP;rw [<-Qrb,<-Quk]
theorem Qu7 {ps:List Kvp}(h:bldE ps=0):∀ p∈ps,Q6t p:=by
 induction ps with
 | nil=>intro p y;simp at y
 | cons q ps ih =>
  intro p y;unfold bldE at h;split at h
  ·omega
  split at h
  ·omega
  rcases List.mem_cons.1 y with rfl|y
  ·exact ⟨by omega,by omega⟩
  exact ih h p y
theorem Qqk (y:Kvl)(H:y.length<=1048576){t:Nd}(h:erN t=(bldQ y).1):BgN t:=by
 unfold bldQ bldP at h;split at h
 ·rename_i z;obtain ⟨D,_,E,G⟩:=Q6b (y.map ofKV) (Qu7 z);rw [length_map] at G;exact Qek D E (by omega) h
 exact Qek .none (by simp) (by simp) h
mutual
theorem Qar:∀ (d:Nat)(t s:Nd),erN t=erN s->rgt d t=rgt d s
 | d,.mk kd pv p vv v kv ks,.mk kd' pv' p' vv' v' kv' ks',h=>by
  simp only [erN,Pn.mk.injEq] at h;obtain ⟨rfl,rfl,rfl,y⟩:=h;have z:ks.length=ks'.length:=by have:=congrArg List.length y;simpa [Q2u] using this
  have D:=Qfl (d+p.length) ks ks' y;have E:=Qfl (d+1) ks ks' y;have G:=Qmt ks ks' y;have H:(ks[0]?.map Nd.kd).getD 0=(ks'[0]?.map Nd.kd).getD 0:=by
   cases ks with
   | nil=>cases ks' with
    | nil=>rfl
    | cons=>simp at z
   | cons a ks=>cases ks' with
    | nil=>simp at z
    | cons b ks' =>
     simp only [erNL,List.cons.injEq] at y;have:=y.1;obtain ⟨⟩:=a;obtain ⟨⟩:=b;simp only [erN,Pn.mk.injEq] at this;simp [Nd.kd,this.1]
  unfold rgt;rw [D,E,G,H,z]
theorem Qfl:∀ (d:Nat)(ks ks':List Nd),erNL ks=erNL ks'->rgtL d ks=rgtL d ks'
 | d,[],[],_=>rfl
 | d,[],_::_,h=>by simp [erNL] at h
 | d,_::_,[],h=>by simp [erNL] at h
 | d,k::ks,k'::ks',h=>by
  simp only [erNL,List.cons.injEq] at h;simp only [rgtL,Qar d k k' h.1,Qfl d ks ks' h.2]
theorem Qmt:∀ (ks ks':List Nd),erNL ks=erNL ks'->Q27 ks=Q27 ks'
 | [],[],_=>rfl
 | [],_::_,h=>by simp [erNL] at h
 | _::_,[],h=>by simp [erNL] at h
 | .mk kd pv p vv v kv ls::ks,.mk kd' pv' p' vv' v' kv' ls'::ks',h=>by
  simp only [erNL,erN,List.cons.injEq,Pn.mk.injEq] at h;obtain ⟨⟨rfl,_⟩,y⟩:=h;simp only [Q27,Nd.kd,Qmt ks ks' y];rfl
end
mutual
theorem Qo2:∀ (t s:Nd),erN t=erN s->cdN t=cdN s
 | .mk kd pv p vv v kv ks,.mk kd' pv' p' vv' v' kv' ks',h=>by
  simp only [erN,Pn.mk.injEq] at h;obtain ⟨rfl,rfl,rfl,y⟩:=h;simp only [cdN,Qqv ks ks' y]
theorem Qqv:∀ (ks ks':List Nd),erNL ks=erNL ks'->smN ks=smN ks'
 | [],[],_=>rfl
 | [],_::_,h=>by simp [erNL] at h
 | _::_,[],h=>by simp [erNL] at h
 | k::ks,k'::ks',h=>by
  simp only [erNL,List.cons.injEq] at h;have y:k.kd=k'.kd:=by
   obtain ⟨⟩:=k;obtain ⟨⟩:=k';have:=h.1;simp only [erN,Pn.mk.injEq] at this;exact this.1
  simp only [smN,Qo2 k k' h.1,Qqv ks ks' h.2,y]
end
theorem Qtj {t s:Nd}(h:erN t=erN s):rtC t=rtC s:=by
 have y:t.kd=s.kd:=by
  obtain ⟨⟩:=t;obtain ⟨⟩:=s;simp only [erN,Pn.mk.injEq] at h;exact h.1
 have E:(whN t).headD []=(whN s).headD []:=by
  obtain ⟨l,z⟩:=Q7q t;obtain ⟨m,D⟩:=Q7q s;unfold whN;rw [y,z,D,Qo2 t s h];split<;>rfl
 unfold rtC;rw [Qar 0 t s h,E]
end Go.Proofs.YtbdmkfjgnjfjbaaGreat
namespace Go.Proofs.YtbdmkfjgnjfjbaaGreat
open Go.ChangeShapes Go.WideShapes Go.ChangeAt Go.RowKit
def by8 (l:List UInt8):List Value:=l.map u8v
theorem Q59 (l:List UInt8):(by8 l).length=l.length:=by unfold by8;simp
def Q5y (n:Nat):List UInt8:=List.replicate n 0
end Go.Proofs.YtbdmkfjgnjfjbaaGreat
