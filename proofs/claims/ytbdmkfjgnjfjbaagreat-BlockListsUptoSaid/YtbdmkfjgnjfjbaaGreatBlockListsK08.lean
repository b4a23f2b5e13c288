/- Inner nodes in a world; tree.own, tree.join, tree.behind. | tree.behind, at every node. | tree.fork's tidy. | tree.fork's with, at the empty fork. | tree.part.  -/
import Derived.Test.YtbdmkfjgnjfjbaaGreatBlockListsK07
set_option linter.unusedSimpArgs false
set_option linter.unusedVariables false
set_option maxHeartbeats 4000000
set_option maxRecDepth 100000
open List (filter_nil getD_eq_getElem?_getD getElem?_eq_getElem getElem?_map length_cons length_map length_nil length_pos_iff length_set map_set mem_append mem_map mem_singleton take_nil take_succ_cons take_zero)
open Nat (le_refl)
namespace Go.Proofs.YtbdmkfjgnjfjbaaGreat
open Go.RowKit
inductive IsNv (w:World):Nd->Prop where
 | none (pv:Value) (p:List UInt8) (vv:Value) (v:List UInt8) (kv:Value) (ks:List Nd):IsNv w (.mk 0 pv p vv v kv ks)
 | leaf (pv:Value) (p:List UInt8) (vv:Value) (v:List UInt8) (kv:Value) (ks:List Nd) (hp:Q02 w pv p) (hv:Q02 w vv v):IsNv w (.mk 1 pv p vv v kv ks)
 | road (pv:Value) (p:List UInt8) (vv:Value) (v:List UInt8) (kv:Value) (k:Nd) (hp:Q02 w pv p) (hk:k.kd=3) (h:IsNv w k):IsNv w (.mk 2 pv p vv v kv [k])
 | fork (pv:Value) (p:List UInt8) (vv:Value) (v:List UInt8) (kv:Value) (ks:List Nd) (hv:Q02 w vv v) (hl:ks.length=16) (h:∀ k∈ks,IsNv w k):IsNv w (.mk 3 pv p vv v kv ks)
theorem IsNv.kept {w w':World}{t:Nd}(h:IsNv w t)(y:Below w.heap.size w w'):IsNv w' t:=by
 induction h with
 | none pv p vv v kv ks=>exact .none pv p vv v kv ks
 | leaf pv p vv v kv ks hp hv=>exact .leaf pv p vv v kv ks (hp.below y) (hv.below y)
 | road pv p vv v kv k hp hk _ ih=>exact .road pv p vv v kv k (hp.below y) hk ih
 | fork pv p vv v kv ks hv hl _ ih=>exact .fork pv p vv v kv ks (hv.below y) hl ih
def nilN:Nd:=.mk 0 (.slice none 0 0) [] (.slice none 0 0) [] (.slice none 0 0) []
theorem IsNv.nil (w:World):IsNv w nilN:=.none _ _ _ _ _ _
def Q24 (T:Pn)(w:World)(e:Ending)(w':World):Prop:=∃ t,e=.returned (nv t)/\Below w.heap.size w w'/\IsNv w' t/\clN t=T
def NvT (T:Pn):Ty:=fun v w=>∃ t,v=nv t/\IsNv w t/\clN t=T
theorem NvT.mono (T:Pn):Mono (NvT T):=fun _ _ _ ⟨t,h,h2,h3⟩ hb=>⟨t,h,h2.kept hb,h3⟩
def Qqo (l:List UInt8)(w:World)(e:Ending)(w':World):Prop:=∃ v,e=.returned v/\Q08 b8 1 5 w' w.heap.size v l/\Below w.heap.size w w'
theorem Qc2 (a:Option Addr)(n c:Nat)(l:List UInt8)(J:n<=1000000000)(w:World)(h:Q02 w (.slice a n c) l):Calls Tryz.prog 170 #[.slice a n c] w (Qqo l w):=by
 have K:=h.fits.1;have z:Q08 b8 1 5 (w.alloc (.cells #[] 5)) w.heap.size (.slice (some ⟨w.heap.size,0,none⟩) 0 0) []:=Q08.made b8 1 5 w w.heap.size [] #[] 0 rfl rfl rfl (le_refl _) (by unfold maxLen;omega);have y:Below w.heap.size w (w.alloc (.cells #[] 5)):=Qba _ _;have G:=h.alloc (.cells #[] 5);have H:=Q08.lt z;go_enter Tryz.func170,Tryz.ntmps170
 go_wp2_with (refine Q0x (o:=⟨some 5,_,_,_,_,_⟩) (by rfl) (.tmp 3) (.tmp 4) 25 (by rfl) elU8 (by rfl) z (by rfl) G y.size (by simp<;>omega) (by unfold maxLen;simp<;>omega) ?_;intro L M I E _;have D:=y.grown E y.size H)
 go_ret;exact ⟨_,rfl,I,D⟩
theorem Qdk (a b:Option Addr)(n c m d:Nat)(l k:List UInt8)(I:l.length=n)(H:k.length=m)(N:n<=1000000000)(U:m<=1000000000)(w:World)(h:Q02 w (.slice a n c) l)(G:Q02 w (.slice b m d) k):Calls Tryz.prog 169 #[.slice a n c,.slice b m d] w (Qqo (l++k) w):=by
 have C:=Qhd (Qc2 a n c l N w h);have J:=Qhd G;have z:=Qhd I;have E:=Qhd H;clear h G I H;go_enter Tryz.func169,Tryz.ntmps169
 go_wp2_with (first
  |(go_at_call 170;(with_reducible refine C.out.mono ?_);rintro e Z ⟨V,rfl,D,y⟩;obtain ⟨S,T,rfl,_⟩:=D.form' n z.out;have M:=Q08.lt D)
  |((with_reducible refine Qgl 8 ?_);refine Q0x (o:=⟨some 8,_,_,_,_,_⟩) (by rfl) (.tmp 6) (.tmp 7) 25 (by rfl) elU8 (by rfl) D (by rfl) (J.out.below y) y.size (by rw [z.out,E.out];omega) (by rw [z.out,E.out];unfold maxLen;omega) ?_;intro W w3 O L _;have K:=y.grown L y.size M))
 go_ret;exact ⟨_,rfl,O,K⟩
def LfT (l:List UInt8)(x:Value):Ty:=fun v w=>∃ (a:Option Addr) (n c:Nat),v=.agg #[.slice a n c,x]/\Q02 w (.slice a n c) l
theorem LfT.mono (l:List UInt8)(x:Value):Mono (LfT l x):=fun _ _ _ ⟨a,n,c,h,h2⟩ hb=>⟨a,n,c,h,h2.below hb⟩
def IfT (ty:TypeId)(l:List UInt8)(x:Value):Ty:=fun v w=>∃ y,v=.iface ty y/\LfT l x y w
theorem IfT.mono (z:TypeId)(l:List UInt8)(x:Value):Mono (IfT z l x):=fun _ _ _ ⟨y,h,h2⟩ hb=>⟨y,h,LfT.mono _ _ _ _ _ h2 hb⟩
theorem Qqo.sl {l:List UInt8}{w w':World}{e:Ending}(h:Qqo l w e w'):∃ a n c,e=.returned (.slice a n c)/\Q02 w' (.slice a n c) l/\Below w.heap.size w w':=by
 obtain ⟨v,rfl,o,b⟩:=h;obtain ⟨a,c,rfl,_⟩:=o.form;exact ⟨a,_,c,rfl,o.row,b⟩
theorem Qgi (U z H:Option Addr)(J V E D h I:Nat)(p q u:List UInt8)(a0:p.length=J)(a2:q.length=h)(ad:J<=1000000000)(ae:h<=1000000000)(W:p≠[])(w:World)(Z:Q02 w (.slice U J V) p)(hq:Q02 w (.slice H h I) q)(hv:Q02 w (.slice z E D) u) :
  Calls Tryz.prog 158 #[.slice U J V,.iface 182 (.agg #[.slice H h I,.slice z E D])] w (Q24 (.mk 1 (p++q) u []) w):=by
 have z1:=Qsy;obtain ⟨G,O⟩:=Qe (w.alloc (.cells #[.slice H h I,.slice z E D] 182));have hz:Blk 182 G w.heap.size [.slice H h I,.slice z E D]:=by rw [O];exact D01 w _ _
 have N:Below w.heap.size w G:=by rw [O];exact Qba _ _
 have k0:=fun x:Ext G=>x.cell ((hz.cell 0).trans (show _=some (Value.slice H h I) from rfl));have k1:=fun x:Ext G=>x.cell ((hz.cell 1).trans (show _=some (Value.slice z E D) from rfl));have Cj:=Qhd (fun (x:World) (hx:Below G.heap.size G x)=>Qdk U H J V h I p q a0 a2 ad ae x (Z.below (D00 N hx)) (hq.below (D00 N hx)));have a8:=Qhd O;have Hv:=Qhd hv;have ai:((J:Int)==0)=false:=by
  rw [beq_eq_false_iff_ne];have:0<p.length:=length_pos_iff.2 W;omega
 clear O Z hq hv a0 a2 W;go_enter Tryz.func158,Tryz.ntmps158
 go_wp2_with fail
 rw [show w.alloc (.cells #[.slice H h I,.slice z E D] 182)=G from a8.out.symm];refine Q03 G 8 (by kernel_rfl) (by kernel_rfl) (Below.refl _ _) ?_;simp only [take_succ_cons,take_zero,take_nil]
 iterate 3 (refine Q06 (by rfl) (fun K L=>?_);go_simp;refine L _ ?_;clear L K)
 refine Q0e 19 (SlG (p++q)) rfl (of_decide_eq_true rfl) (SlG.mono _) (fun M T=>?_) ?_
 ·simp only [Q18,filter_nil,Q00];refine ⟨rfl,?_⟩;go_simp;refine (Cj.out M T).mono ?_;rintro e w7 h7;obtain ⟨a,n,c,rfl,r7,b7⟩:=h7.sl;exact ⟨_,rfl,⟨a,n,c,rfl,r7⟩,b7⟩
 iterate 2 (refine Q06 (by rfl) (fun K L=>?_);go_simp;refine L _ ?_;clear L K)
 refine Q0e 22 (LfT (p++q) (.slice z E D)) rfl (of_decide_eq_true rfl) (LfT.mono _ _) (fun M T=>?_) ?_
 ·change Q00 M [(19,_)] _ _;rintro ag ⟨a,n,c,rfl,a'⟩;simp only [Q00];refine ⟨rfl,?_⟩;go_simp;exact ⟨Below.refl _ _,a,n,c,rfl,a'⟩
 refine Q0e 23 (IfT 182 (p++q) (.slice z E D)) rfl (of_decide_eq_true rfl) (IfT.mono _ _ _) (fun M T=>?_) ?_
 ·change Q00 M [(22,_)] _ _;rintro ah aa;obtain ⟨a,n,c,rfl,S⟩:=aa;simp only [Q00];refine ⟨rfl,?_⟩;go_simp;exact ⟨Below.refl _ _,_,rfl,a,n,c,rfl,S⟩
 refine Q0i ?_;intro y hy ag _ ah _ al ab;change wpList _ _ _ [_] _ _;simp only [Act.put,Qzs];obtain ⟨_,rfl,a,n,c,rfl,S⟩:=ab
 go_wp2_with fail
 go_ret;exact ⟨.mk 1 (.slice a n c) (p++q) (.slice z E D) u (.slice none 0 0) [],rfl,D00 N hy,.leaf _ _ _ _ _ _ S (Hv.out.below (D00 N hy)),rfl⟩
theorem Qgh (y:Option Addr)(h z:Nat)(w:World)(D:0<h) :
  Calls Tryz.prog 158 #[.slice y h z,.nilIface] w (Q24 nP w):=by
 have G:=Qsz;have H:=Quf;have I:∀ W,(Instr.typeAssert .nilIface 143 189 true).run Tryz.prog W=.ok (.tuple #[.agg (List.replicate 16 Value.nilIface++[Value.slice none 0 0]).toArray,.bool false]) W:=fun W=>by kernel_rfl
 have E:((h:Int)==0)=false:=by
  rw [beq_eq_false_iff_ne];omega
 go_enter Tryz.func158,Tryz.ntmps158
 go_wp2_with fail
 go_ret;exact ⟨nilN,rfl,Below.refl _ _,IsNv.nil _,rfl⟩
theorem Qet (h:Option Addr)(y:Nat)(X:Value)(w:World):Calls Tryz.prog 158 #[.slice h 0 y,X] w fun e w'=>e=.returned X/\Below w.heap.size w w':=by
 go_enter Tryz.func158,Tryz.ntmps158
 go_wp2_with fail
 go_ret;exact ⟨rfl,Below.refl _ _⟩
theorem Qgg (U E:Option Addr)(I V h G:Nat)(p q:List UInt8)(k:Nd)(O:k.kd=3)(a1:p.length=I)(a3:q.length=h)(ae:I<=1000000000)(af:h<=1000000000)(W:p≠[])(w:World)(hp:Q02 w (.slice U I V) p)(hq:Q02 w (.slice E h G) q)(Z:IsNv w k) :
  Calls Tryz.prog 158 #[.slice U I V,.iface 185 (.agg #[.slice E h G,nv k])] w (Q24 (.mk 2 (p++q) [] [clN k]) w):=by
 have z:=fun (a:Option Addr) (n c:Nat) (u:World) (hb:Below w.heap.size w u) (hs:Q02 u (.slice a n c) (p++q))=>(IsNv.road (.slice a n c) (p++q) (.slice none 0 0) [] (.slice none 0 0) k hs O (Z.kept hb));have S:=fun (a:Option Addr) (n c:Nat)=>show nv (.mk 2 (.slice a n c) (p++q) (.slice none 0 0) [] (.slice none 0 0) [k])=.iface 185 (.agg #[.slice a n c,nv k]) from rfl;obtain ⟨x,H⟩:=Qc5 O;rw [H];simp only [H] at S;have z1:=Que;have z2:=Qud;obtain ⟨D,M⟩:=Qe (w.alloc (.cells #[.slice E h G,.iface 189 x] 185));have hz:Blk 185 D w.heap.size [.slice E h G,.iface 189 x]:=by rw [M];exact D01 w _ _
 have L:Below w.heap.size w D:=by rw [M];exact Qba _ _
 have k0:=fun x:Ext D=>x.cell ((hz.cell 0).trans (show _=some (Value.slice E h G) from rfl));have k1:=fun y:Ext D=>y.cell ((hz.cell 1).trans (show _=some (Value.iface 189 x) from rfl));have Cj:=Qhd (fun (x:World) (H:Below D.heap.size D x)=>Qdk U E I V h G p q a1 a3 ae af x (hp.below (D00 L H)) (hq.below (D00 L H)));have a9:=Qhd M;have HK:=Qhd z;have a8:=Qhd S;have aj:((I:Int)==0)=false:=by
  rw [beq_eq_false_iff_ne];have:0<p.length:=length_pos_iff.2 W;omega
 clear M hp hq a1 a3 W z S H Z O;go_enter Tryz.func158,Tryz.ntmps158
 go_wp2_with fail
 rw [show w.alloc (.cells #[.slice E h G,.iface 189 x] 185)=D from a9.out.symm];refine Q03 D 8 (by kernel_rfl) (by kernel_rfl) (Below.refl _ _) ?_;simp only [take_succ_cons,take_zero,take_nil]
 iterate 3 (refine Q06 (by rfl) (fun K z=>?_);go_simp;refine z _ ?_;clear z K)
 refine Q0e 30 (SlG (p++q)) rfl (of_decide_eq_true rfl) (SlG.mono _) (fun J T=>?_) ?_
 ·simp only [Q18,filter_nil,Q00];refine ⟨rfl,?_⟩;go_simp;refine (Cj.out J T).mono ?_;rintro e w7 h7;obtain ⟨a,n,c,rfl,r7,b7⟩:=h7.sl;exact ⟨_,rfl,⟨a,n,c,rfl,r7⟩,b7⟩
 iterate 2 (refine Q06 (by rfl) (fun K z=>?_);go_simp;refine z _ ?_;clear z K)
 refine Q0e 33 (LfT (p++q) (.iface 189 x)) rfl (of_decide_eq_true rfl) (LfT.mono _ _) (fun J T=>?_) ?_
 ·change Q00 J [(30,_)] _ _;rintro ah ⟨a,n,c,rfl,aa⟩;simp only [Q00];refine ⟨rfl,?_⟩;go_simp;exact ⟨Below.refl _ _,a,n,c,rfl,aa⟩
 refine Q0e 34 (IfT 185 (p++q) (.iface 189 x)) rfl (of_decide_eq_true rfl) (IfT.mono _ _ _) (fun J T=>?_) ?_
 ·change Q00 J [(33,_)] _ _;rintro ai ab;obtain ⟨a,n,c,rfl,N⟩:=ab;simp only [Q00];refine ⟨rfl,?_⟩;go_simp;exact ⟨Below.refl _ _,_,rfl,a,n,c,rfl,N⟩
 refine Q0i ?_;intro y hy ah _ ai _ am ac;change wpList _ _ _ [_] _ _;simp only [Act.put,Qzs];obtain ⟨_,rfl,a,n,c,rfl,N⟩:=ac
 go_wp2_with fail
 go_ret;exact ⟨.mk 2 (.slice a n c) (p++q) (.slice none 0 0) [] (.slice none 0 0) [k],congrArg Ending.returned (a8.out a n c).symm,D00 L hy,HK.out a n c _ (D00 L hy) N,rfl⟩
def Q2h:List Value:=List.replicate 16 Value.nilIface++[Value.slice none 0 0]
theorem Qfx (ks:List Nd):∀ u∈nvL ks,u.oneCell'=true:=by
 rw [Q1s];intro u y;obtain ⟨k,_,rfl⟩:=mem_map.1 y;rcases Q6m k with h|⟨z,x,h⟩
 ·rw [h];rfl
 rw [h];rfl
theorem Qgj (U z:Option Addr)(H V E D:Nat)(p u:List UInt8)(ks:List Nd)(a2:ks.length=16)(ah:p.length=H)(ag:H<=1000000000)(Z:p≠[])(w:World)(hp:Q02 w (.slice U H V) p)(hv:Q02 w (.slice z E D) u)(hk:∀ k∈ks,IsNv w k) :
  Calls Tryz.prog 158 #[.slice U H V,.iface 189 (.agg (nvL ks++[Value.slice z E D]).toArray)] w (Q24 (.mk 2 p [] [.mk 3 [] u (clNL ks)]) w):=by
 have h:=fun (a:Option Addr) (n c:Nat) (x:World) (hb:Below w.heap.size w x) (hs:Q02 x (.slice a n c) p)=>(IsNv.road (.slice a n c) p (.slice none 0 0) [] (.slice none 0 0) (.mk 3 (.slice none 0 0) [] (.slice z E D) u (.slice none 0 0) ks) hs rfl (.fork _ _ _ _ _ _ (hv.below hb) a2 (fun k af=>(hk k af).kept hb)));have S:=fun (a:Option Addr) (n c:Nat)=>show nv (.mk 2 (.slice a n c) p (.slice none 0 0) [] (.slice none 0 0) [.mk 3 (.slice none 0 0) [] (.slice z E D) u (.slice none 0 0) ks])=.iface 185 (.agg #[.slice a n c,.iface 189 (.agg (nvL ks++[Value.slice z E D]).toArray)]) from rfl;have N:(nvL ks++[Value.slice z E D]).length=17:=by rw [Q1s];simp [a2]
 have M:∀ x∈nvL ks++[Value.slice z E D],x.oneCell'=true:=by
  intro x G;rcases mem_append.1 G with G|G
  ·exact Qfx ks x G
  rw [mem_singleton] at G;subst G;rfl
 obtain ⟨J,a0⟩:=Qe (nvL ks++[Value.slice z E D]);simp only [<-a0] at S N M |-;have z1:=Qsx;have z2:=Qsw;have z3:=Qsv;have C1:=Qhd (fun (x:World) (G:Below w.heap.size w x)=>Qc2 U H V p ag x (hp.below G));have HK:=Qhd h;have a9:=Qhd S;have W:=Qhd N;have a7:=Qhd M;have an:((H:Int)==0)=false:=by
  rw [beq_eq_false_iff_ne];have:0<p.length:=length_pos_iff.2 Z;omega
 clear hp ah Z h S hk hv a0 N M;go_enter Tryz.func158,Tryz.ntmps158
 go_wp2_with ((with_reducible refine Qgs 37 ?_);refine Qsa 189 7 37 w.heap.size J Q23 (D01 w 189 Q2h) W.out (by rfl) a7.out (Qba w _) (le_refl _) ?_;intro w1 h1 O _;have r1:=h1.all0)
 refine Q03 w1 6 (by kernel_rfl) (by kernel_rfl) (Below.refl _ _) ?_;simp only [take_succ_cons,take_zero,take_nil]
 (refine Q06 (by rfl) (fun K h=>?_);go_simp;refine h _ ?_;clear h K)
 refine Q0e 39 (SlG p) rfl (of_decide_eq_true rfl) (SlG.mono _) (fun I T=>?_) ?_
 ·simp only [Q18,filter_nil,Q00];refine ⟨rfl,?_⟩;go_simp;refine (C1.out I (D00 O T)).mono ?_;rintro e w7 h7;obtain ⟨a,n,c,rfl,r7,b7⟩:=h7.sl;exact ⟨_,rfl,⟨a,n,c,rfl,r7⟩,b7⟩
 (refine Q06 (by rfl) (fun K h=>?_);rw [if_pos (by rfl)];refine ⟨_,fun u=>Q16 _ (.tmp 7) (by rfl) _ _ (by rfl) Q23 W.out (rangeAt.ext r1 u),h _ ?_⟩;clear h K;simp only [Act.put,Qzs])
 (refine Q06 (by rfl) (fun K h=>?_);go_simp;refine h _ ?_;clear h K)
 refine Q0e 42 (LfT p (.iface 189 (.agg J.toArray))) rfl (of_decide_eq_true rfl) (LfT.mono _ _) (fun I T=>?_) ?_
 ·change Q00 I [(39,_)] _ _;rintro ak ⟨a,n,c,rfl,ab⟩;simp only [Q00];refine ⟨rfl,?_⟩;go_simp;exact ⟨Below.refl _ _,a,n,c,rfl,ab⟩
 refine Q0e 43 (IfT 185 p (.iface 189 (.agg J.toArray))) rfl (of_decide_eq_true rfl) (IfT.mono _ _ _) (fun I T=>?_) ?_
 ·change Q00 I [(42,_)] _ _;rintro al ac;obtain ⟨a,n,c,rfl,L⟩:=ac;simp only [Q00];refine ⟨rfl,?_⟩;go_simp;exact ⟨Below.refl _ _,_,rfl,a,n,c,rfl,L⟩
 refine Q0i ?_;intro y hy ak _ al _ ao ad;change wpList _ _ _ [_] _ _;simp only [Act.put,Qzs];obtain ⟨_,rfl,a,n,c,rfl,L⟩:=ad
 go_wp2_with fail
 go_ret;exact ⟨.mk 2 (.slice a n c) p (.slice none 0 0) [] (.slice none 0 0) [.mk 3 (.slice none 0 0) [] (.slice z E D) u (.slice none 0 0) ks],congrArg Ending.returned (a9.out a n c).symm,D00 O hy,HK.out a n c _ (D00 O hy) L,rfl⟩
def Pn.pth:Pn->List UInt8
 | .mk _ p _ _=>p
def Nd.path (t:Nd):List UInt8:=(clN t).pth
theorem Q5o (y:Option Addr)(h z:Nat)(p:List UInt8)(G:p.length=h)(K:h<=1000000000)(t:Nd)(N:t.path.length<=1000000000)(w:World)(J:Q02 w (.slice y h z) p)(M:IsNv w t) :
  Calls Tryz.prog 158 #[.slice y h z,nv t] w (Q24 (Q0z p (clN t)) w):=by
 by_cases h0:p=[]
 ·subst h0;simp only [length_nil] at G;subst G;refine Calls.mono (Qet y z (nv t) w) ?_;rintro e w' ⟨rfl,L⟩;refine ⟨t,rfl,L,M.kept L,?_⟩;cases clN t with
  | mk kd q u ks=>simp only [Q0z];rw [if_pos trivial]
 have S:0<h:=by rw [<-G];exact length_pos_iff.2 h0
 cases M with
 | none pv q vv u kv ks =>
  have:Q0z p (clN (.mk 0 pv q vv u kv ks))=nP:=by unfold clN;simp [Q0z,nP,h0]
  rw [this];exact Qgh y h z w S
 | leaf pv q vv u kv ks hq hv =>
  obtain ⟨H,I,rfl,_⟩:=hq.form;obtain ⟨D,E,rfl,_⟩:=hv.form;have:Q0z p (clN (.mk 1 (.slice H q.length I) q (.slice D u.length E) u kv ks))=.mk 1 (p++q) u []:=by unfold clN;simp [Q0z,h0]
  rw [this];exact Qgi y D H h z _ E _ I p q u G rfl K N h0 w J hq hv
 | road pv q vv u kv k hq hk3 hk =>
  obtain ⟨H,I,rfl,_⟩:=hq.form;have:Q0z p (clN (.mk 2 (.slice H q.length I) q vv u kv [k]))=.mk 2 (p++q) [] [clN k]:=by
   have e:clN (.mk 2 (.slice H q.length I) q vv u kv [k])=.mk 2 q [] [clN k]:=rfl;rw [e];simp [Q0z,h0]
  rw [this];exact Qgg y H h z _ I p q k hk3 G rfl K N h0 w J hq hk
 | fork pv q vv u kv ks hv hl hk =>
  obtain ⟨D,E,rfl,_⟩:=hv.form;have:Q0z p (clN (.mk 3 pv q (.slice D u.length E) u kv ks))=.mk 2 p [] [.mk 3 [] u (clNL ks)]:=by unfold clN;simp [Q0z,h0]
  have O:nv (.mk 3 pv q (.slice D u.length E) u kv ks)=.iface 189 (.agg (nvL ks++[Value.slice D u.length E]).toArray):=rfl;rw [this,O];exact Qgj y D h z _ E p u ks hl G K h0 w J hv hk
theorem IsNv.kd_cl {w:World}{t:Nd}(h:IsNv w t):(clN t).kd=t.kd:=by
 cases h with
 | none pv p vv v kv ks=>rfl
 | leaf pv p vv v kv ks hp hv=>rfl
 | road pv p vv v kv k hp hk h=>rfl
 | fork pv p vv v kv ks hv hl h=>rfl
theorem IsNv.val {w:World}{t:Nd}(h:IsNv w t):(t.kd=0/\nv t=.nilIface)∨(t.kd≠0/\∃ ty x,nv t=.iface ty x):=by
 cases h with
 | none pv p vv v kv ks=>exact .inl ⟨rfl,rfl⟩
 | leaf pv p vv v kv ks hp hv=>exact .inr ⟨by simp [Nd.kd],_,_,rfl⟩
 | road pv p vv v kv k hp hk h=>exact .inr ⟨by simp [Nd.kd],_,_,rfl⟩
 | fork pv p vv v kv ks hv hl h=>exact .inr ⟨by simp [Nd.kd],_,_,rfl⟩
theorem Qqh (l:List Pn)(k:Pn):cntQ (l++[k])=cntQ l+(if k.kd=0 then 0 else 1):=by
 induction l with
 | nil=>simp [cntQ]
 | cons x l ih=>simp only [List.cons_append,cntQ,ih];omega
theorem Qeg:∀ (l:List Pn)(k:Pn)(i a:Nat),Q5r (l++[k]) i a=if k.kd=0 then Q5r l i a else i+l.length
 | [],k,i,a=>rfl
 | x::l,k,i,a=>by
  simp only [List.cons_append,Q5r,length_cons];rw [Qeg l k (i+1)];split
  ·rfl
  omega
theorem Qfy:∀ (l:List Pn)(i a:Nat),a<i+l.length∨(a=0/\i=0/\l=[])->Q5r l i a<i+l.length∨(Q5r l i a=a)
 | [],i,a,_=>.inr rfl
 | k::l,i,a,h=>by
  simp only [Q5r,length_cons];by_cases hk:k.kd=0
  ·rw [if_pos hk];by_cases hl:l=[]
   ·subst hl;exact .inr rfl
   have:=Qfy l (i+1) a (.inl (by rcases h with h|⟨_,_,h⟩;simp only [length_cons] at h;omega;cases h));omega
  rw [if_neg hk];have:=Qfy l (i+1) i (.inl (by omega));omega
theorem Qty (l:List Pn)(h:l.length=16):Q5r l 0 0<16:=by
 have:=Qfy l 0 0 (.inl (by omega));omega
theorem Qoe:Agg Tryz.prog 187 16:=⟨_,Tryz.underlying187,rfl,by kernel_rfl⟩
theorem Q7d (y:List Value)(i:Nat)(G:i<16)(v:Value)(h:y[i]?=some v)(w:World):(Instr.index 187 (.agg y.toArray) (.int .i64 (i:Int))).run Tryz.prog w=.ok v w:=by
 have E:(sizeOf 143).run Tryz.prog w=.ok 1 w:=by kernel_rfl
 have z:(isAgg 143).run Tryz.prog w=.ok false w:=by kernel_rfl
 have D:(part 143 y.toArray i).run Tryz.prog w=.ok v w:=by
  unfold part;rw [Sem.run_bind,z];simp [h]
 unfold Instr.index;simp only [asIntOf,Sem.run_bind,Sem.run_pure,run_underlying (show Tryz.prog.underlying 187=some (.array 16 143) from Tryz.underlying187),Result.andThen_ok];rw [if_pos (by omega)];simp only [Sem.run_bind,E,Result.andThen_ok];simpa using D
section
variable (va:Option Addr) (vn vc:Nat) (u:List UInt8) (ks:List Nd) (w:World)
theorem Qh1 (aK:u.length=vn)(ai:ks.length=16)(hv:Q02 w (.slice va vn vc) u)(hk:∀ k∈ks,IsNv w k)(aI:∀ k∈ks,k.path.length<=1000000000) :
  Calls Tryz.prog 133 #[.agg (nvL ks++[Value.slice va vn vc]).toArray] w (Q24 (Q7u u (clNL ks)) w):=by
 obtain ⟨D,K⟩:=Qe (nvL ks++[Value.slice va vn vc]);have W:(nvL ks).length=16:=by rw [Q1s];simp [ai]
 have ag:∀ i (G:i<16),(nvL ks)[i]?=some (nv (ks[i]'(by omega))):=by
  intro i G;rw [Q1s,getElem?_map,getElem?_eq_getElem (by omega)];rfl
 have ay:D.length=17:=by rw [K];simp [W]
 have av:D[16]?=some (.slice va vn vc):=by rw [K,List.getElem?_append_right (by omega),W];rfl
 have ax:∀ i (G:i<16),D[i]?=some (nv (ks[i]'(by omega))):=by
  intro i G;rw [K,List.getElem?_append_left (by omega)];exact ag i G
 have aw:∀ x∈D,x.oneCell'=true:=by
  rw [K];intro x N;rcases mem_append.1 N with N|N
  ·exact Qfx ks x N
  rw [mem_singleton] at N;subst N;rfl
 have aJ:∀ (j:Nat) v,(nvL ks)[j]?=some v->D[j]?=some v:=by
  intro j v h;rw [K,List.getElem?_append_left (List.getElem?_eq_some_iff.1 h).1];exact h
 obtain ⟨T,a0⟩:=Qe (w.alloc (.cells D.toArray 189));have hz:Blk 189 T w.heap.size D:=by rw [a0];exact D01 w _ _
 have b4:Below w.heap.size w T:=by rw [a0];exact Qba _ _
 have aN:T.rangeAt w.heap.size 0 (nvL ks):=fun j v hv=>by rw [Nat.zero_add,hz.cell];exact aJ j v hv
 have ab:=(hz.cell 16).trans av;have b0:=ab;rw [a0] at b0;obtain ⟨KC,ad⟩:=Qe (nvL ks);have aG:nv (.mk 3 (.slice none 0 0) [] (.slice va vn vc) u (.slice none 0 0) ks)=.iface 189 (.agg D.toArray):=by rw [K];rfl
 rw [<-K];rw [<-ad] at aN W;have aU:Hid (∀ i<16,KC[i]?=some (nv (ks.getD i nilN))):=Qhd (fun i G=>by rw [ad,ag i G,getD_eq_getElem?_getD,getElem?_eq_getElem (by omega)];rfl);have aP:Hid (∀ i<16,D[i]?=some (nv (ks.getD i nilN))):=Qhd (fun i G=>by rw [ax i G,getD_eq_getElem?_getD,getElem?_eq_getElem (by omega)];rfl);have aQ:=Qhd ay;have bh:=Qhd aw;have ar:=Qhd a0;have aW:=Qhd aG;have O:=Qhd ai;have aq:=Qhd aK;have Hv:=Qhd hv;have a':Hid (∀ i<16,ks.getD i nilN∈ks):=Qhd (fun i G=>by rw [getD_eq_getElem?_getD,getElem?_eq_getElem (by omega)];exact List.getElem_mem _);have Hk:=Qhd hk;have aX:=Qhd aI;have aS:=Qhd W;clear ag ax aw aJ a0 K ad aG ai hv hk aI W ay av aK;obtain ⟨U,az⟩:=Qe (min vn 1);have a6:=Qhd az;rcases (by omega:(1:Int)<(vn:Int)∨¬ (1:Int)<(vn:Int)) with hm|hm
 all_goals
  have aB:min u.length 1=U:=by rw [aq.out];exact a6.out.symm
  have bm:U<=1:=by have:=a6.out;omega
  have aA:(if (1:Int)<(vn:Int) then 1 else (vn:Int))=(U:Int):=by have:=a6.out;split<;>omega
  have aR:=Qhd aB;clear aB az;go_enter Tryz.func133,Tryz.ntmps133
  go_wp2_with ((with_reducible refine Qgl 12 ?_);refine Qlw 187 11 w.heap.size 0 Qoe aS.out (by rw [<-ar.out];exact aN) ?_)
  rw [show w.alloc (.cells D.toArray 189)=T from ar.out.symm]
  go_loopw [3,4,13] (fun mx lx ix wr=>∃ i M L:Nat,i<=16/\ix=.int .i64 (i:Int)/\mx=.int .i64 (M:Int)/\lx=.int .i64 (L:Int)/\M=U+cntQ ((clNL ks).take i)/\M<=1+i/\L=Q5r ((clNL ks).take i) 0 0/\L<=16/\Below T.heap.size T wr) (fun _ _ ix _=>16 - (intOf ix).toNat)
  case atStart=>exact ⟨0,U,0,by omega,rfl,by rw [<-aA];split<;>(first|rfl|(simp;omega)),rfl,rfl,by omega,rfl,by omega,Below.refl _ _⟩
  case round =>
   obtain ⟨i,M,L,G,rfl,rfl,rfl,E,bn,z,b2,V⟩:=hrel;have J:=D00 b4 V;by_cases hlt:i<16
   ·have ba:(i:Int)<16:=by omega
    have a4:=aU.out i hlt;have aE:=Hk.out _ (a'.out i hlt);have aj:(clNL ks).take (i+1)=(clNL ks).take i++[clN (ks.getD i nilN)]:=by
     have I:(clNL ks).length=16:=by rw [Q1x,length_map];exact O.out
     rw [List.take_succ_eq_append_getElem (by omega)];congr 2;have h1:(clNL ks)[i]?=some (clN (ks.getD i nilN)):=by
      rw [Q1x,getElem?_map,getD_eq_getElem?_getD,getElem?_eq_getElem (by have:=O.out;omega)];rfl
     rw [getElem?_eq_getElem (by omega)] at h1;exact Option.some.inj h1
    have S:=Qqh ((clNL ks).take i) (clN (ks.getD i nilN));have I:=Qeg ((clNL ks).take i) (clN (ks.getD i nilN)) 0 0;have ak:((clNL ks).take i).length=i:=by rw [List.length_take,Q1x,length_map,O.out];omega
    rw [<-aj,aE.kd_cl] at S I;rw [ak] at I;have bp:IntKind.i64.wrap ((M:Int)+1)=((M+1:Nat):Int):=by rw [IntWalk.i64_in _ (by omega)];omega
    have bq:IntKind.i64.wrap ((i:Int)+1)=((i+1:Nat):Int):=by rw [IntWalk.i64_in _ (by omega)];omega
    rcases aE.val with ⟨H,Z⟩|⟨H,ty,x,aL⟩
    ·rw [Z] at a4;have b9:=Q7d KC i hlt _ a4;rw [if_pos H] at S I;have Hc:=Qhd S;have Hl:=Qhd I;have HM:=Qhd E;have HL:=Qhd z;clear S I Z H aj E z ak
     go_wp2_with fail
     go_roundw
     case rel=>exact ⟨i+1,M,L,by omega,by go_num,rfl,rfl,by have:=Hc.out;have:=HM.out;omega,by omega,by rw [Hl.out,HL.out],b2,V⟩
     case measure=>simp [intOf];omega
    rw [aL] at a4;have b9:=Q7d KC i hlt _ a4;rw [if_neg H] at S I;have Hc:=Qhd S;have Hl:=Qhd I;have HM:=Qhd E;have HL:=Qhd z;clear S I aL H aj E z ak
    go_wp2_with fail
    go_roundw
    case rel=>exact ⟨i+1,M+1,i,by omega,by go_num,by go_num,rfl,by have:=Hc.out;have:=HM.out;omega,by omega,by rw [Hl.out,Nat.zero_add],by omega,V⟩
    case measure=>simp [intOf];omega
   obtain rfl:i=16:=by omega
   have ba:¬ ((16:Nat):Int)<16:=by omega
   have b3:(clNL ks).take 16=clNL ks:=List.take_of_length_le (by rw [Q1x,length_map,O.out];exact le_refl _);rw [b3] at E z;have bk:wr.cell? ⟨w.heap.size,16,none⟩=some (.slice va vn vc):=by rw [V.cell (World.block_lt_of_cell? T _ ab)];exact ab
   have aM:=hz.kept V;have b':=aM.all0;have a1:Hid (Q7u u (clNL ks)=if 2<=M then .mk 3 [] u (clNL ks) else if M=0 then nP else if 0<vn then .mk 1 [] u [] else Q0z [UInt8.ofNat L] ((clNL ks)[L]?.getD nP)):=Qhd (by unfold Q7u;rw [aR.out,<-E,<-z,aq.out]);have ae:L<16:=by rw [z];exact Qty _ (by rw [Q1x,length_map];exact O.out)
   by_cases h2:2<=M
   ·have bb:(2:Int)<=(M:Int):=by omega
    clear E z
    go_wp2_with ((with_reducible refine Qgl 26 ?_);refine Qlw 189 1 w.heap.size 0 Q23 aQ.out b' ?_)
    go_ret;exact ⟨.mk 3 (.slice none 0 0) [] (.slice va vn vc) u (.slice none 0 0) ks,congrArg Ending.returned aW.out.symm,J,.fork _ _ _ _ _ _ (Hv.out.below J) O.out (fun k hk=>(Hk.out k hk).kept J),by rw [a1.out,if_pos h2];rfl⟩
   have bb:¬ (2:Int)<=(M:Int):=by omega
   by_cases H:M=0
   ·have bc:((M:Int)==0)=true:=beq_iff_eq.2 (by omega);clear E z
    go_wp2_with fail
    go_ret;exact ⟨nilN,rfl,J,IsNv.nil _,by rw [a1.out,if_neg h2,if_pos H];rfl⟩
   have bc:((M:Int)==0)=false:=beq_eq_false_iff_ne.2 (by omega);by_cases Z:0<vn
   ·have bd:(0:Int)<(vn:Int):=by omega
    clear E z
    go_wp2_with fail
    go_ret;exact ⟨.mk 1 (.slice none 0 0) [] (.slice va vn vc) u (.slice none 0 0) [],rfl,J,.leaf _ _ _ _ _ _ (Q05.nil b8 1 _) (Hv.out.below J),by rw [a1.out,if_neg h2,if_neg H,if_pos Z];rfl⟩
   have bd:¬ (0:Int)<(vn:Int):=by omega
   clear E z hm aA;have ah:wr.cell? ⟨w.heap.size,L,none⟩=some (nv (ks.getD L nilN)):=(aM.cell L).trans (aP.out L ae);have aD:=Hk.out _ (a'.out L ae);have aH:=aX.out _ (a'.out L ae);have aV:Hid ((clNL ks)[L]?.getD nP=clN (ks.getD L nilN)):=Qhd (by rw [Q1x,getElem?_map,getD_eq_getElem?_getD,getElem?_eq_getElem (by have:=O.out;omega)];rfl);have bo:IntKind.u8.wrap (L:Int)=(L:Int):=IntWalk.u8_in _ ⟨by omega,by omega⟩;have bl:(L:Int)<16:=by omega
   have cb:∀ (g:Nat) (x:World),Blk 5 x g [.int .u8 (L:Int)]->Below wr.heap.size wr x->Calls Tryz.prog 158 #[.slice (some ⟨g,0,none⟩) 1 1,nv (ks.getD L nilN)] x (Q24 (Q7u u (clNL ks)) x):=fun g x hg N=>by
    rw [a1.out,if_neg h2,if_neg H,if_neg Z,aV.out];refine Q5o (some ⟨g,0,none⟩) 1 1 [UInt8.ofNat L] rfl (by omega) _ aH x ?_ (aD.kept (D00 J N));exact Blk.row hg [UInt8.ofNat L] 1 1 (fun _=>rfl) rfl (fun j y hy=>by rw [Q22] at hy;simp only [List.map_cons,List.map_nil,u8v,Q1o (show L<256 by omega)] at hy;exact hy) (le_refl _) (by unfold maxLen;omega)
   have b6:(wr.alloc (.cells #[.int .u8 (L:Int)] 5)).cell? ⟨w.heap.size,L,none⟩=some (nv (ks.getD L nilN)):=by rw [((Below.refl wr.heap.size wr).alloc (le_refl _) (.cells #[.int .u8 (L:Int)] 5)).cell (World.block_lt_of_cell? wr _ ah)];exact ah
   obtain ⟨VL,aC⟩:=Qe (nv (ks.getD L nilN));simp only [<-aC] at ah b6 cb;have Cb:=Qhd cb;clear cb aD aH aC
   go_wp2_with (go_at_call 158;(with_reducible refine (Cb.out _ _ (D01 wr _ _) (Qba _ _)).mono ?_);rintro e w5 ⟨t,rfl,b5,it,ct⟩;obtain ⟨VT,af⟩:=Qe (nv t);rw [<-af];have aT:=Qhd af;clear af;have bA:=((Below.refl wr.heap.size wr).alloc (le_refl _) (.cells #[.int .u8 (L:Int)] 5)))
   go_ret;exact ⟨t,by rw [<-aT.out];rfl,D00 J (D00 bA b5),it,ct⟩
end
theorem Qs9 (n:Nat):nvL (List.replicate n nilN)=List.replicate n Value.nilIface:=by
 rw [Q1s,List.map_replicate];rfl
theorem Qih (n:Nat):clNL (List.replicate n nilN)=List.replicate n nP:=by
 rw [Q1x,List.map_replicate];rfl
theorem Qmd (ks:List Nd)(i:Nat)(t:Nd):nvL (ks.set i t)=(nvL ks).set i (nv t):=by
 rw [Q1s,Q1s,map_set]
theorem Qd2 (ks:List Nd)(i:Nat)(t:Nd):clNL (ks.set i t)=(clNL ks).set i (clN t):=by
 rw [Q1x,Q1x,map_set]
theorem Qgp:Q2h=nvL (List.replicate 16 nilN)++[Value.slice none 0 0]:=by rw [Qs9];rfl
theorem Qk8:Q2h.length=17:=rfl
theorem Qk7 (i:Nat)(h:i<16)(t:Nd):Q2h.set i (nv t)=nvL ((List.replicate 16 nilN).set i t)++[Value.slice none 0 0]:=by
 rw [Qgp,Qmd,List.set_append_left _ _ (by rw [Q1s];simpa using h)]
theorem Qis (v:Value):Q2h.set 16 v=nvL (List.replicate 16 nilN)++[v]:=by
 rw [Qgp,List.set_append_right _ _ (by rw [Q1s];simp),Q1s];simp
theorem Qdb:∀ u∈Q2h,u.oneCell'=true:=by
 intro u y;unfold Q2h at y;rcases mem_append.1 y with h|h
 ·rw [List.eq_of_mem_replicate h];rfl
 rw [mem_singleton] at h;rw [h];rfl
theorem IsNv.off {w w':World}{t:Nd}{e:TypeId}{z:Nat}{cs:List Value}(h:IsNv w t)(E:Blk e w z cs)(D:∀ u∈cs,∀ k,u≠.int .u8 k)(y:w.grownBy w' (some z)):IsNv w' t:=by
 induction h with
 | none pv p vv v kv ks=>exact .none pv p vv v kv ks
 | leaf pv p vv v kv ks hp hv=>exact .leaf pv p vv v kv ks (Q02.off_v hp E D y) (Q02.off_v hv E D y)
 | road pv p vv v kv k hp hk _ ih=>exact .road pv p vv v kv k (Q02.off_v hp E D y) hk ih
 | fork pv p vv v kv ks hv hl _ ih=>exact .fork pv p vv v kv ks (Q02.off_v hv E D y) hl ih
theorem Qtt (t:Nd)(k:Int):nv t≠.int .u8 k:=by
 rcases Q6m t with h|⟨_,_,h⟩<;>rw [h]<;>simp
theorem Qdc:∀ u∈Q2h,∀ k,u≠.int .u8 k:=by
 intro u y k;unfold Q2h at y;rcases mem_append.1 y with h|h
 ·rw [List.eq_of_mem_replicate h];simp
 rw [mem_singleton] at h;rw [h];simp
def Qir (V:List UInt8)(KS:List Pn)(w:World)(e:Ending)(w':World):Prop:=∃ (ks:List Nd) (a:Option Addr) (n c:Nat),e=.returned (.agg (nvL ks++[Value.slice a n c]).toArray)/\Below w.heap.size w w'/\ks.length=16/\Q02 w' (.slice a n c) V/\(∀ k∈ks,IsNv w' k)/\clNL ks=KS
theorem Qoq (pa O E:Option Addr)(pc T S H G:Nat)(q u:List UInt8)(w:World)(N:Q02 w (.slice E H G) u) :
  Calls Tryz.prog 168 #[.agg Q2h.toArray,.slice pa 0 pc,.iface 182 (.agg #[.slice O T S,.slice E H G])] w (Qir u (List.replicate 16 nP) w):=by
 have z1:=Qsy;obtain ⟨h,z⟩:=Qe (Q2h.set 16 (Value.slice E H G));obtain ⟨y,D⟩:=Qe (((w.alloc (.cells h.toArray 189)).alloc (.cells #[.nilIface,.nilIface,.nilIface,.nilIface,.nilIface,.nilIface,.nilIface,.nilIface,.nilIface,.nilIface,.nilIface,.nilIface,.nilIface,.nilIface,.nilIface,.nilIface,.slice none 0 0] 189)).alloc (.cells #[.slice O T S,.slice E H G] 182));have a2:Blk 189 y w.heap.size h:=by rw [D];exact ((D01 w _ _).alloc _).alloc _
 have a3:Blk 189 y (w.heap.size+1) Q2h:=by
  have:=D01 (w.alloc (.cells h.toArray 189)) 189 Q2h;simp only [World.size_alloc] at this;rw [D];exact this.alloc _
 have a0:Below w.heap.size w y:=by rw [D];exact ((Qba _ _).alloc (by simp) _).alloc (by simp;omega) _
 have J:h.length=17:=by rw [z,length_set];rfl
 have W:∀ x∈h,x.oneCell'=true:=by
  rw [z];intro x K;rcases List.mem_or_eq_of_mem_set K with K|rfl
  ·exact Qdb x K
  rfl
 have L:=D;rw [z] at L;have I:=Qhd L;have U:=Qhd z;have V:=Qhd N;clear z D L N;go_enter Tryz.func168,Tryz.ntmps168
 go_wp2_with (first
  |((with_reducible refine Qgl 21 ?_);refine Qla 189 3 w.heap.size Q23 (cs:=h) (by rw [<-show y=_ from I.out];exact a2) J ?_)
  |((with_reducible refine Qgs 21 ?_);refine Qsa 189 6 21 (w.heap.size+1) h Q23 (by rw [<-show y=_ from I.out];exact a3) J (by rfl) W (by rw [<-show y=_ from I.out];exact a0) (by omega) ?_;intro w7 Z M _))
 exact bodyPost_ret (Q0h rfl _ _ (w.heap.size+1) Q23 Z J rfl) rfl ⟨List.replicate 16 nilN,E,H,G,by rw [U.out,Qis],M,by simp,V.out.below M,fun k hk=>by rw [List.eq_of_mem_replicate hk];exact IsNv.nil _,Qih 16⟩
theorem Qkf (pa:Option Addr)(E pc:Nat)(x:UInt8)(r:List UInt8)(a7:(x::r).length=E)(aP:E<=1000000000)(hx:x.toNat<16)(t:Nd)(aA:t.path.length<=1000000000)(w:World)(hp:Q02 w (.slice pa E pc) (x::r))(ht:IsNv w t) :
  Calls Tryz.prog 168 #[.agg Q2h.toArray,.slice pa E pc,nv t] w (Qir [] ((List.replicate 16 nP).set x.toNat (Q0z r (clN t))) w):=by
 have az:1<=E:=by rw [<-a7];simp
 have aO:((E:Int)==0)=false:=by rw [beq_eq_false_iff_ne];omega
 have aM:(0:Int)<(E:Int):=by omega
 have aN:0<E:=by omega
 have aR:(x.toNat:Int)<16:=by omega
 obtain ⟨bq,oq,rfl,T⟩:=Q02.at hp 0 (by simp);simp only [List.getElem_cons_zero,Nat.add_zero] at T;obtain ⟨a5,c5,aH,ab⟩:=Q05.from elU8 hp 1 az 1 rfl;simp only [List.drop_succ_cons,List.drop_zero] at ab;have aj:r.length=E - 1:=by rw [<-a7];simp
 obtain ⟨I,M⟩:=Qe ((w.alloc (.cells Q2h.toArray 189)).alloc (.cells #[.nilIface,.nilIface,.nilIface,.nilIface,.nilIface,.nilIface,.nilIface,.nilIface,.nilIface,.nilIface,.nilIface,.nilIface,.nilIface,.nilIface,.nilIface,.nilIface,.slice none 0 0] 189));have aD:Blk 189 I w.heap.size Q2h:=by rw [M];exact (D01 w _ _).alloc _
 have aE:Blk 189 I (w.heap.size+1) Q2h:=by
  have:=D01 (w.alloc (.cells Q2h.toArray 189)) 189 Q2h;simp only [World.size_alloc] at this;rw [M];exact this
 have a4:Below w.heap.size w I:=by rw [M];exact (Qba _ _).alloc (by simp) _
 have Z:=fun (u:World) (hu:Below w.heap.size w u)=>Q5o a5 (E - 1) c5 r aj (by omega) t aA u (ab.below hu) (ht.kept hu);have k1:=fun u:Ext I=>u.cell (show I.cell? ⟨bq,oq,none⟩=some (.int .u8 (x.toNat:Int)) from by rw [a4.cell (World.block_lt_of_cell? w _ T)];exact T);obtain ⟨VT,af⟩:=Qe (nv t);simp only [<-af] at Z |-;have Cb:=Qhd Z;have ar:=Qhd M;clear M Z af hp ht a7 ab T aj;go_enter Tryz.func168,Tryz.ntmps168
 go_wp2_with fail
 rw [show (w.alloc (.cells Q2h.toArray 189)).alloc (.cells #[.nilIface,.nilIface,.nilIface,.nilIface,.nilIface,.nilIface,.nilIface,.nilIface,.nilIface,.nilIface,.nilIface,.nilIface,.nilIface,.nilIface,.nilIface,.nilIface,.slice none 0 0] 189)=I from ar.out.symm];refine Q03 I 9 (by kernel_rfl) (by kernel_rfl) (Below.refl _ _) ?_;simp only [take_succ_cons,take_zero,take_nil]
 iterate 6 (refine Q06 (by rfl) (fun K H=>?_);go_simp;first|(refine H _ ?_;clear H K)|(apply Exists.intro;refine ⟨fun _=>?_,H _ ?_⟩;exact aH _;clear H K))
 refine Q0e 28 (NvT (Q0z r (clN t))) rfl (of_decide_eq_true rfl) (NvT.mono _) (fun w6 aB=>?_) ?_
 ·simp only [Q18,filter_nil,Q00];refine ⟨rfl,?_⟩;go_simp;refine (Cb.out w6 (D00 a4 aB)).mono ?_;rintro e G ⟨D,rfl,J,V,W⟩;exact ⟨_,rfl,⟨D,rfl,V,W⟩,J⟩
 iterate 2 (refine Q06 (by rfl) (fun K H=>?_);go_simp;refine H _ ?_;clear H K)
 refine Q0i ?_;intro y hy aT ay;change wpList _ _ _ [_] _ _;simp only [Act.put,Qzs];obtain ⟨D,rfl,V,W⟩:=ay;have ad:=D00 a4 hy;have N:=aD.kept hy;have al:=aE.kept hy;have a8:=N.set x.toNat (nv D);have S:y.grownBy (y.setCell ⟨w.heap.size,x.toNat,none⟩ (nv D)) (some w.heap.size):=Q0s x.toNat _;have a9:=al.grown S (by simp);have ah:Below w.heap.size w (y.setCell ⟨w.heap.size,x.toNat,none⟩ (nv D)):=ad.grown S ad.size (fun k L=>by cases L;exact le_refl _);have i8:=V.off N Qdc S;obtain ⟨xc,aQ⟩:=N.has x.toNat (by rw [Qk8];omega);have aL:=N.free x.toNat;have U:(Q2h.set x.toNat (nv D)).length=17:=by rw [length_set];rfl
 have h1:∀ z∈Q2h.set x.toNat (nv D),z.oneCell'=true:=by
  intro z hz;rcases List.mem_or_eq_of_mem_set hz with hz|rfl
  ·exact Qdb z hz
  rcases Q6m D with h|⟨_,_,h⟩<;>rw [h]<;>rfl
 obtain ⟨O,a3⟩:=Qe (Q2h.set x.toNat (nv D));rw [<-a3] at a8 U h1;have ag:O=nvL ((List.replicate 16 nilN).set x.toNat D)++[Value.slice none 0 0]:=by rw [a3];exact Qk7 _ hx D
 have aq:=Qhd ag;have I8:=Qhd i8;clear ag a3 N al S k1 V i8;have ai:∀ G:World,Blk 189 G (w.heap.size+1) O->Below w.heap.size w G->(y.setCell ⟨w.heap.size,x.toNat,none⟩ (nv D)).grownBy G (some (w.heap.size+1))->Qir [] ((List.replicate 16 nP).set x.toNat (Q0z r (clN t))) w (.returned (.agg O.toArray)) G:=fun G h7 J g7 =>
  ⟨(List.replicate 16 nilN).set x.toNat D,none,0,0,by rw [aq.out],J,by simp,Q05.nil b8 1 _,fun k L=>by
   rcases List.mem_or_eq_of_mem_set L with L|rfl
   ·rw [List.eq_of_mem_replicate L];exact IsNv.nil _
   exact I8.out.off a9 Qdc g7,by rw [Qd2,Qih,W]⟩
 have ac:=Qhd ai;clear ai;rcases Q6m D with a2|⟨ty,X7,a2⟩
 all_goals
  rw [a2] at a8 a9 ah ac |-;clear a2
  go_wp2_with (first
   |((with_reducible refine Qgl 31 ?_);refine Qla 189 3 w.heap.size Q23 a8 U ?_)
   |((with_reducible refine Qgs 31 ?_);refine Qsa 189 6 31 (w.heap.size+1) O Q23 a9 U (by rfl) h1 ah (by omega) ?_;intro G h7 J g7))
  exact bodyPost_ret (Q0h rfl _ _ (w.heap.size+1) Q23 h7 U rfl) rfl (ac.out G h7 J g7)
theorem Qb7 (ks:List Nd)(v:Value)(h:ks.length=16):(nvL ks++[v]).length=17:=by rw [Q1s];simp [h]
theorem Qia (ks:List Nd)(a:Option Addr)(n c:Nat):∀ x∈nvL ks++[Value.slice a n c],x.oneCell'=true:=by
 intro x h;rcases mem_append.1 h with h|h
 ·exact Qfx ks x h
 rw [mem_singleton] at h;subst h;rfl
theorem Qib (ks:List Nd)(a:Option Addr)(n c:Nat):∀ x∈nvL ks++[Value.slice a n c],∀ k,x≠.int .u8 k:=by
 intro x h k;rcases mem_append.1 h with h|h
 ·rw [Q1s] at h;obtain ⟨t,_,rfl⟩:=mem_map.1 h;exact Qtt t k
 rw [mem_singleton] at h;subst h;simp
theorem Qnr (ks:List Nd)(h:ks.length=16)(u v:Value):(nvL ks++[u]).set 16 v=nvL ks++[v]:=by
 rw [List.set_append_right _ _ (by rw [Q1s];simp [h]),Q1s];simp [h]
theorem Qr5 (ks:List Nd)(h:ks.length=16)(i:Nat)(y:i<16)(t:Nd)(u:Value):(nvL ks++[u]).set i (nv t)=nvL (ks.set i t)++[u]:=by
 rw [Qmd,List.set_append_left _ _ (by rw [Q1s];simpa [h] using y)]
theorem Qhl (E:Option Addr)(z G:Nat)(q:List UInt8)(c:Nat)(T:q.length=z)(S:z<=1000000000)(O:c<=q.length)(x:World)(K:Q02 x (.slice E z G) q)(ks:List Nd)(J:ks.length=16)(a:Option Addr)(n d:Nat)(v:List UInt8)(L:Q02 x (.slice a n d) v)(H:∀ k∈ks,IsNv x k) :
  ∃ (h:Option Addr) (y:Nat),(∀ (k:IntKind) (u:World),(Instr.slice 25 (.slice E z G) none (some (.int k (c:Int))) none).run Tryz.prog u=.ok (.slice h c y) u) /\
   ∀ u,Below x.heap.size x u->Calls Tryz.prog 158 #[.slice h c y,.iface 189 (.agg (nvL ks++[Value.slice a n d]).toArray)] u (Q24 (Q0z (q.take c) (.mk 3 [] v (clNL ks))) u):=by
 obtain ⟨h,y,M,N⟩:=Q05.to elU8 K c (by omega) (c:Int) rfl;refine ⟨h,y,M,fun u D=>?_⟩;exact Q5o h c y (q.take c) (by rw [List.length_take];omega) (by omega) (.mk 3 (.slice none 0 0) [] (.slice a n d) v (.slice none 0 0) ks) (show ([]:List UInt8).length<=1000000000 from by simp) u (N.below D) (.fork _ _ _ _ _ _ (L.below D) J (fun k I=>(H k I).kept D))
theorem Qgr (y:Option Addr)(h z:Nat)(r:List UInt8)(E:r.length=h)(J:h<=1000000000)(L:nibs r)(t:Nd)(K:t.path.length<=1000000000)(H:r=[]->t.kd=1)(w:World)(I:Q02 w (.slice y h z) r)(G:IsNv w t) :
  Calls Tryz.prog 168 #[.agg #[.nilIface,.nilIface,.nilIface,.nilIface,.nilIface,.nilIface,.nilIface,.nilIface,.nilIface,.nilIface,.nilIface,.nilIface,.nilIface,.nilIface,.nilIface,.nilIface,.slice none 0 0],.slice y h z,nv t] w (Qir (Q6d r (clN t)).1 (Q6d r (clN t)).2 w):=by
 cases r with
 | nil =>
  simp only [length_nil] at E;subst E;have D:=H rfl;cases G with
  | none=>simp [Nd.kd] at D
  | road=>simp [Nd.kd] at D
  | fork=>simp [Nd.kd] at D
  | leaf qv q vv u kv ks hq hv =>
   obtain ⟨M,N,rfl,_⟩:=hq.form;obtain ⟨O,S,rfl,_⟩:=hv.form;exact Qoq y M O z _ N _ S q u w hv
 | cons x r =>
  exact Qkf y h z x r E J (L x List.mem_cons_self) t K w I G
theorem Qm2 (na ka z:Option Addr)(I nc E kc h D:Nat)(q p v:List UInt8)(t:Nd)(c:Nat)(aq:q.length=I)(aX:p.length=E)(b1:v.length=h)(aY:I<=1000000000)(bg:E<=1000000000)(hc:c=com q p)(hq:nibs q)(hp:nibs p)(ax:t.path.length<=1000000000)(h0:c=I->t.kd=1)(aT:E=c)(w:World)(a6:Q02 w (.slice na I nc) q)(aW:Q02 w (.slice ka E kc) p)(ay:Q02 w (.slice z h D) v)(ht:IsNv w t) :
  Calls Tryz.prog 157 #[.int .i64 (c:Int),.slice na I nc,nv t,.slice ka E kc,.slice z h D] w (Q24 (Q45 c q (clN t) p v) w):=by
 have aS:=Q30 q p;rw [<-hc] at aS;obtain ⟨a5,c5,r5,aB⟩:=Q05.from elU8 a6 c (by omega) (c:Int) rfl;have W:=fun (u:World) (hu:Below w.heap.size w u)=>Qgr a5 (I - c) c5 (q.drop c) (by rw [List.length_drop];omega) (by omega) (fun x hx=>hq x (List.mem_of_mem_drop hx)) t ax (fun e=>h0 (by have:=List.drop_eq_nil_iff.1 e;omega)) u (aB.below hu) (ht.kept hu);obtain ⟨VT,an⟩:=Qe (nv t);simp only [<-an] at W |-;have bf:(c:Int)<=(I:Int):=by omega
 have be:(c:Int)<=(E:Int):=by omega
 have bh:(E:Int)<=1000000000:=by omega
 have Cw:=Qhd W;have aJ:=Qhd a6;have aM:=Qhd ay;have au:Q45 c q (clN t) p v=Q0z (q.take c) (.mk 3 [] v (Q6d (q.drop c) (clN t)).2):=by unfold Q45;rw [if_pos (by omega),if_pos (by omega)]
 have aL:=Qhd au;have aK:=Qhd aq;subst aT;clear au aq W an hc hq hp ax h0 a6 aW ay ht aB aX b1;go_enter Tryz.func157,Tryz.ntmps157
 go_wp2_with (first
  |(go_at_call 168;(with_reducible refine (Cw.out _ (Below.refl _ _)).mono ?_);rintro e H ⟨ks,a,n,d,rfl,aj,a4,bi,aV,ap⟩;have S:=Qb7 ks (.slice a n d) a4;have a0:=Qia ks a n d;have aI:=Qhd ap;have ah:=Qhd a4;obtain ⟨M,O⟩:=Qe (nvL ks++[Value.slice a n d]);rw [<-O] at S a0;rw [<-O];have ac:=Qhd O;clear O ap a4)
  |((with_reducible refine Qgs 17 ?_);refine Qsa 189 11 17 H.heap.size M Q23 (D01 H 189 Q2h) S (by rfl) a0 (Qba H _) (le_refl _) ?_;intro J L b3 _;obtain ⟨bm,b5⟩:=L.has 16 (by rw [S];omega);have aU:=L.free 16;have ak:=D00 aj b3))
 have a1:M.set 16 (.slice z h D)=nvL ks++[Value.slice z h D]:=by rw [ac.out];exact Qnr ks ah.out _ _
 have Z:J.grownBy (J.setCell ⟨H.heap.size,16,none⟩ (.slice z h D)) (some H.heap.size):=Q0s 16 _;have hs:=L.set 16 (.slice z h D);have N:Below w.heap.size w (J.setCell ⟨H.heap.size,16,none⟩ (.slice z h D)):=ak.grown Z ak.size (fun k hk=>by cases hk;exact aj.size);have ar:∀ x∈M,∀ k,x≠.int .u8 k:=by rw [ac.out];exact Qib ks a n d
 have af:Hid (∀ k∈ks,IsNv (J.setCell ⟨H.heap.size,16,none⟩ (.slice z h D)) k):=Qhd (fun k hk=>((aV k hk).kept b3).off L ar Z);have ag:Hid (Q02 (J.setCell ⟨H.heap.size,16,none⟩ (.slice z h D)) (.slice z h D) v):=Qhd (aM.out.below N);obtain ⟨y,hy⟩:=Qe (J.setCell ⟨H.heap.size,16,none⟩ (.slice z h D));rw [<-hy] at hs N af ag;have HY:=Qhd hy;obtain ⟨FD,am⟩:=Qe (M.set 16 (.slice z h D));rw [<-am] at hs a1;have ad:=Qhd a1;have ae:=ah;have HT:Hid (Q0z (q.take E) (.mk 3 [] v (clNL ks))=Q45 E q (clN t) p v):=Qhd (by rw [aL.out,aI.out]);clear a1 am hy Z ar b5 aU L a0 S;have aR:FD.length=17:=by rw [ad.out];exact Qb7 _ _ ae.out
 have r1:=hs.all0;obtain ⟨a7,c7,r7,V⟩:=Qhl na I nc q E aK.out aY (by omega) y (aJ.out.below N) ks ae.out z h D v ag.out af.out;rw [<-ad.out] at V;have Cb:=Qhd V;clear V;rw [show J.setCell ⟨H.heap.size,16,none⟩ (.slice z h D)=y from HY.out.symm];refine Q03 y 6 (by kernel_rfl) (by kernel_rfl) (Below.refl _ _) ?_;simp only [take_succ_cons,take_zero,take_nil]
 iterate 3 (refine Q06 (by rfl) (fun K G=>?_);go_simp;first|(refine G _ ?_;clear G K)|(apply Exists.intro;refine ⟨fun _=>?_,G _ ?_⟩;exact r7 _ _;clear G K))
 (refine Q06 (by rfl) (fun K G=>?_);rw [if_pos (by rfl)];refine ⟨_,fun u=>Q16 _ (.tmp 11) (by rfl) _ _ (by rfl) Q23 aR (rangeAt.ext r1 u),G _ ?_⟩;clear G K;simp only [Act.put,Qzs])
 (refine Q06 (by rfl) (fun K G=>?_);go_simp;refine G _ ?_;clear G K)
 refine Q0e 42 (NvT (Q45 E q (clN t) p v)) rfl (of_decide_eq_true rfl) (NvT.mono _) (fun w6 b2=>?_) ?_
 ·simp only [Q18,filter_nil,Q00];refine ⟨rfl,?_⟩;go_simp;refine (Cb.out w6 b2).mono ?_;rintro e w7 ⟨T,rfl,b7,i7,U⟩;exact ⟨_,rfl,⟨T,rfl,i7,U.trans HT.out⟩,b7⟩
 refine Q0i ?_;intro u5 b0 bk aQ;change wpList _ _ _ [_] _ _;simp only [Act.put,Qzs];obtain ⟨T,rfl,i7,U⟩:=aQ;obtain ⟨V7,a2⟩:=Qe (nv T);rw [<-a2];have aG:=Qhd a2;clear a2
 go_wp2_with fail
 go_ret;exact ⟨T,by rw [<-aG.out];rfl,D00 N b0,i7,U⟩
theorem Qm3 (na ka D:Option Addr)(L nc h kc z E:Nat)(q p v:List UInt8)(t:Nd)(c:Nat)(aG:q.length=L)(bf:p.length=h)(bj:v.length=z)(bg:L<=1000000000)(bB:h<=1000000000)(hc:c=com q p)(hq:nibs q)(hp:nibs p)(aL:t.path.length<=1000000000)(h0:c=L->t.kd=1)(bb:c<h)(w:World)(ag:Q02 w (.slice na L nc) q)(ad:Q02 w (.slice ka h kc) p)(aM:Q02 w (.slice D z E) v)(ht:IsNv w t) :
  Calls Tryz.prog 157 #[.int .i64 (c:Int),.slice na L nc,nv t,.slice ka h kc,.slice D z E] w (Q24 (Q45 c q (clN t) p v) w):=by
 have ba:=Q30 q p;rw [<-hc] at ba;obtain ⟨a5,c5,r5,aP⟩:=Q05.from elU8 ag c (by omega) (c:Int) rfl;have cw:=fun (u:World) (hu:Below w.heap.size w u)=>Qgr a5 (L - c) c5 (q.drop c) (by rw [List.length_drop];omega) (by omega) (fun x N=>hq x (List.mem_of_mem_drop N)) t aL (fun e=>h0 (by have:=List.drop_eq_nil_iff.1 e;omega)) u (aP.below hu) (ht.kept hu);obtain ⟨VT,aD⟩:=Qe (nv t);simp only [<-aD] at cw |-;have bA:(c:Int)<=(L:Int):=by omega
 have bx:(c:Int)<=(h:Int):=by omega
 have bC:(h:Int)<=1000000000:=by omega
 have Cw:=Qhd cw;have aZ:=Qhd ag;have b2:=Qhd aM;have ai:c<p.length:=by omega
 obtain ⟨x,N⟩:=Qe (p[c]);have a1:x.toNat<16:=by rw [N];exact hp _ (List.getElem_mem _)
 have aI:Q45 c q (clN t) p v=Q0z (q.take c) (.mk 3 [] (Q6d (q.drop c) (clN t)).1 ((Q6d (q.drop c) (clN t)).2.set x.toNat (.mk 1 (p.drop (c+1)) v []))):=by unfold Q45;rw [if_neg (by omega),if_neg (by omega),getElem?_eq_getElem ai,Option.getD_some,<-N]
 obtain ⟨G,H,r6,aQ⟩:=Q05.from elU8 ad (c+1) (by omega) ((c:Int)+1) (by omega);obtain ⟨kb,ko,rfl,ae⟩:=Q02.at ad c ai;rw [<-N] at ae;have bD:IntKind.i64.wrap ((c:Int)+1)=(c:Int)+1:=by rw [IntWalk.i64_in _ (by omega)]
 have bF:((h:Int)==(c:Int))=false:=beq_eq_false_iff_ne.2 (by omega);have bz:(c:Int)<(h:Int):=by omega
 have bE:(x.toNat:Int)<16:=by omega
 have b1:=Qhd aI;have b0:=Qhd aG;have aU:=Qhd aQ;have ax:=Qhd a1;clear aI aG cw aD hc hq hp aL h0 ag ad aM ht aP bf bj aQ ai N bb a1;go_enter Tryz.func157,Tryz.ntmps157
 go_wp2_with (first
  |(go_at_call 168;(with_reducible refine (Cw.out _ (Below.refl _ _)).mono ?_);rintro e J ⟨ks,a,n,d,rfl,ay,af,bi,be,aF⟩;have T:=Qb7 ks (.slice a n d) af;have aa:=Qia ks a n d;have aY:=Qhd aF;have aw:=Qhd af;obtain ⟨V,a0⟩:=Qe (nvL ks++[Value.slice a n d]);rw [<-a0] at T aa;rw [<-a0];have ap:=Qhd a0;clear a0 aF af)
  |((with_reducible refine Qgs 17 ?_);refine Qsa 189 11 17 J.heap.size V Q23 (D01 J 189 Q2h) T (by rfl) aa (Qba J _) (le_refl _) ?_;intro w3 Z b3 _;obtain ⟨bJ,a1⟩:=Z.has 16 (by rw [T];omega);have bc:=Z.free 16;have az:=D00 ay b3))
 have k1:=fun u:Ext w3=>u.cell (show w3.cell? ⟨kb,ko+c,none⟩=some (.int .u8 (x.toNat:Int)) from by rw [az.cell (World.block_lt_of_cell? w _ ae)];exact ae);refine Q03 w3 13 (by kernel_rfl) (by kernel_rfl) (Below.refl _ _) ?_;simp only [take_succ_cons,take_zero,take_nil]
 iterate 13 (refine Q06 (by rfl) (fun K I=>?_);go_simp;first|(refine I _ ?_;clear I K)|(apply Exists.intro;refine ⟨fun _=>?_,I _ ?_⟩;exact r6 _ _;clear I K))
 refine Q0i ?_;intro M a2;change wpList _ _ _ [_] _ _
 try simp only [Act.put,Qzs]
 have O:=Z.kept a2;obtain ⟨xx,bl⟩:=O.has x.toNat (by rw [T];have:=ax.out;omega);have bd:=O.free x.toNat
 go_wp2_with fail
 have aA:=D00 az a2;have ab:V.set x.toNat (.iface 182 (.agg #[.slice G (h - (c+1)) H,.slice D z E]))=nvL (ks.set x.toNat (.mk 1 (.slice G (h - (c+1)) H) (p.drop (c+1)) (.slice D z E) v (.slice none 0 0) []))++[Value.slice a n d]:=by rw [ap.out];exact Qr5 ks aw.out x.toNat ax.out (.mk 1 (.slice G (h - (c+1)) H) (p.drop (c+1)) (.slice D z E) v (.slice none 0 0) []) _
 have W:M.grownBy (M.setCell ⟨J.heap.size,x.toNat,none⟩ (.iface 182 (.agg #[.slice G (h - (c+1)) H,.slice D z E]))) (some J.heap.size):=Q0s x.toNat _;have hs:=O.set x.toNat (.iface 182 (.agg #[.slice G (h - (c+1)) H,.slice D z E]));have S:Below w.heap.size w (M.setCell ⟨J.heap.size,x.toNat,none⟩ (.iface 182 (.agg #[.slice G (h - (c+1)) H,.slice D z E]))):=aA.grown W aA.size (fun k U=>by cases U;exact ay.size);have ah:∀ x∈V,∀ k,x≠.int .u8 k:=by rw [ap.out];exact Qib ks a n d
 have au:Hid (∀ k∈ks.set x.toNat (.mk 1 (.slice G (h - (c+1)) H) (p.drop (c+1)) (.slice D z E) v (.slice none 0 0) []),IsNv (M.setCell ⟨J.heap.size,x.toNat,none⟩ (.iface 182 (.agg #[.slice G (h - (c+1)) H,.slice D z E]))) k):=Qhd (fun k U=>by
  rcases List.mem_or_eq_of_mem_set U with U|rfl
  ·exact (((be k U).kept b3).kept a2).off O ah W
  exact .leaf _ _ _ _ _ _ (aU.out.below S) (b2.out.below S))
 have av:Hid (Q02 (M.setCell ⟨J.heap.size,x.toNat,none⟩ (.iface 182 (.agg #[.slice G (h - (c+1)) H,.slice D z E]))) (.slice a n d) (Q6d (q.drop c) (clN t)).1):=Qhd (Q02.off_v ((bi.below b3).below a2) O ah W);obtain ⟨y,hy⟩:=Qe (M.setCell ⟨J.heap.size,x.toNat,none⟩ (.iface 182 (.agg #[.slice G (h - (c+1)) H,.slice D z E])));rw [<-hy] at hs S au av;have HY:=Qhd hy;obtain ⟨FD,aC⟩:=Qe (V.set x.toNat (.iface 182 (.agg #[.slice G (h - (c+1)) H,.slice D z E])));rw [<-aC] at hs ab;have aq:=Qhd ab;have ar:Hid ((ks.set x.toNat (.mk 1 (.slice G (h - (c+1)) H) (p.drop (c+1)) (.slice D z E) v (.slice none 0 0) [])).length=16):=Qhd (by rw [length_set];exact aw.out);have HT:Hid (Q0z (q.take c) (.mk 3 [] (Q6d (q.drop c) (clN t)).1 (clNL (ks.set x.toNat (.mk 1 (.slice G (h - (c+1)) H) (p.drop (c+1)) (.slice D z E) v (.slice none 0 0) []))))=Q45 c q (clN t) p v):=Qhd (by rw [b1.out,Qd2,aY.out];rfl);clear ab aC hy W ah bl bd O bc a1 Z aa T k1;have b':FD.length=17:=by rw [aq.out];exact Qb7 _ _ ar.out
 have r1:=hs.all0;obtain ⟨a7,c7,r7,cb⟩:=Qhl na L nc q c b0.out bg (by omega) y (aZ.out.below S) (ks.set x.toNat (.mk 1 (.slice G (h - (c+1)) H) (p.drop (c+1)) (.slice D z E) v (.slice none 0 0) [])) ar.out a n d (Q6d (q.drop c) (clN t)).1 av.out au.out;rw [<-aq.out] at cb;have Cb:=Qhd cb;clear cb;rw [show M.setCell ⟨J.heap.size,x.toNat,none⟩ (.iface 182 (.agg #[.slice G (h - (c+1)) H,.slice D z E]))=y from HY.out.symm];refine Q03 y 6 (by kernel_rfl) (by kernel_rfl) (Below.refl _ _) ?_;simp only [take_succ_cons,take_zero,take_nil]
 iterate 3 (refine Q06 (by rfl) (fun K I=>?_);go_simp;first|(refine I _ ?_;clear I K)|(apply Exists.intro;refine ⟨fun _=>?_,I _ ?_⟩;exact r7 _ _;clear I K))
 (refine Q06 (by rfl) (fun K I=>?_);rw [if_pos (by rfl)];refine ⟨_,fun u=>Q16 _ (.tmp 11) (by rfl) _ _ (by rfl) Q23 b' (rangeAt.ext r1 u),I _ ?_⟩;clear I K;simp only [Act.put,Qzs])
 (refine Q06 (by rfl) (fun K I=>?_);go_simp;refine I _ ?_;clear I K)
 refine Q0e 42 (NvT (Q45 c q (clN t) p v)) rfl (of_decide_eq_true rfl) (NvT.mono _) (fun w6 bk=>?_) ?_
 ·simp only [Q18,filter_nil,Q00];refine ⟨rfl,?_⟩;go_simp;refine (Cb.out w6 bk).mono ?_;rintro e w7 ⟨t7,rfl,b7,i7,a8⟩;exact ⟨_,rfl,⟨t7,rfl,i7,a8.trans HT.out⟩,b7⟩
 refine Q0i ?_;intro u5 bh bH b9;change wpList _ _ _ [_] _ _;simp only [Act.put,Qzs];obtain ⟨t7,rfl,i7,a8⟩:=b9;obtain ⟨V7,ac⟩:=Qe (nv t7);rw [<-ac];have aW:=Qhd ac;clear ac
 go_wp2_with fail
 go_ret;exact ⟨t7,by rw [<-aW.out];rfl,D00 S bh,i7,a8⟩
theorem Qhm (H E J:Option Addr)(z I y G D K:Nat)(q p v:List UInt8)(t:Nd)(c:Nat)(V:q.length=z)(S:p.length=y)(a3:v.length=D)(T:z<=1000000000)(N:y<=1000000000)(M:c=com q p)(Z:nibs q)(W:nibs p)(a1:t.path.length<=1000000000)(L:c=z->t.kd=1)(a5:c<z∨c<y)(w:World)(U:Q02 w (.slice H z I) q)(O:Q02 w (.slice E y G) p)(a2:Q02 w (.slice J D K) v)(ht:IsNv w t) :
  Calls Tryz.prog 157 #[.int .i64 (c:Int),.slice H z I,nv t,.slice E y G,.slice J D K] w (Q24 (Q45 c q (clN t) p v) w):=by
 have a4:=Q30 q p;by_cases h:c<y
 ·exact Qm3 H E J z I y G D K q p v t c V S a3 T N M Z W a1 L h w U O a2 ht
 exact Qm2 H E J z I y G D K q p v t c V S a3 T N M Z W a1 L (by omega) w U O a2 ht
theorem Qup (W:World):(Instr.typeAssert .nilIface 143 189 true).run Tryz.prog W=.ok (.tuple #[.agg (List.replicate 16 Value.nilIface++[Value.slice none 0 0]).toArray,.bool false]) W:=by kernel_rfl
theorem Q37 {l:List Rt}{T:Pn}(h:Q1c l T)(B:Nat)(y:∀ r∈l,r.1.length<=B):T.pth.length<=B:=by
 cases h with
 | none=>exact Nat.zero_le _
 | leaf p v hv hp=>exact y (p,v) (mem_singleton.2 rfl)
 | road p l k hp hn h hk =>
  obtain ⟨r,z⟩:=List.exists_mem_of_ne_nil l (h.ne (by omega));have:=y _ (Q4d (p:=p) z);simp only [List.length_append] at this;show p.length<=B;omega
 | fork v ls ks hl hk h hm=>exact Nat.zero_le _
theorem Qlu (D H:Option Addr)(G E h I:Nat)(p v:List UInt8)(z:v.length=h)(w:World)(J:Q02 w (.slice D G E) p)(K:Q02 w (.slice H h I) v) :
  Calls Tryz.prog 105 #[.nilIface,.slice D G E,.slice H h I] w (Q24 (putQ nP p v) w):=by
 have M:=Qsz;have N:=Quf;have O:=Qup;have y:putQ nP p v=if v=[] then nP else .mk 1 p v []:=by simp [putQ,nP]
 by_cases hv:v=[]
 ·subst hv;simp only [length_nil] at z;subst z;rw [y,if_pos rfl];go_enter Tryz.func105,Tryz.ntmps105
  go_wp2_with fail
  go_ret;exact ⟨nilN,rfl,Below.refl _ _,IsNv.nil _,rfl⟩
 rw [y,if_neg hv];have L:((h:Int)==0)=false:=by
  rw [beq_eq_false_iff_ne];have:0<v.length:=length_pos_iff.2 hv;omega
 clear y hv z;go_enter Tryz.func105,Tryz.ntmps105
 go_wp2_with fail
 go_ret;exact ⟨.mk 1 (.slice D G E) p (.slice H h I) v (.slice none 0 0) [],rfl,Below.refl _ _,.leaf _ _ _ _ _ _ J K,rfl⟩
theorem Qgk:Agg Tryz.prog 182 2:=⟨_,Tryz.underlying182,rfl,by kernel_rfl⟩
theorem Qfn (E N ka va:Option Addr)(h G S O z kc W vc:Nat)(q u p v:List UInt8)(a2:q.length=h)(a1:p.length=z)(ag:v.length=W)(aL:h<=1000000000)(aK:z<=1000000000)(hq:nibs q)(hp:nibs p)(w:World)(af:Q02 w (.slice E h G) q)(am:Q02 w (.slice N S O) u)(ae:Q02 w (.slice ka z kc) p)(an:Q02 w (.slice va W vc) v) :
  Calls Tryz.prog 131 #[.agg #[.slice E h G,.slice N S O],.slice ka z kc,.slice va W vc] w (Q24 (putQ (.mk 1 q u []) p v) w):=by
 have aC:putQ (.mk 1 q u []) p v=if com q p=z/\com q p=h then (if v=[] then nP else .mk 1 p v []) else if v=[] then .mk 1 q u [] else Q45 (com q p) q (.mk 1 [] u []) p v:=by simp only [putQ,if_true,a2,a1]
 have az:=Q30 q p;obtain ⟨Z,a9⟩:=Qe (w.alloc (.cells #[.slice E h G,.slice N S O] 182));have hz:Blk 182 Z w.heap.size [.slice E h G,.slice N S O]:=by rw [a9];exact D01 w _ _
 have M:Below w.heap.size w Z:=by rw [a9];exact Qba _ _
 have cc:=fun x (J:Below w.heap.size w x)=>Q5l E ka G kc q p x (by rw [a2];exact af.below J) (by rw [a1];exact ae.below J);rw [a2,a1] at cc;have cp:=fun (x:World) (J:Below w.heap.size w x) (V:com q p<h∨com q p<z)=>Qhm E ka va h G z kc W vc q p v (.mk 1 (.slice none 0 0) [] (.slice N S O) u (.slice none 0 0) []) (com q p) a2 a1 ag aL aK rfl hq hp (show ([]:List UInt8).length<=1000000000 from by simp) (fun _=>rfl) V x (af.below J) (ae.below J) (an.below J) (.leaf _ _ _ _ _ _ (Q05.nil b8 1 _) (am.below J));have cn:=fun (x:World) (J:Below w.heap.size w x)=>Qlu ka va z kc W vc p v ag x (ae.below J) (an.below J);have Cn:=Qhd cn;have Cp:=Qhd cp;have Cc:=Qhd cc;have ac:=Qhd aC;have aI:=Qhd af;have aJ:=Qhd am;obtain ⟨C,hC⟩:=Qe (com q p);have m0:=(hz.cell 0).trans (show _=some (Value.slice E h G) from rfl);rw [a9] at m0;have L:=Qhd a9;have HC:=Qhd hC;rw [<-hC] at az;rw [a2,a1] at az;simp only [<-hC] at Cc Cp ac;clear a9 cc cp cn aC hC af am ae an a2 a1 hq hp;have z1:=Qsz;by_cases h1:C=z/\C=h
 ·obtain ⟨e1,e2⟩:=h1;have T:putQ (.mk 1 q u []) p v=putQ nP p v:=by rw [ac.out,if_pos ⟨e1,e2⟩];simp [putQ,nP]
  rw [T];have ah:((C:Int)==(z:Int))=true:=beq_iff_eq.2 (by omega);have aE:((C:Int)==(h:Int))=true:=beq_iff_eq.2 (by omega);clear T e1 e2;go_enter Tryz.func131,Tryz.ntmps131
  go_wp2_with (first
   |(go_at_call 91;(with_reducible refine (Cc.out _ (by rw [<-L.out];exact M)).mono ?_);rintro e w2 ⟨rfl,D,rfl⟩;rw [<-L.out];have I:Below w.heap.size w (Z.drewN D):=Q1m M D;have m1:=((hz.kept (Q1m (Below.refl _ _) D)).cell 0).trans (show _=some (Value.slice E h G) from rfl))
   |(go_at_call 105;(with_reducible refine (Cn.out _ I).mono ?_);rintro e w3 ⟨t,rfl,b3,it,ct⟩;obtain ⟨VT,K⟩:=Qe (nv t);rw [<-K];have a6:=Qhd K;clear K))
  go_ret;exact ⟨t,by rw [<-a6.out];rfl,D00 I b3,it,ct⟩
 have V:C<h∨C<z:=by omega
 by_cases hv:v=[]
 ·subst hv;simp only [length_nil] at ag;subst ag;have T:putQ (.mk 1 q u []) p []=.mk 1 q u []:=by rw [ac.out,if_neg h1,if_pos rfl]
  rw [T];have aF:¬ (((C:Int)==(z:Int))=true/\((C:Int)==(h:Int))=true):=by rw [beq_iff_eq,beq_iff_eq];omega
  clear T;have aA:∀ y:World,Below w.heap.size w y->Q24 (.mk 1 q u []) w (.returned (.iface 182 (.agg #[.slice E h G,.slice N S O]))) y:=fun y hy=>⟨.mk 1 (.slice E h G) q (.slice N S O) u (.slice none 0 0) [],rfl,hy,.leaf _ _ _ _ _ _ (aI.out.below hy) (aJ.out.below hy),rfl⟩;have ar:=Qhd aA;clear aA;rcases (by omega:¬ C=z∨(C=z/\¬ C=h)) with U|⟨U,h3⟩
  ·have ah:((C:Int)==(z:Int))=false:=beq_eq_false_iff_ne.2 (by omega);clear h1 U V aF;go_enter Tryz.func131,Tryz.ntmps131
   go_wp2_with (first
    |(go_at_call 91;(with_reducible refine (Cc.out _ (by rw [<-L.out];exact M)).mono ?_);rintro e w2 ⟨rfl,D,rfl⟩;rw [<-L.out];have I:Below w.heap.size w (Z.drewN D):=Q1m M D;have H:=hz.kept (Q1m (Below.refl _ _) D);have m1:=(H.cell 0).trans (show _=some (Value.slice E h G) from rfl);have rr:=H.all0)
    |((with_reducible refine Qgl 31 ?_);refine Qla 182 3 w.heap.size Qgk H (by rfl) ?_))
   go_ret;exact ar.out _ I
  have ah:((C:Int)==(z:Int))=true:=beq_iff_eq.2 (by omega);have aE:((C:Int)==(h:Int))=false:=beq_eq_false_iff_ne.2 (by omega);clear h1 U h3 V aF;go_enter Tryz.func131,Tryz.ntmps131
  go_wp2_with (first
   |(go_at_call 91;(with_reducible refine (Cc.out _ (by rw [<-L.out];exact M)).mono ?_);rintro e w2 ⟨rfl,D,rfl⟩;rw [<-L.out];have I:Below w.heap.size w (Z.drewN D):=Q1m M D;have H:=hz.kept (Q1m (Below.refl _ _) D);have m1:=(H.cell 0).trans (show _=some (Value.slice E h G) from rfl);have rr:=H.all0)
   |((with_reducible refine Qgl 31 ?_);refine Qla 182 3 w.heap.size Qgk H (by rfl) ?_))
  go_ret;exact ar.out _ I
 have T:putQ (.mk 1 q u []) p v=Q45 C q (.mk 1 [] u []) p v:=by rw [ac.out,if_neg h1,if_neg hv]
 rw [T];have aQ:((W:Int)==0)=false:=by
  rw [beq_eq_false_iff_ne];have:0<v.length:=length_pos_iff.2 hv;omega
 have CP:Hid (∀ x,Below w.heap.size w x->Calls Tryz.prog 157 #[.int .i64 (C:Int),.slice E h G,.iface 182 (.agg #[.slice none 0 0,.slice N S O]),.slice ka z kc,.slice va W vc] x (Q24 (Q45 C q (.mk 1 [] u []) p v) x)):=Qhd (fun x J=>Cp.out x J V);clear T hv;rcases (by omega:¬ C=z∨(C=z/\¬ C=h)) with U|⟨U,h3⟩
 ·have ah:((C:Int)==(z:Int))=false:=beq_eq_false_iff_ne.2 (by omega);clear h1 U V;go_enter Tryz.func131,Tryz.ntmps131
  go_wp2_with (first
   |(go_at_call 91;(with_reducible refine (Cc.out _ (by rw [<-L.out];exact M)).mono ?_);rintro e w2 ⟨rfl,D,rfl⟩;rw [<-L.out];have I:Below w.heap.size w (Z.drewN D):=Q1m M D;have H:=hz.kept (Q1m (Below.refl _ _) D);have m1:=(H.cell 0).trans (show _=some (Value.slice E h G) from rfl);have m2:=(H.cell 1).trans (show _=some (Value.slice N S O) from rfl))
   |(go_at_call 157;(with_reducible refine (CP.out _ I).mono ?_);rintro e w3 ⟨t,rfl,b3,it,ct⟩;obtain ⟨VT,K⟩:=Qe (nv t);rw [<-K];have a6:=Qhd K;clear K))
  go_ret;exact ⟨t,by rw [<-a6.out];rfl,D00 I b3,it,ct⟩
 have ah:((C:Int)==(z:Int))=true:=beq_iff_eq.2 (by omega);have aE:((C:Int)==(h:Int))=false:=beq_eq_false_iff_ne.2 (by omega);clear h1 U h3 V;go_enter Tryz.func131,Tryz.ntmps131
 go_wp2_with (first
  |(go_at_call 91;(with_reducible refine (Cc.out _ (by rw [<-L.out];exact M)).mono ?_);rintro e w2 ⟨rfl,D,rfl⟩;rw [<-L.out];have I:Below w.heap.size w (Z.drewN D):=Q1m M D;have H:=hz.kept (Q1m (Below.refl _ _) D);have m1:=(H.cell 0).trans (show _=some (Value.slice E h G) from rfl);have m2:=(H.cell 1).trans (show _=some (Value.slice N S O) from rfl))
  |(go_at_call 157;(with_reducible refine (CP.out _ I).mono ?_);rintro e w3 ⟨t,rfl,b3,it,ct⟩;obtain ⟨VT,K⟩:=Qe (nv t);rw [<-K];have a6:=Qhd K;clear K))
 go_ret;exact ⟨t,by rw [<-a6.out];rfl,D00 I b3,it,ct⟩
end Go.Proofs.YtbdmkfjgnjfjbaaGreat
