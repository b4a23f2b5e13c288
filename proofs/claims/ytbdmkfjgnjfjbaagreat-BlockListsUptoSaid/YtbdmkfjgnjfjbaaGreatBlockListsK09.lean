/- tree.putRoad. | tree.put at a leaf, a road, a fork. | tree.put, at every node that grows. | The reference's SameNode. | The reference's SameNode of any two node -/
import Derived.Test.YtbdmkfjgnjfjbaaGreatBlockListsK08
import Derived.Test.YtbdmkfjgnjfjbaaGreatBlockListsK06
set_option linter.unusedSimpArgs false
set_option linter.unusedVariables false
set_option maxHeartbeats 4000000
set_option maxRecDepth 100000
open List (getElem?_eq_getElem getElem?_map getElem_mem length_set mem_cons mem_cons_self take_nil take_succ_cons take_zero)
open Nat (le_refl)
namespace Go.Proofs.YtbdmkfjgnjfjbaaGreat
open Go.RowKit
def PutC (k:Nd):Prop:=∀ (ka va:Option Addr) (kn kc vn vc:Nat) (p v:List UInt8) (w:World),p.length=kn->v.length=vn->kn<=1000000->nibs p->IsNv w k->Q02 w (.slice ka kn kc) p->Q02 w (.slice va vn vc) v->Calls Tryz.prog 105 #[nv k,.slice ka kn kc,.slice va vn vc] w (Q24 (putQ (clN k) p v) w)
theorem Qoc:Agg Tryz.prog 185 2:=⟨_,Tryz.underlying185,rfl,by kernel_rfl⟩
theorem Qfm (E ka va:Option Addr)(z G J kc O vc:Nat)(q p v:List UInt8)(k:Nd)(ao:k.kd=3)(ih:PutC k)(N:q.length=z)(U:p.length=J)(a':v.length=O)(aB:z<=1000000000)(ba:J<=1000000)(hq:nibs q)(hp:nibs p)(aC:(putQ (clN k) (p.drop z) v).pth.length<=1000000000)(aA:k.path.length<=1000000000)(w:World)(Z:Q02 w (.slice E z G) q)(a9:Q02 w (.slice ka J kc) p)(ar:Q02 w (.slice va O vc) v)(hk:IsNv w k) :
  Calls Tryz.prog 132 #[.agg #[.slice E z G,nv k],.slice ka J kc,.slice va O vc] w (Q24 (putQ (.mk 2 q [] [clN k]) p v) w):=by
 have aD:putQ (.mk 2 q [] [clN k]) p v=if com q p=z then Q0z q (putQ (clN k) (p.drop z) v) else if v=[] then .mk 2 q [] [clN k] else Q45 (com q p) q (clN k) p v:=by
  simp only [putQ,N];rw [if_neg (by decide),if_pos trivial,Q4x];by_cases h:com q p=z
  ·rw [if_pos h,if_pos h,h];rfl
  rw [if_neg h,if_neg h];rfl
 have az:=Q30 q p;rw [N,U] at az;obtain ⟨X,hX⟩:=Qc5 ao;obtain ⟨L,a0⟩:=Qe (w.alloc (.cells #[.slice E z G,.iface 189 X] 185));have hz:Blk 185 L w.heap.size [.slice E z G,.iface 189 X]:=by rw [a0];exact D01 w _ _
 have T:Below w.heap.size w L:=by rw [a0];exact Qba _ _
 have cc:=fun x (hx:Below w.heap.size w x)=>Q5l E ka G kc q p x (by rw [N];exact Z.below hx) (by rw [U];exact a9.below hx);rw [N,U] at cc;have cp:=fun (x:World) (hx:Below w.heap.size w x) (hcp:com q p<z)=>Qhm E ka va z G J kc O vc q p v k (com q p) N U a' aB (by omega) rfl hq hp aA (fun e=>by omega) (.inl hcp) x (Z.below hx) (a9.below hx) (ar.below hx) (hk.kept hx);have cb:=fun (x:World) (hx:Below w.heap.size w x) (t:Nd) (ht:IsNv x t) (hc:clN t=putQ (clN k) (p.drop z) v)=>Q5o E z G q N aB t (by unfold Nd.path;rw [hc];exact aC) x (Z.below hx) ht;have aq:=fun (x:World) (hx:Below w.heap.size w x)=>show Q24 (.mk 2 q [] [clN k]) w (.returned (.iface 185 (.agg #[.slice E z G,nv k]))) x from ⟨.mk 2 (.slice E z G) q (.slice none 0 0) [] (.slice none 0 0) [k],rfl,hx,.road _ _ _ _ _ _ (Z.below hx) ao (hk.kept hx),rfl⟩;have ak:=fun (x:World) (hx:Below w.heap.size w x) (a5:Option Addr) (c5:Nat) (hr:Q02 x (.slice a5 (J - z) c5) (p.drop z))=>ih a5 va (J - z) c5 O vc (p.drop z) v x (by rw [List.length_drop,U]) a' (by omega) (fun y hy=>hp y (List.mem_of_mem_drop hy)) (hk.kept hx) hr (ar.below hx);rw [hX] at aq cp ak |-;have aO:=Qhd aq;have aK:=Qhd ak;have Cb:=Qhd cb;have Cp:=Qhd cp;have Cc:=Qhd cc;have a3:=Qhd aD;have aN:=Qhd a9;have m0:=(hz.cell 0).trans (show _=some (Value.slice E z G) from rfl);rw [a0] at m0;have S:=Qhd a0;obtain ⟨C,hC⟩:=Qe (com q p);rw [<-hC] at az;simp only [<-hC] at Cc Cp a3;clear a0 cc cp cb ak aq aD hC Z a9 ar N U hq hp hk ao ih aC aA hX;by_cases h1:C=z
 ·have I:putQ (.mk 2 q [] [clN k]) p v=Q0z q (putQ (clN k) (p.drop z) v):=by rw [a3.out,if_pos h1]
  rw [I];have aW:((C:Int)==(z:Int))=true:=beq_iff_eq.2 (by omega);obtain ⟨a5,c5,r5,aG⟩:=Q05.from elU8 aN.out z (by omega) (C:Int) (by omega);have aP:=Qhd aG;have b':(C:Int)<=(J:Int):=by omega
  clear I h1 aG;go_enter Tryz.func132,Tryz.ntmps132
  go_wp2_with (go_at_call 91;(with_reducible refine (Cc.out _ (by rw [<-S.out];exact T)).mono ?_);rintro e w2 ⟨rfl,D,rfl⟩;rw [<-S.out];have H:Below w.heap.size w (L.drewN D):=Q1m T D;have M:=hz.kept (Q1m (Below.refl _ _) D);have m1:=(M.cell 0).trans (show _=some (Value.slice E z G) from rfl))
  have k0:=fun u:Ext (L.drewN D)=>u.cell m1;have k1:=fun u:Ext (L.drewN D)=>u.cell ((M.cell 1).trans (show _=some (Value.iface 189 X) from rfl));refine Q03 (L.drewN D) 10 (by kernel_rfl) (by kernel_rfl) (Below.refl _ _) ?_;simp only [take_succ_cons,take_zero,take_nil]
  iterate 8 (refine Q06 (by rfl) (fun K hK=>?_);go_simp;first|(refine hK _ ?_;clear hK K)|(apply Exists.intro;refine ⟨fun _=>?_,hK _ ?_⟩;exact r5 _ _;clear hK K))
  refine Q0e 26 (NvT (putQ (clN k) (p.drop z) v)) rfl (of_decide_eq_true rfl) (NvT.mono _) (fun w6 aa=>?_) ?_
  ·simp only [Q18,List.filter_nil,Q00];refine ⟨rfl,?_⟩;go_simp;refine (aK.out w6 (D00 H aa) a5 c5 (aP.out.below (D00 H aa))).mono ?_;rintro e w7 ⟨V,rfl,b7,i7,W⟩;exact ⟨_,rfl,⟨V,rfl,i7,W⟩,b7⟩
  refine Q0e 27 (NvT (Q0z q (putQ (clN k) (p.drop z) v))) rfl (of_decide_eq_true rfl) (NvT.mono _) (fun w6 aa=>?_) ?_
  ·change Q00 w6 [(26,_)] _ _;rintro b4 ⟨t6,rfl,i6,c6⟩;simp only [Q00];refine ⟨rfl,?_⟩;go_simp;refine (Cb.out w6 (D00 H aa) t6 i6 c6).mono ?_;rintro e w7 ⟨V,rfl,b7,i7,W⟩;exact ⟨_,rfl,⟨V,rfl,i7,by rw [W,c6]⟩,b7⟩
  refine Q0i ?_;intro u5 aT b4 _ bf aS;change wpList _ _ _ [_] _ _;simp only [Act.put,Qzs];obtain ⟨V,rfl,i7,W⟩:=aS;obtain ⟨V7,am⟩:=Qe (nv V);rw [<-am];have aL:=Qhd am;clear am
  go_wp2_with fail
  go_ret;exact ⟨V,by rw [<-aL.out];rfl,D00 H aT,i7,W⟩
 have aW:((C:Int)==(z:Int))=false:=beq_eq_false_iff_ne.2 (by omega);by_cases hv:v=[]
 ·have I:putQ (.mk 2 q [] [clN k]) p v=.mk 2 q [] [clN k]:=by rw [a3.out,if_neg h1,if_pos hv]
  rw [I];have aU:O=0:=by rw [<-a',hv];rfl
  subst aU;clear I hv h1 a';go_enter Tryz.func132,Tryz.ntmps132
  go_wp2_with (first
   |(go_at_call 91;(with_reducible refine (Cc.out _ (by rw [<-S.out];exact T)).mono ?_);rintro e w2 ⟨rfl,D,rfl⟩;rw [<-S.out];have H:Below w.heap.size w (L.drewN D):=Q1m T D;have M:=hz.kept (Q1m (Below.refl _ _) D);have m1:=(M.cell 0).trans (show _=some (Value.slice E z G) from rfl))
   |((with_reducible refine Qgl 32 ?_);refine Qla 185 3 w.heap.size Qoc M (by rfl) ?_))
  go_ret;exact aO.out _ H
 have I:putQ (.mk 2 q [] [clN k]) p v=Q45 C q (clN k) p v:=by rw [a3.out,if_neg h1,if_neg hv]
 rw [I];have bb:((O:Int)==0)=false:=by
  rw [beq_eq_false_iff_ne];have:0<v.length:=List.length_pos_iff.2 hv;omega
 have CP:=Qhd (fun (x:World) (hx:Below w.heap.size w x)=>Cp.out x hx (by omega));clear I hv h1;go_enter Tryz.func132,Tryz.ntmps132
 go_wp2_with (first
  |(go_at_call 91;(with_reducible refine (Cc.out _ (by rw [<-S.out];exact T)).mono ?_);rintro e w2 ⟨rfl,D,rfl⟩;rw [<-S.out];have H:Below w.heap.size w (L.drewN D):=Q1m T D;have M:=hz.kept (Q1m (Below.refl _ _) D);have m1:=(M.cell 0).trans (show _=some (Value.slice E z G) from rfl);have m2:=(M.cell 1).trans (show _=some (Value.iface 189 X) from rfl))
  |(go_at_call 157;(with_reducible refine (CP.out _ H).mono ?_);rintro e w3 ⟨t,rfl,b3,it,ct⟩;obtain ⟨VT,an⟩:=Qe (nv t);rw [<-an];have aM:=Qhd an;clear an))
 go_ret;exact ⟨t,by rw [<-aM.out];rfl,D00 H b3,it,ct⟩
theorem Qpl (E H O T:Option Addr)(h G J I D S K U:Nat)(q u p v:List UInt8)(a2:q.length=h)(a0:p.length=D)(a7:v.length=K)(ad:h<=1000000000)(ac:D<=1000000000)(hq:nibs q)(hp:nibs p)(w:World)(a1:Q02 w (.slice E h G) q)(a5:Q02 w (.slice H J I) u)(Z:Q02 w (.slice O D S) p)(a6:Q02 w (.slice T K U) v) :
  Calls Tryz.prog 105 #[.iface 182 (.agg #[.slice E h G,.slice H J I]),.slice O D S,.slice T K U] w (Q24 (putQ (.mk 1 q u []) p v) w):=by
 have z1:=Qsy;obtain ⟨V,z⟩:=Qe (w.alloc (.cells #[.slice E h G,.slice H J I] 182));have N:Blk 182 V w.heap.size [.slice E h G,.slice H J I]:=by rw [z];exact D01 w _ _
 have y:Below w.heap.size w V:=by rw [z];exact Qba _ _
 have L:=Qfn E H O T h G J I D S K U q u p v a2 a0 a7 ad ac hq hp V (a1.below y) (a5.below y) (Z.below y) (a6.below y);obtain ⟨R,W⟩:=Qe (putQ (.mk 1 q u []) p v);rw [<-W] at L |-;have Cl:=Qhd L;have a':=Qhd z;have r1:=N.all0;rw [z] at N r1;clear z L W a1 a5 Z a6 a2 a0 a7 hq hp;go_enter Tryz.func105,Tryz.ntmps105
 go_wp2_with (first
  |((with_reducible refine Qgl 14 ?_);refine Qla 182 7 w.heap.size Qgk N (by rfl) ?_)
  |(go_at_call 131;rw [<-a'.out];(with_reducible refine Cl.out.mono ?_);rintro e w3 ⟨t,rfl,b3,it,ct⟩;obtain ⟨VT,M⟩:=Qe (nv t);rw [<-M];have a9:=Qhd M;clear M))
 go_ret;exact ⟨t,by rw [<-a9.out];rfl,D00 y b3,it,ct⟩
theorem Qpk (E M O:Option Addr)(h G D N I S:Nat)(q p v:List UInt8)(k:Nd)(K:k.kd=3)(ih:PutC k)(a3:q.length=h)(a0:p.length=D)(a8:v.length=I)(af:h<=1000000000)(ae:D<=1000000)(hq:nibs q)(hp:nibs p)(a5:(putQ (clN k) (p.drop h) v).pth.length<=1000000000)(a1:k.path.length<=1000000000)(w:World)(a2:Q02 w (.slice E h G) q)(Z:Q02 w (.slice M D N) p)(a7:Q02 w (.slice O I S) v)(W:IsNv w k) :
  Calls Tryz.prog 105 #[.iface 185 (.agg #[.slice E h G,nv k]),.slice M D N,.slice O I S] w (Q24 (putQ (.mk 2 q [] [clN k]) p v) w):=by
 have z1:=Que;have z2:=Qud;obtain ⟨X,V⟩:=Qc5 K;obtain ⟨T,z⟩:=Qe (w.alloc (.cells #[.slice E h G,.iface 189 X] 185));have L:Blk 185 T w.heap.size [.slice E h G,.iface 189 X]:=by rw [z];exact D01 w _ _
 have y:Below w.heap.size w T:=by rw [z];exact Qba _ _
 have H:=Qfm E M O h G D N I S q p v k K ih a3 a0 a8 af ae hq hp a5 a1 T (a2.below y) (Z.below y) (a7.below y) (W.kept y);obtain ⟨R,U⟩:=Qe (putQ (.mk 2 q [] [clN k]) p v);rw [<-U] at H |-;rw [V] at H |-;have Cl:=Qhd H;have ab:=Qhd z;have r1:=L.all0;rw [z] at L r1;clear z H U a2 Z a7 a3 a0 a8 hq hp a5 a1 ih W K V;go_enter Tryz.func105,Tryz.ntmps105
 go_wp2_with (first
  |((with_reducible refine Qgl 21 ?_);refine Qla 185 8 w.heap.size Qoc L (by rfl) ?_)
  |(go_at_call 132;rw [<-ab.out];(with_reducible refine Cl.out.mono ?_);rintro e w3 ⟨t,rfl,b3,it,ct⟩;obtain ⟨VT,J⟩:=Qe (nv t);rw [<-J];have aa:=Qhd J;clear J))
 go_ret;exact ⟨t,by rw [<-aa.out];rfl,D00 y b3,it,ct⟩
theorem Qdy (ka E y:Option Addr)(kc H G h z:Nat)(u v:List UInt8)(ks:List Nd)(K:ks.length=16)(a1:v.length=h)(W:∀ k∈ks,k.path.length<=1000000000)(w:World)(a0:Q02 w (.slice y h z) v)(J:∀ k∈ks,IsNv w k) :
  Calls Tryz.prog 105 #[.iface 189 (.agg (nvL ks++[Value.slice E H G]).toArray),.slice ka 0 kc,.slice y h z] w (Q24 (Q7u v (clNL ks)) w):=by
 have z1:=Qsx;have z2:=Qsw;have z3:=Qsv;have I:=Qb7 ks (.slice E H G) K;have T:=Qia ks E H G;have V:=Qib ks E H G;have Z:=Qnr ks K (.slice E H G) (.slice y h z);have D:=fun (x:World) (hx:Below w.heap.size w x)=>Qh1 y h z v ks x a1 K (a0.below hx) (fun k a6=>(J k a6).kept hx) W;rw [<-Z] at D;obtain ⟨N,U⟩:=Qe (nvL ks++[Value.slice E H G]);rw [<-U] at I T V D |-;have a7:(N.set 16 (.slice y h z)).length=17:=by rw [length_set];exact I
 have Ct:=Qhd D;have bA:Below w.heap.size w (w.alloc (.cells Q2h.toArray 189)):=Qba _ _;clear D Z U a0 J K a1 W V;go_enter Tryz.func105,Tryz.ntmps105
 go_wp2_with (first
  |((with_reducible refine Qgs 27 ?_);refine Qsa 189 9 27 w.heap.size N Q23 (D01 w 189 Q2h) I (by rfl) T bA (le_refl _) ?_;intro w3 L O _;obtain ⟨ag,ae⟩:=L.has 16 (by rw [I];omega);have ad:=L.free 16;have hs:=L.set 16 (.slice y h z);have S:Below w.heap.size w (w3.setCell ⟨w.heap.size,16,none⟩ (.slice y h z)):=O.grown (Q0s 16 _) O.size (fun k J=>by cases J;exact le_refl _))
  |((with_reducible refine Qgl 48 ?_);refine Qla 189 9 w.heap.size Q23 hs a7 ?_)
  |(go_at_call 133;(with_reducible refine (Ct.out _ S).mono ?_);rintro e w4 ⟨t,rfl,b4,it,D⟩;obtain ⟨VT,M⟩:=Qe (nv t);rw [<-M];have a3:=Qhd M;clear M))
 go_ret;exact ⟨t,by rw [<-a3.out];rfl,D00 S b4,it,D⟩
theorem Qbw (ka D va:Option Addr)(H kc z E vn vc:Nat)(u v:List UInt8)(x:UInt8)(p:List UInt8)(ks:List Nd)(O:ks.length=16)(ah:(x::p).length=H)(bg:H<=1000000)(aH:v.length=vn)(aF:u.length=z)(hp:nibs (x::p))(ih:∀ k∈ks,PutC k)(aA:∀ k∈ks,k.path.length<=1000000000)(a2:(putQ ((clNL ks)[x.toNat]?.getD nP) p v).pth.length<=1000000000)(w:World)(aE:Q02 w (.slice D z E) u)(ag:Q02 w (.slice ka H kc) (x::p))(aG:Q02 w (.slice va vn vc) v)(M:∀ k∈ks,IsNv w k) :
  Calls Tryz.prog 105 #[.iface 189 (.agg (nvL ks++[Value.slice D z E]).toArray),.slice ka H kc,.slice va vn vc] w (Q24 (Q7u u (Qbx (clNL ks) x.toNat p v)) w):=by
 have z1:=Qsx;have z2:=Qsw;have z3:=Qsv;have hx:x.toNat<16:=hp x mem_cons_self;have U:=Qb7 ks (.slice D z E) O;have au:=Qia ks D z E;have ai:=Qib ks D z E;have aD:=fun t=>Qr5 ks O x.toNat hx t (.slice D z E);have a0:ks[x.toNat]?=some (ks[x.toNat]'(by omega)):=getElem?_eq_getElem (by omega);have a1:=getElem_mem (l:=ks) (n:=x.toNat) (by omega);obtain ⟨K,G⟩:=Qe (ks[x.toNat]'(by omega));rw [<-G] at a0 a1;have ae:(clNL ks)[x.toNat]?=some (clN K):=by rw [Q1x,getElem?_map,a0];rfl
 rw [ae] at a2;simp only [Option.getD_some] at a2;have hQ:Qbx (clNL ks) x.toNat p v=(clNL ks).set x.toNat (putQ (clN K) p v):=by rw [Q4x,ae];rfl
 rw [hQ];have W:(nvL ks++[Value.slice D z E])[x.toNat]?=some (nv K):=by
  rw [List.getElem?_append_left (by rw [Q1s];simpa [O] using hx),Q1s,getElem?_map,a0];rfl
 have b1:1<=H:=by rw [<-ah];simp
 have bi:((H:Int)==0)=false:=by rw [beq_eq_false_iff_ne];omega
 have bh:0<H:=by omega
 have bk:(x.toNat:Int)<16:=by omega
 obtain ⟨bq,oq,rfl,af⟩:=Q02.at ag 0 (by simp);simp only [List.getElem_cons_zero] at af;obtain ⟨a5,c5,ba,ak⟩:=Q05.from elU8 ag 1 b1 1 rfl;simp only [List.drop_succ_cons,List.drop_zero] at ak;have aB:p.length=H - 1:=by rw [<-ah];simp
 have S:=fun (u:World) (hu:Below w.heap.size w u)=>ih K a1 a5 va (H - 1) c5 vn vc p v u aB aH (by omega) (fun y J=>hp y (List.mem_cons_of_mem _ J)) ((M K a1).kept hu) (ak.below hu) (aG.below hu);have T:=fun (t:Nd) (htc:clN t=putQ (clN K) p v) (y:World) (J:Q02 y (.slice D z E) u) (hky:∀ k∈ks.set x.toNat t,IsNv y k)=>Qh1 D z E u (ks.set x.toNat t) y aF (by rw [length_set];exact O) J hky (fun k N=>by
  rcases List.mem_or_eq_of_mem_set N with h|rfl
  ·exact aA k h
  unfold Nd.path;rw [htc];exact a2)
 have ay:=fun (t:Nd) (y:World) (hold:∀ k∈ks,IsNv y k) (ht:IsNv y t)=>show ∀ k∈ks.set x.toNat t,IsNv y k from fun k N=>by
  rcases List.mem_or_eq_of_mem_set N with h|rfl
  ·exact hold k h
  exact ht
 have L:=fun (t:Nd) (htc:clN t=putQ (clN K) p v) (y:World) (J:Q02 y (.slice D z E) u) (hky:∀ k∈ks.set x.toNat t,IsNv y k)=>(by
  have:=T t htc y J hky;rw [<-aD t,Qd2,htc] at this;exact this:Calls Tryz.prog 133 #[.agg ((nvL ks++[Value.slice D z E]).set x.toNat (nv t)).toArray] y (Q24 (Q7u u ((clNL ks).set x.toNat (putQ (clN K) p v))) y))
 have bA:Below w.heap.size w (w.alloc (.cells Q2h.toArray 189)):=Qba _ _;obtain ⟨FC,aa⟩:=Qe (nvL ks++[Value.slice D z E]);rw [<-aa] at U au ai W |-;simp only [<-aa] at L;obtain ⟨V,hV⟩:=Qe (nv K);rw [<-hV] at W;simp only [<-hV] at S;obtain ⟨R,hR⟩:=Qe (Q7u u ((clNL ks).set x.toNat (putQ (clN K) p v)));simp only [<-hR] at L |-;obtain ⟨Q,aw⟩:=Qe (putQ (clN K) p v);simp only [<-aw] at L S;have Ct:=Qhd L;have Cg:=Qhd S;have aR:=Qhd ay;have Hk:=Qhd M;have aT:=Qhd aE;have aO:=Qhd W;have aS:=Qhd ai;clear T L S ay M aE W ai aD aa hV hR aw hQ ae a0 G a1 a2 aA ih hp aH O ag aG ak aB aF ah;go_enter Tryz.func105,Tryz.ntmps105
 go_wp2_with ((with_reducible refine Qgs 27 ?_);refine Qsa 189 9 27 w.heap.size FC Q23 (D01 w 189 Q2h) U (by rfl) au bA (le_refl _) ?_;intro w4 h4 b4 g4)
 have k1:=fun u:Ext w4=>u.cell (show w4.cell? ⟨bq,oq,none⟩=some (.int .u8 (x.toNat:Int)) from by rw [b4.cell (World.block_lt_of_cell? w _ (by simpa using af))];simpa using af);have k2:=fun u:Ext w4=>u.cell ((h4.cell x.toNat).trans aO.out);refine Q03 w4 15 (by kernel_rfl) (by kernel_rfl) (Below.refl _ _) ?_;simp only [take_succ_cons,take_zero,take_nil]
 iterate 12 (refine Q06 (by rfl) (fun K G=>?_);go_simp;first|(refine G _ ?_;clear G K)|(apply Exists.intro;refine ⟨fun _=>?_,G _ ?_⟩;exact ba _;clear G K))
 refine Q0e 45 (NvT Q) rfl (of_decide_eq_true rfl) (NvT.mono _) (fun w6 b2=>?_) ?_
 ·simp only [Q18,List.filter_nil,Q00];refine ⟨rfl,?_⟩;go_simp;refine (Cg.out w6 (D00 b4 b2)).mono ?_;rintro e w7 ⟨I,rfl,b7,i7,c7⟩;exact ⟨_,rfl,⟨I,rfl,i7,c7⟩,b7⟩
 iterate 2 (refine Q06 (by rfl) (fun K G=>?_);go_simp;refine G _ ?_;clear G K)
 refine Q0i ?_;intro y J bm b0;change wpList _ _ _ [_] _ _;simp only [Act.put,Qzs];obtain ⟨I,rfl,i7,c7⟩:=b0;have ap:=D00 b4 J;have a3:=h4.kept J;have hs:=a3.set x.toNat (nv I);have gc:y.grownBy (y.setCell ⟨w.heap.size,x.toNat,none⟩ (nv I)) (some w.heap.size):=Q0s x.toNat _;have Z:Below w.heap.size w (y.setCell ⟨w.heap.size,x.toNat,none⟩ (nv I)):=ap.grown gc ap.size (fun k M=>by cases M;exact le_refl _);have az:(FC.set x.toNat (nv I)).length=17:=by rw [length_set];exact U
 obtain ⟨xc,bj⟩:=a3.has x.toNat (by rw [U];omega);have bf:=a3.free x.toNat;have cl:=Ct.out I c7 _ (aT.out.below Z) (aR.out I _ (fun k N=>(Hk.out k N).kept Z) (i7.off a3 aS.out gc));have Cl:=Qhd cl;clear cl i7 gc k1 k2;rcases Q6m I with ac|⟨ty,X7,ac⟩
 all_goals
  rw [ac] at hs Z az Cl |-;clear ac
  go_wp2_with (first
   |((with_reducible refine Qgl 48 ?_);refine Qla 189 9 w.heap.size Q23 hs az ?_)
   |(go_at_call 133;(with_reducible refine Cl.out.mono ?_);rintro e w5 ⟨t,rfl,b5,it,T⟩;obtain ⟨VT,ad⟩:=Qe (nv t);rw [<-ad];have aP:=Qhd ad;clear ad))
  go_ret;exact ⟨t,by rw [<-aP.out];rfl,D00 Z b5,it,T⟩
theorem Qhf {l:List Rt}{p v:List UInt8}{r:Rt}(h:r∈Q1k l p v):r∈l∨r=(p,v):=by
 unfold Q1k at h;split at h
 ·exact .inl ((List.mem_filter.1 h).1)
 have y:∀ (l:List Rt),r∈insR (p,v) l->r=(p,v)∨r∈l:=by
  intro l;induction l with
  | nil=>intro h;exact .inl (List.mem_singleton.1 h)
  | cons s l ih =>
   intro h;unfold insR at h;split at h
   ·rcases mem_cons.1 h with h|h
    ·exact .inl h
    exact .inr h
   rcases mem_cons.1 h with h|h
   ·exact .inr (h▸mem_cons_self)
   rcases ih h with h|h
   ·exact .inl h
   exact .inr (List.mem_cons_of_mem _ h)
 rcases y _ h with h|h
 ·exact .inr h
 exact .inl ((List.mem_filter.1 h).1)
theorem Qhk {l:List Rt}{t:Pn}(h:Q1c l t)(B:Nat)(z:∀ r∈l,r.1.length<=B)(p v:List UInt8)(D:nibs p)(E:p.length<=B):(putQ t p v).pth.length<=B :=
 Q37 (Qdx h p v D) B (fun r y=>by
  rcases Qhf y with y|rfl
  ·exact z r y
  exact E)
theorem Qlv:∀ (n:Nat)(t:Nd),SizeOf.sizeOf t<=n->∀ l,Q1c l (clN t)->(∀ r∈l,r.1.length<=1000000)->PutC t
 | 0,.mk kd pv p vv v kv ks,h=>by simp at h
 | n+1,.mk kd pv p vv v kv ks,h=>by
  intro l D hB V va kn W vn vc Z H w I U ag J hI a' S;have aj:∀ k∈ks,∀ l,Q1c l (clN k)->(∀ r∈l,r.1.length<=1000000)->PutC k:=by
   intro k E;refine Qlv n k ?_;have:=List.sizeOf_lt_of_mem E;simp only [Nd.mk.sizeOf_spec] at h;omega
  have ap:=D;cases hI with
  | none pv p vv v kv ks=>exact Qlu V va kn W vn vc Z H U w a' S
  | leaf pv p vv v kv ks hp hv =>
   obtain ⟨pa,pc,rfl,_,_⟩:=hp.form;obtain ⟨K,L,rfl,_,_⟩:=hv.form;rw [show clN (.mk 1 (.slice pa p.length pc) p (.slice K v.length L) v kv ks)=.mk 1 p v [] from rfl] at D;have O:=Q37 D 1000000 hB;have hq:nibs p:=by
    generalize hT:(Pn.mk 1 p v [])=T at D;cases D with
    | none=>cases hT
    | leaf p2 v2 hv2 hp2=>cases hT;exact hp2
    | road=>cases hT
    | fork=>cases hT
   have au:p.length<=1000000:=O;exact Qpl pa K V va _ pc _ L kn W vn vc p v Z H rfl I U (by omega) (by omega) hq J w hp hv a' S
  | road pv p vv v kv k hp hk3 E =>
   obtain ⟨pa,pc,rfl,_,_⟩:=hp.form;rw [show clN (.mk 2 (.slice pa p.length pc) p vv v kv [k])=.mk 2 p [] [clN k] from rfl] at D |-;have O:p.length<=1000000:=Q37 D 1000000 hB;obtain ⟨z,rfl,hq,N⟩:∃ z,l=pre p z/\nibs p/\Q1c z (clN k):=by
    generalize hT:(Pn.mk 2 p [] [clN k])=T at D;cases D with
    | none=>cases hT
    | leaf=>cases hT
    | road p2 l2 k2 hp0 hn M a9=>cases hT;exact ⟨l2,rfl,hn,M⟩
    | fork=>cases hT
   have ab:∀ r∈z,r.1.length<=1000000:=fun r hr=>by
    have:=hB _ (Q4d (p:=p) hr);simp only [List.length_append] at this;omega
   have ar:k.path.length<=1000000:=Q37 N 1000000 ab;have ao:=Qhk N 1000000 ab (Z.drop p.length) H (fun y hy=>J y (List.mem_of_mem_drop hy)) (by rw [List.length_drop];omega);exact Qpk pa V va _ pc kn W vn vc p Z H k hk3 (aj k (List.mem_singleton.2 rfl) z N ab) rfl I U (by omega) ag hq J (by omega) (by omega) w hp a' S E
  | fork pv p vv v kv ks hv hl E =>
   obtain ⟨K,L,rfl,_,_⟩:=hv.form;rw [show clN (.mk 3 pv p (.slice K v.length L) v kv ks)=.mk 3 [] v (clNL ks) from rfl] at D |-;have ah:∀ (i:Nat) (k:Nd),ks[i]?=some k->∃ z,Q1c z (clN k)/\∀ r∈z,r.1.length<=1000000:=by
    intro i k hi;generalize hT:(Pn.mk 3 [] v (clNL ks))=T at D;cases D with
    | none=>cases hT
    | leaf=>cases hT
    | road=>cases hT
    | fork v2 ls ks2 hl2 a9 M hm =>
     cases hT;have aq:i<16:=by have:=(List.getElem?_eq_some_iff.1 hi).1;omega
     have G:ls[i]?=some (ls[i]'(by omega)):=getElem?_eq_getElem _;refine ⟨ls[i]'(by omega),M i _ _ G (by rw [Q1x,getElem?_map,hi];rfl),fun r hr=>?_⟩;have:=hB _ (List.mem_append_right _ (Q4e (i:=0) G hr));simp only [List.length_cons] at this;omega
   have ai:∀ k∈ks,∃ z,Q1c z (clN k)/\∀ r∈z,r.1.length<=1000000:=fun k E=>by
    obtain ⟨i,hi⟩:=List.getElem?_of_mem E;exact ah i k hi
   have O:∀ k∈ks,k.path.length<=1000000000:=fun k E=>by
    obtain ⟨z,G,M⟩:=ai k E;have:k.path.length<=1000000:=Q37 G 1000000 M;omega
   cases Z with
   | nil =>
    simp only [List.length_nil] at I;subst I;exact Qdy V K va W _ L vn vc v H ks hl U O w S E
   | cons x q =>
    have hx:x.toNat<16:=J x mem_cons_self;have G:ks[x.toNat]?=some (ks[x.toNat]'(by omega)):=getElem?_eq_getElem _;obtain ⟨z,N,am⟩:=ah _ _ G;have ao:=Qhk N 1000000 am q H (fun y hy=>J y (List.mem_cons_of_mem _ hy)) (by simp only [List.length_cons] at I;omega);refine Qbw V K va kn W _ L vn vc v H x q ks hl I ag U rfl J (fun k a9=>?_) O ?_ w hv a' S E
    ·obtain ⟨l2,a1,a2⟩:=ai k a9;exact aj k a9 l2 a1 a2
    rw [Q1x,getElem?_map,G];simp only [Option.map_some,Option.getD_some];omega
def SmC (N:Nat)(k:Nd):Prop:=∀ (s:Nd) (u:World),IsNd u k->IsNd u s->Q15 k<=N->Calls Tryz.prog 119 #[.agg (Q04 k).toArray,.agg (Q04 s).toArray] u fun e w'=>e=.returned (.bool (Q20 k (erN s)))/\Below u.heap.size u w'
theorem Qjc:∀ (ks ks':List Nd)(i:Nat)(z:i<ks.length)(D:i<ks'.length),(∀ j (hj:j<i),Q20 (ks[j]'(by omega)) (erN (ks'[j]'(by omega)))=true)->Q20 ks[i] (erN ks'[i])=false->Q3o ks (erNL ks')=false:=by
 intro ks ks' i z D _ y;rw [<-Bool.not_eq_true,Q44];rintro ⟨_,h⟩;rw [h i ks[i] (erN ks'[i]) (getElem?_eq_getElem z) (by rw [Q2u,getElem?_map,getElem?_eq_getElem D];rfl)] at y;simp at y
theorem Qlg (ks ks':List Nd)(h:ks.length=ks'.length)(D:∀ j (hj:j<ks.length),Q20 ks[j] (erN (ks'[j]'(by omega)))=true):Q3o ks (erNL ks')=true:=by
 rw [Q44];refine ⟨by rw [Q2u,List.length_map,h],fun i k G E y=>?_⟩;obtain ⟨z,rfl⟩:=List.getElem?_eq_some_iff.1 E;rw [Q2u,getElem?_map,getElem?_eq_getElem (by omega)] at y;simp only [Option.map_some,Option.some.injEq] at y;rw [<-y];exact D i z
theorem Qg7 (a b:Value)(w:World):(callFunc 119 #[a,b]).run Tryz.prog w=.ok (.enter 119 #[a,b]) w:=by
 have hf:=Tryz.func119;have h1 : Tryz.f119.name ≠ "runtime.NumGoroutine" := by decide
 have hb:Tryz.f119.body=some _:=rfl;simp [callFunc,hf,h1,hb]
theorem Qsn (N:Nat)(ka aC:Option Addr)(z kc S aE:Nat)(ks ks':List Nd)(a':ks.length=z)(aa:ks'.length=S)(hN:Q0v ks<=N)(hs:z<=100000000000)(w:World)(hk:Q05 Q04 4 w (.slice ka z kc) ks)(aP:Q05 Q04 4 w (.slice aC S aE) ks')
  (hks:∀ k∈ks,IsNd w k) (hks':∀ k∈ks',IsNd w k) (ih:∀ k∈ks,SmC N k) :
  Calls Tryz.prog 147 #[.slice ka z kc,.slice aC S aE,.func (.func 119) #[] #[]] w fun e w'=>e=.returned (.bool (Q3o ks (erNL ks')))/\Below w.heap.size w w':=by
 obtain ⟨R,M⟩:=Qe (Q3o ks (erNL ks'));rw [<-M];have aS:=Qg7;have HR:=Qhd M;have T:=Qhd a';have V:=Qhd aa;have HN:=Qhd hN;by_cases hl:z=S
 ·subst hl;clear M a' aa hN;go_enter Tryz.func147,Tryz.ntmps147
  go_wp2_with fail
  go_loopw [17] (fun ix wr=>∃ i:Nat,i<=z/\ix=.int .i64 (i:Int)/\Below w.heap.size w wr/\∀ j (h1:j<ks.length) (h2:j<ks'.length),j<i->Q20 ks[j] (erN ks'[j])=true) (fun ix _=>z - (intOf ix).toNat)
  case atStart=>exact ⟨0,by omega,rfl,Below.refl _ _,fun j _ _ h=>by omega⟩
  case round =>
   obtain ⟨i,aT,rfl,D,O⟩:=hrel;by_cases hlt:i<z
   ·have aU:(i:Int)<(z:Int):=by omega
    have H:i<ks.length:=by rw [T.out];exact hlt
    have U:i<ks'.length:=by rw [V.out];exact hlt
    obtain ⟨b1,o1,rfl,r1⟩:=Q05.range Q0b (hk.below D) i H;obtain ⟨b2,o2,rfl,r2⟩:=Q05.range Q0b (aP.below D) i U;have W:=(hks _ (getElem_mem H)).kept D;have Z:=(hks' _ (getElem_mem U)).kept D;have aM:=Q1u (getElem_mem H);have hst:=Qjc ks ks' i H U (fun j I=>O j (by omega) (by omega) I);have ab:Q20 ks[i] (erN ks'[i])=true->∀ j (h1:j<ks.length) (h2:j<ks'.length),j<i+1->Q20 ks[j] (erN ks'[j])=true:=by
     intro he j h1 h2 I;by_cases hji:j=i
     ·subst hji;exact he
     exact O j h1 h2 (by omega)
    have c1:=fun (u:World) (hu:Below wr.heap.size wr u)=>ih _ (getElem_mem H) ks'[i] u (W.kept hu) (Z.kept hu) (by have:=HN.out;omega);obtain ⟨q,hq⟩:=Qe (Q20 ks[i] (erN ks'[i]));simp only [<-hq] at c1 hst ab;have l1:=Q0b ks[i];have l2:=Q0b ks'[i];have n1:=W.one;have n2:=Z.one;obtain ⟨K1,ax⟩:=Qe (Q04 ks[i]);obtain ⟨K2,ay⟩:=Qe (Q04 ks'[i]);simp only [<-ax] at c1 l1 n1 r1;simp only [<-ay] at c1 l2 n2 r2;have C1:=Qhd c1;have E:=Qhd l1;have G:=Qhd l2;have N1:=Qhd n1;have N2:=Qhd n2;have R1:=Qhd r1;have R2:=Qhd r2;have aK:=Qhd hst;have aI:=Qhd ab;have bA:Below wr.heap.size wr (wr.alloc (.cells #[.int .i64 0,.slice none 0 0,.slice none 0 0,.slice none 0 0] 70)):=Qba _ _;clear W Z aM hst ab c1 hq l1 l2 n1 n2 ax ay r1 r2 O H U hlt;cases q with
    | true =>
     have az:=aI.out rfl;have aJ:=Qhd az;clear az
     go_wp2_with (first
      |(refine Qlw 70 20 b1 (o1+i*4) Q07 E.out R1.out ?_)
      |((with_reducible refine Qgs 21 ?_);refine Qsa 70 8 21 wr.heap.size K1 Q07 (D01 wr 70 [.int .i64 0,.slice none 0 0,.slice none 0 0,.slice none 0 0]) E.out (by rfl) N1.out bA (le_refl _) ?_;intro y h8 J _;have aj:=World.rangeAt.below R2.out J;have bB:Below y.heap.size y (y.alloc (.cells #[.int .i64 0,.slice none 0 0,.slice none 0 0,.slice none 0 0] 70)):=Qba _ _)
      |(refine Qlw 70 24 b2 (o2+i*4) Q07 G.out aj ?_)
      |((with_reducible refine Qgs 25 ?_);refine Qsa 70 9 25 y.heap.size K2 Q07 (D01 y 70 [.int .i64 0,.slice none 0 0,.slice none 0 0,.slice none 0 0]) G.out (by rfl) N2.out bB (le_refl _) ?_;intro w6 h9 L _;have a6:=h8.kept L;have K:=D00 J L)
      |(refine Qla 70 8 wr.heap.size Q07 a6 E.out ?_)
      |(refine Qla 70 9 y.heap.size Q07 h9 G.out ?_)
      |(go_at_call 119;(with_reducible refine (C1.out _ K).mono ?_);rintro e w7 ⟨rfl,b7⟩;have a2:=D00 D (D00 K b7)))
     go_roundw
     case rel=>exact ⟨i+1,by omega,by go_num,a2,aJ.out⟩
     case measure=>simp [intOf];omega
    | false =>
     have a9:R=false:=by rw [HR.out];exact aK.out rfl
     subst a9
     go_wp2_with (first
      |(refine Qlw 70 20 b1 (o1+i*4) Q07 E.out R1.out ?_)
      |((with_reducible refine Qgs 21 ?_);refine Qsa 70 8 21 wr.heap.size K1 Q07 (D01 wr 70 [.int .i64 0,.slice none 0 0,.slice none 0 0,.slice none 0 0]) E.out (by rfl) N1.out bA (le_refl _) ?_;intro y h8 J _;have aj:=World.rangeAt.below R2.out J;have bB:Below y.heap.size y (y.alloc (.cells #[.int .i64 0,.slice none 0 0,.slice none 0 0,.slice none 0 0] 70)):=Qba _ _)
      |(refine Qlw 70 24 b2 (o2+i*4) Q07 G.out aj ?_)
      |((with_reducible refine Qgs 25 ?_);refine Qsa 70 9 25 y.heap.size K2 Q07 (D01 y 70 [.int .i64 0,.slice none 0 0,.slice none 0 0,.slice none 0 0]) G.out (by rfl) N2.out bB (le_refl _) ?_;intro w6 h9 L _;have a6:=h8.kept L;have K:=D00 J L)
      |(refine Qla 70 8 wr.heap.size Q07 a6 E.out ?_)
      |(refine Qla 70 9 y.heap.size Q07 h9 G.out ?_)
      |(go_at_call 119;(with_reducible refine (C1.out _ K).mono ?_);rintro e w7 ⟨rfl,b7⟩;have a2:=D00 D (D00 K b7)))
     go_ret;exact ⟨rfl,a2⟩
   obtain rfl:i=z:=by omega
   have aL:R=true:=by rw [HR.out];exact Qlg ks ks' (by rw [T.out,V.out]) (fun j I=>O j I (by rw [V.out,<-T.out];exact I) (by rw [<-T.out];exact I))
   subst aL;clear O hlt
   go_wp2_with fail
   go_ret;exact ⟨rfl,D⟩
 have a9:R=false:=by
  rw [M,<-Bool.not_eq_true,Q44];rintro ⟨h,_⟩;rw [Q2u,List.length_map] at h;omega
 subst a9;have aV:((z:Int)==(S:Int))=false:=by rw [beq_eq_false_iff_ne];omega
 clear M a' aa hN hl;go_enter Tryz.func147,Tryz.ntmps147
 go_wp2_with fail
 go_ret;exact ⟨rfl,Below.refl _ _⟩
section
variable (N:Nat) (hN:N<=100000000000) (kd kd':Int) (pa va ka pa' va' ka':Option Addr) (pn pc vn vc kn kc pn' pc' vn' vc' kn' kc':Nat) (p v p' v':List UInt8) (ks ks':List Nd) (hkn:ks.length=kn) (hkn':ks'.length=kn') (w:World)
 (hp:Q02 w (.slice pa pn pc) p) (hv:Q02 w (.slice va vn vc) v) (hk:Q05 Q04 4 w (.slice ka kn kc) ks) (hks:∀ k∈ks,IsNd w k)
 (hp':Q02 w (.slice pa' pn' pc') p') (hv':Q02 w (.slice va' vn' vc') v') (hk':Q05 Q04 4 w (.slice ka' kn' kc') ks') (hks':∀ k∈ks',IsNd w k)
include hN hkn hkn' hp hv hk hks hp' hv' hk' hks' in
theorem Qjb (V:∀ k∈ks,SmC N k)(hb:Q0v ks<=N):Calls Tryz.prog 119 #[.agg #[.int .i64 kd,.slice pa pn pc,.slice va vn vc,.slice ka kn kc],.agg #[.int .i64 kd',.slice pa' pn' pc',.slice va' vn' vc',.slice ka' kn' kc']] w
  fun e w'=>e=.returned (.bool (if kd≠kd' then false else if kd=1 then p==p'&&v==v' else if kd=2 then p==p'&&Q3o ks (erNL ks') else if kd=3 then v==v'&&Q3o ks (erNL ks') else true))/\Below w.heap.size w w':=by
 obtain ⟨R,L⟩:=Qe (if kd≠kd' then false else if kd=1 then p==p'&&v==v' else if kd=2 then p==p'&&Q3o ks (erNL ks') else if kd=3 then v==v'&&Q3o ks (erNL ks') else true);rw [<-L];obtain ⟨M,H⟩:=Qe ((w.alloc (.cells #[.int .i64 kd,.slice pa pn pc,.slice va vn vc,.slice ka kn kc] 70)).alloc (.cells #[.int .i64 kd',.slice pa' pn' pc',.slice va' vn' vc',.slice ka' kn' kc'] 70));have E:Blk 70 M w.heap.size [.int .i64 kd,.slice pa pn pc,.slice va vn vc,.slice ka kn kc]:=by rw [H];exact (D01 w _ _).alloc _
 have G:Blk 70 M (w.heap.size+1) [.int .i64 kd',.slice pa' pn' pc',.slice va' vn' vc',.slice ka' kn' kc']:=by
  have:=D01 (w.alloc (.cells #[.int .i64 kd,.slice pa pn pc,.slice va vn vc,.slice ka kn kc] 70)) 70 [.int .i64 kd',.slice pa' pn' pc',.slice va' vn' vc',.slice ka' kn' kc'];rw [H];simpa using this
 have y:Below w.heap.size w M:=by rw [H];exact (Qba _ _).alloc (by simp) _
 have W:=(E.cell 0).trans (show _=some (Value.int .i64 kd) from rfl);have Z:=(E.cell 1).trans (show _=some (Value.slice pa pn pc) from rfl);have a2:=(E.cell 2).trans (show _=some (Value.slice va vn vc) from rfl);have a3:=(E.cell 3).trans (show _=some (Value.slice ka kn kc) from rfl);have b0:=(G.cell 0).trans (show _=some (Value.int .i64 kd') from rfl);have b1:=(G.cell 1).trans (show _=some (Value.slice pa' pn' pc') from rfl);have b2:=(G.cell 2).trans (show _=some (Value.slice va' vn' vc') from rfl);have D:=(G.cell 3).trans (show _=some (Value.slice ka' kn' kc') from rfl);have s1:=Q0q (P:=Tryz.prog) (src:=25) (dst:=9) elU8.ht (by kernel_rfl) (by kernel_rfl) (hp.below y);have s2:=Q0q (P:=Tryz.prog) (src:=25) (dst:=9) elU8.ht (by kernel_rfl) (by kernel_rfl) (hv.below y);have s3:=Q0q (P:=Tryz.prog) (src:=25) (dst:=9) elU8.ht (by kernel_rfl) (by kernel_rfl) (hp'.below y);have s4:=Q0q (P:=Tryz.prog) (src:=25) (dst:=9) elU8.ht (by kernel_rfl) (by kernel_rfl) (hv'.below y);have c1:=Qsn N ka ka' kn kc kn' kc' ks ks' hkn hkn' hb (by have:=Q9y ks;omega) M (hk.below y) (hk'.below y) (fun k h=>(hks k h).kept y) (fun k h=>(hks' k h).kept y) V;obtain ⟨q,U⟩:=Qe (Q3o ks (erNL ks'));rw [<-U] at c1 L;have O:=Qhd c1;have I:=Qhd L;obtain ⟨J,S⟩:=Qe ((p==p'));obtain ⟨K,T⟩:=Qe ((v==v'));have aa:=S.symm;have ab:=T.symm;rw [H] at W Z a2 a3 b0 b1 b2 D s1 s2 s3 s4 O y;clear E G H L c1 U S T hks hks' hk hk' hp hp' hv hv' V;by_cases hkk:kd=kd'
 ·subst hkk;have z:R=if kd=1 then J&&K else if kd=2 then J&&q else if kd=3 then K&&q else true:=by rw [I.out,if_neg (by simp),aa,ab]
  clear I;by_cases h1:kd=1
  ·subst h1;rw [if_pos rfl] at z;subst z;cases J<;>cases K
   all_goals
    go_enter Tryz.func119,Tryz.ntmps119
    go_wp2_with fail
    go_ret;exact ⟨rfl,y⟩
  by_cases h2:kd=2
  ·subst h2;rw [if_neg h1,if_pos rfl] at z;subst z;cases J
   ·go_enter Tryz.func119,Tryz.ntmps119
    go_wp2_with fail
    go_ret;exact ⟨rfl,y⟩
   go_enter Tryz.func119,Tryz.ntmps119
   go_wp2_with (go_at_call 147;(with_reducible refine O.out.mono ?_);rintro e w3 ⟨rfl,D⟩)
   go_ret;exact ⟨rfl,D00 y D⟩
  by_cases h3:kd=3
  ·subst h3;rw [if_neg h1,if_neg h2,if_pos rfl] at z;subst z;cases K
   ·go_enter Tryz.func119,Tryz.ntmps119
    go_wp2_with fail
    go_ret;exact ⟨rfl,y⟩
   go_enter Tryz.func119,Tryz.ntmps119
   go_wp2_with (go_at_call 147;(with_reducible refine O.out.mono ?_);rintro e w3 ⟨rfl,D⟩)
   go_ret;exact ⟨rfl,D00 y D⟩
  rw [if_neg h1,if_neg h2,if_neg h3] at z;subst z;have e1:(kd==1)=false:=by rw [beq_eq_false_iff_ne];exact h1
  have e2:(kd==2)=false:=by rw [beq_eq_false_iff_ne];exact h2
  have e3:(kd==3)=false:=by rw [beq_eq_false_iff_ne];exact h3
  clear h1 h2 h3;go_enter Tryz.func119,Tryz.ntmps119
  go_wp2_with fail
  go_ret;exact ⟨rfl,y⟩
 have a9:R=false:=by rw [I.out,if_pos hkk]
 subst a9;have ak:(kd==kd')=false:=by rw [beq_eq_false_iff_ne];exact hkk
 clear hkk I;go_enter Tryz.func119,Tryz.ntmps119
 go_wp2_with fail
 go_ret;exact ⟨rfl,y⟩
end
theorem Qh8 (N:Nat)(z:N<=100000000000):∀ (n:Nat) (t:Nd),SizeOf.sizeOf t<=n->SmC N t
 | 0,.mk kd pv p vv v kv ks,h=>by simp at h
 | n+1,.mk kd pv p vv v kv ks,h=>by
  intro s w L M T;have U:∀ k∈ks,SmC N k:=by
   intro k y;refine Qh8 N z n k ?_;have:=List.sizeOf_lt_of_mem y;simp only [Nd.mk.sizeOf_spec] at h;omega
  obtain ⟨a1,aa,J,ab,K,a',ks'⟩:=s;obtain ⟨E,H,y,O⟩:=L.inv;obtain ⟨G,I,D,S⟩:=M.inv;obtain ⟨pa,pc,rfl,_,_⟩:=E.form;obtain ⟨va,vc,rfl,_,_⟩:=H.form;obtain ⟨V,Z,rfl,_,_⟩:=y.form;obtain ⟨a3,a5,rfl,_,_⟩:=G.form;obtain ⟨a7,a9,rfl,_,_⟩:=I.form;obtain ⟨W,a0,rfl,_,_⟩:=D.form;simp only [Q15] at T;have:=Qjb N z kd a1 pa va V a3 a7 W p.length pc v.length vc ks.length Z J.length a5 K.length a9 ks'.length a0 p v J K ks ks' rfl rfl w E H y O G I D S U (by omega);simp only [erN,Q20];exact this
def Qcu (l:List Rt):Bool:=l.all fun r=>decide (Q54 0 r)
theorem Qk0 (l:List Rt)(k:Nat)(z:k<l.length)(h:Qcu (l.take k)=true)(y:Q54 0 l[k]):Qcu (l.take (k+1))=true:=by
 unfold Qcu at h |-;rw [List.take_succ_eq_append_getElem z,List.all_append,h];simp [y]
theorem Qnt (l:List Rt)(k:Nat)(y:k<l.length)(h:¬ Q54 0 l[k]):Qcu l=false:=by
 unfold Qcu;rw [List.all_eq_false];exact ⟨l[k],getElem_mem y,by simpa using h⟩
def Q9n (t:Nd):Bool:=match rts t with|none=>false|some l=>Qcu l && Q20 t (grw 65 l)
theorem Qb5 (t:Nd):Q9n t=rgt 0 t:=by
 rw [Qrx t 65 (le_refl _)];rfl
theorem Qns (r:Rt)(n m:Nat)(y:r.1.length=n)(h:r.2.length=m):Q54 0 r↔(n % 2=0/\n<=64/\0<m/\m<=1024):=by
 unfold Q54;rw [y,h,Nat.zero_add]
theorem Qb6 (t:Nd)(w:World)(hI:IsNd w t)(hb:Q15 t<=99999999999)(aM:∀ l,rts t=some l->l.length<=1048576):Calls Tryz.prog 93 #[.agg (Q04 t).toArray] w fun e w'=>e=.returned (.bool (Q9n t))/\Below w.heap.size w w':=by
 obtain ⟨R,hR⟩:=Qe (Q9n t);rw [<-hR];have HR:=Qhd hR;obtain ⟨L,a9⟩:=Qe (w.alloc (.cells (Q04 t).toArray 70));have hz:Blk 70 L w.heap.size (Q04 t):=by rw [a9];exact D01 w _ _
 have av:Below w.heap.size w L:=by rw [a9];exact Qba _ _
 have ae:=Q0b t;have T:=Qaq 100000000000 (le_refl _) (SizeOf.sizeOf t) t (le_refl _) [] L (hI.kept av) (by simp;omega);rw [show (⟨([]:List UInt8).toArray⟩:ByteArray)=⟨#[]⟩ from rfl] at T;have aN:=aM;clear aM;have aT:=fun l (h:rts t=some l)=>Qm8 (SizeOf.sizeOf t) t (le_refl _) l h;have am:=fun (s:Nd) (u:World) (D:Below w.heap.size w u) (hs:IsNd u s)=>Qh8 100000000000 (le_refl _) (SizeOf.sizeOf t) t (le_refl _) s u (hI.kept D) hs (by omega);obtain ⟨K,z⟩:=Qe (Q04 t);simp only [<-z] at T am hz ae a9 |-;have r1:=hz.all0;have ac:=Qhd a9;have bd:=Qhd aT;have ba:=Qhd aN;have b3:=Qhd am;have HK:=Qhd z;clear a9 hR aN aT am z;cases E:rts t with
 | none =>
  have I:R=false:=by rw [HR.out];unfold Q9n;rw [E]
  subst I;rw [E] at T;have C1:Calls Tryz.prog 118 #[.agg K.toArray,.string ⟨#[]⟩] L (fun e w'=>Below L.heap.size L w'/\e=.returned (.tuple #[.slice none 0 0,.bool false])):=T;have C2:=Qhd C1;clear C1 T E;go_enter Tryz.func93,Tryz.ntmps93
  go_wp2_with (first
   |(refine Qlw 70 1 w.heap.size 0 Q07 ae (by rw [<-ac.out];exact r1) ?_)
   |(go_at_call 118;rw [<-ac.out];(with_reducible refine C2.out.mono ?_);rintro e w2 ⟨b2,rfl⟩;have al:=D00 av b2))
  go_loopw [14] (fun ix wr=>ix=.int .i64 0/\Below w.heap.size w wr) (fun ix _=>0)
  case atStart=>exact ⟨rfl,al⟩
  case round =>
   obtain ⟨rfl,J⟩:=hrel
   go_wp2_with fail
   refine Q03 wr 7 (by kernel_rfl) (by kernel_rfl) (Below.refl _ _) ?_;simp only [take_succ_cons,take_zero,take_nil]
   iterate 7 (refine Q06 (by rfl) (fun K z=>?_);go_simp;refine z _ ?_;clear z K)
   refine Q0i ?_;intro u2 au;simp only [List.reverse_nil,Q00];change wpList _ _ _ [_] _ _
   go_wp2_with fail
   go_ret;exact ⟨rfl,D00 J au⟩
 | some l =>
  have bn:=ba.out l E;have aS:=bd.out l E;have aK:R=(Qcu l&&Q20 t (grw 65 l)):=by rw [HR.out];unfold Q9n;rw [E]
  rw [E] at T;have C1:Calls Tryz.prog 118 #[.agg K.toArray,.string ⟨#[]⟩] L (fun e w'=>Below L.heap.size L w'/\∃ (a:Option Addr) (n c:Nat),e=.returned (.tuple #[.slice a n c,.bool true])/\Q05 Q0d 2 w' (.slice a n c) (pre [] l)):=T;rw [Qfr] at C1;have C2:=Qhd C1;have a4:=Qhd aK;have aJ:l.length<=2000000:=by omega
  have b6:=Qhd aJ;have bc:=Qhd aS;clear C1 T E HR aK bn aJ aS;go_enter Tryz.func93,Tryz.ntmps93
  go_wp2_with (first
   |(refine Qlw 70 1 w.heap.size 0 Q07 ae (by rw [<-ac.out];exact r1) ?_)
   |(go_at_call 118;rw [<-ac.out];(with_reducible refine C2.out.mono ?_);rintro e w2 ⟨b2,a,n,c,rfl,aB⟩;have al:=D00 av b2;have bp:=hz.kept b2))
  have aP:=aB.fits.1;have bo:n<=2000000:=by have:=b6.out;omega
  have ak:=Qhd aP;clear aP
  go_loopw [14] (fun ix wr=>∃ k:Nat,k<=n/\ix=.int .i64 (k:Int)/\Qcu (l.take k)=true/\Below w2.heap.size w2 wr) (fun ix _=>n - (intOf ix).toNat)
  case atStart=>exact ⟨0,by omega,rfl,rfl,Below.refl _ _⟩
  case round =>
   obtain ⟨k,bt,rfl,U,a'⟩:=hrel;have J:=D00 al a';by_cases hlt:k<n
   ·have bs:(k:Int)<(n:Int):=by omega
    have aw:k<l.length:=by rw [<-ak.out];exact hlt
    obtain ⟨b,off,rfl,aC⟩:=Q05.range (f:=Q0d) (size:=2) (fun _=>rfl) (aB.below a') k aw;have hst:=Qk0 l k aw U;have az:=Qnt l k aw;obtain ⟨y,hy⟩:=Qe (l[k]);rw [<-hy] at aC hst az;obtain ⟨y1,y2⟩:=y;have W:=Qns (y1,y2) y1.length y2.length rfl rfl;obtain ⟨V,ay⟩:=Qe (y1.length);obtain ⟨Z,ax⟩:=Qe (y2.length);rw [<-ay,<-ax] at W;have aA:wr.rangeAt b (off+k*2) [.string ⟨y1.toArray⟩,.string ⟨y2.toArray⟩]:=aC;obtain ⟨M,ap⟩:∃ S:ByteArray,S=⟨y1.toArray⟩:=⟨_,rfl⟩;obtain ⟨N,aq⟩:∃ S:ByteArray,S=⟨y2.toArray⟩:=⟨_,rfl⟩;rw [<-ap,<-aq] at aA;have z1:M.size=V:=by rw [ap,ay];exact Q6f y1
    have z2:N.size=Z:=by rw [aq,ax];exact Q6f y2
    have n0:∀ (g:Nat) (u:World),Blk 168 u g [.string M,.string N]->u.cell? ⟨g,0,none⟩=some (.string M)/\u.cell? ⟨g,1,none⟩=some (.string N):=fun g u hb=>⟨(hb.cell 0).trans rfl,(hb.cell 1).trans rfl⟩;have N0:=Qhd n0;have bA:Below wr.heap.size wr (wr.alloc (.cells #[.string ByteArray.empty,.string ByteArray.empty] 168)):=Qba _ _;have hm:(V:Int).tmod 2=((V % 2:Nat):Int):=by rw [Int.tmod_eq_emod_of_nonneg (by omega)];omega
    have be:=Qhd hst;have ab:=Qhd az;have a5:=Qhd W;have a6:=Qhd aA;clear n0 hy aC ap aq ay ax hst az W aA U hlt;by_cases f1:V % 2=0
    ·rw [f1] at hm;by_cases f2:V<=64
     ·have g2:¬ (64:Int)<(V:Int):=by omega
      by_cases f3:0<Z
      ·have g3:((Z:Int)==0)=false:=by rw [beq_eq_false_iff_ne];omega
       by_cases f4:Z<=1024
       ·have g4:¬ (1024:Int)<(Z:Int):=by omega
        have aQ:=be.out (a5.out.2 ⟨f1,f2,f3,f4⟩);have bb:=Qhd aQ;clear f1 f2 f3 f4 aQ
        go_wp2_with (first
               |(refine Qlw 168 16 b (off+k*2) Q0y (by rfl) a6.out ?_)
               |((with_reducible refine Qgs 17 ?_);refine Qsa 168 6 17 wr.heap.size [.string M,.string N] Q0y (D01 wr 168 [.string ByteArray.empty,.string ByteArray.empty]) (by rfl) (by rfl) (by intro u D;simp at D;rcases D with rfl|rfl<;>rfl) bA (le_refl _) ?_;intro w5 H G _;obtain ⟨i0,i1⟩:=N0.out _ _ H;have O:=D00 J G))
        go_roundw
        case rel=>exact ⟨k+1,by omega,by go_num,bb.out,D00 a' G⟩
        case measure=>simp [intOf];omega
       have g4:(1024:Int)<(Z:Int):=by omega
       have I:R=false:=by rw [a4.out,ab.out (fun h=>by have:=a5.out.1 h;omega)];rfl
       subst I
       go_wp2_with (first
              |(refine Qlw 168 16 b (off+k*2) Q0y (by rfl) a6.out ?_)
              |((with_reducible refine Qgs 17 ?_);refine Qsa 168 6 17 wr.heap.size [.string M,.string N] Q0y (D01 wr 168 [.string ByteArray.empty,.string ByteArray.empty]) (by rfl) (by rfl) (by intro u D;simp at D;rcases D with rfl|rfl<;>rfl) bA (le_refl _) ?_;intro w5 H G _;obtain ⟨i0,i1⟩:=N0.out _ _ H;have O:=D00 J G))
       go_ret;exact ⟨rfl,O⟩
      have g3:((Z:Int)==0)=true:=by rw [beq_iff_eq];omega
      have I:R=false:=by rw [a4.out,ab.out (fun h=>by have:=a5.out.1 h;omega)];rfl
      subst I
      go_wp2_with (first
              |(refine Qlw 168 16 b (off+k*2) Q0y (by rfl) a6.out ?_)
              |((with_reducible refine Qgs 17 ?_);refine Qsa 168 6 17 wr.heap.size [.string M,.string N] Q0y (D01 wr 168 [.string ByteArray.empty,.string ByteArray.empty]) (by rfl) (by rfl) (by intro u D;simp at D;rcases D with rfl|rfl<;>rfl) bA (le_refl _) ?_;intro w5 H G _;obtain ⟨i0,i1⟩:=N0.out _ _ H;have O:=D00 J G))
      go_ret;exact ⟨rfl,O⟩
     have g2:(64:Int)<(V:Int):=by omega
     have I:R=false:=by rw [a4.out,ab.out (fun h=>by have:=a5.out.1 h;omega)];rfl
     subst I
     go_wp2_with (first
              |(refine Qlw 168 16 b (off+k*2) Q0y (by rfl) a6.out ?_)
              |((with_reducible refine Qgs 17 ?_);refine Qsa 168 6 17 wr.heap.size [.string M,.string N] Q0y (D01 wr 168 [.string ByteArray.empty,.string ByteArray.empty]) (by rfl) (by rfl) (by intro u D;simp at D;rcases D with rfl|rfl<;>rfl) bA (le_refl _) ?_;intro w5 H G _;obtain ⟨i0,i1⟩:=N0.out _ _ H;have O:=D00 J G))
     go_ret;exact ⟨rfl,O⟩
    have bh:V % 2=1:=by omega
    rw [bh] at hm;have I:R=false:=by rw [a4.out,ab.out (fun h=>by have:=a5.out.1 h;omega)];rfl
    subst I
    go_wp2_with (first
              |(refine Qlw 168 16 b (off+k*2) Q0y (by rfl) a6.out ?_)
              |((with_reducible refine Qgs 17 ?_);refine Qsa 168 6 17 wr.heap.size [.string M,.string N] Q0y (D01 wr 168 [.string ByteArray.empty,.string ByteArray.empty]) (by rfl) (by rfl) (by intro u D;simp at D;rcases D with rfl|rfl<;>rfl) bA (le_refl _) ?_;intro w5 H G _;obtain ⟨i0,i1⟩:=N0.out _ _ H;have O:=D00 J G))
    go_ret;exact ⟨rfl,O⟩
   obtain rfl:k=n:=by omega
   have aW:l.take k=l:=by rw [ak.out,List.take_length]
   rw [aW] at U;have aL:R=Q20 t (grw 65 l):=by rw [a4.out,U,Bool.true_and]
   have W:∀ r∈l,Q54 0 r:=fun r E=>by unfold Qcu at U;rw [List.all_eq_true] at U;exact of_decide_eq_true (U r E)
   have aV:Sml l:=fun r E=>by obtain ⟨_,h1,_,h2⟩:=W r E;exact ⟨by omega,by omega⟩
   have aR:=Qhs 65 l bc.out (fun r E=>by obtain ⟨_,h1,_,h2⟩:=W r E;omega);have aU:=aB.below a';have cg:=fun (u:World) (D:Below wr.heap.size wr u)=>Q6s 65 l a k c u ak.out.symm bo aV aR (aU.below D);have aY:=bp.kept a';have Cg:=Qhd cg;have b4:=Qhd ae;have bf:=Qhd aY;have b':=Qhd J;have b9:=Qhd aL;clear aW U W aV aR aU cg aY hlt aL
   go_wp2_with fail
   refine Q03 wr 7 (by kernel_rfl) (by kernel_rfl) (Below.refl _ _) ?_;simp only [take_succ_cons,take_zero,take_nil]
   iterate 2 (refine Q06 (by rfl) (fun K z=>?_);go_simp;refine z _ ?_;clear z K)
   (refine Q06 (by rfl) (fun K z=>?_);rw [if_pos (by rfl)];refine ⟨_,fun u=>Q16 _ (.tmp 1) (by rfl) _ _ (by rfl) Q07 b4.out (rangeAt.ext (Blk.all0 bf.out) u),z _ ?_⟩;clear z K;simp only [Act.put,Qzs])
   (refine Q06 (by rfl) (fun K z=>?_);go_simp;refine z _ ?_;clear z K)
   refine Q0e 46 (NdT 0 (grw 65 l)) rfl (of_decide_eq_true rfl) (NdT.mono _ _) (fun w6 aD=>?_) ?_
   ·change Q00 w6 [] _ _;simp only [Q00];refine ⟨rfl,?_⟩;go_simp;refine (Cg.out w6 aD).mono ?_;rintro e w7 ⟨s,rfl,os,es,b7⟩;exact ⟨_,rfl,⟨s,rfl,os.lower (Nat.zero_le _),es⟩,b7⟩
   refine Q3a (.bool R) (fun w6 aD=>?_) ?_
   ·change Q00 w6 [(46,_)] _ _;rintro bq ⟨s,rfl,os,es⟩;have cs:=b3.out s w6 (D00 b'.out aD) os.is;rw [es,<-b9.out] at cs;simp only [Q00];refine ⟨rfl,?_⟩;go_simp;exact cs.mono fun e w' q=>⟨_,q.1,rfl,q.2⟩
   (refine Q06 (by rfl) (fun K z=>?_);go_simp;refine z _ ?_;clear z K)
   refine Q0i ?_;intro u2 au bq _;change wpList _ _ _ [_] _ _;simp only [Act.put,Qzs]
   go_wp2_with fail
   go_ret;exact ⟨rfl,D00 J au⟩
end Go.Proofs.YtbdmkfjgnjfjbaaGreat
