/- tree's show: leaves and roads. | tree's show: forks. | tree.show. | tree.Get and the reference's GGet. | tree.Put. -/
import Derived.Test.YtbdmkfjgnjfjbaaGreatBlockListsK09
import Derived.Test.YtbdmkfjgnjfjbaaGreatBlockListsK06
import Derived.Handy
import Derived.Test.YtbdmkfjgnjfjbaaGreatBlockListsK07
import Derived.Test.YtbdmkfjgnjfjbaaGreatBlockListsK10
set_option linter.unusedSimpArgs false
set_option linter.unusedVariables false
set_option maxHeartbeats 4000000
set_option maxRecDepth 100000
open List (filter_nil getElem?_eq_getElem getElem?_map mem_cons mem_singleton take_nil take_succ_cons take_zero)
open Nat (le_refl)
namespace Go.Proofs.YtbdmkfjgnjfjbaaGreat
open Go.RowKit
theorem Qc0 (a:Option Addr)(n c:Nat)(l:List UInt8)(z:n<=1000000000)(B:Nat)(w:World)(D:B<=w.heap.size)(h:Q02 w (.slice a n c) l):Calls Tryz.prog 170 #[.slice a n c] w fun e w'=>∃ v,e=.returned v/\TxO B l v w'/\Below w.heap.size w w' :=
 (Qc2 a n c l z w h).mono (by
  rintro e w' ⟨v,rfl,o,b⟩;exact ⟨v,rfl,⟨o.row,fun k y=>by have:=o.lt k y;omega⟩,b⟩)
theorem Qmr (X : Value) (n : Nat) (h : 0 < n) (w : World) : (method n 189 X "lampbearer/tree.plain").run Tryz.prog w = .ok (206, X) w := by
 cases n with
 | zero=>omega
 | succ n=>kernel_rfl
theorem Qo4 (X:Value)(w:World):(callFunc 206 #[X]).run Tryz.prog w=.ok (.enter 206 #[X]) w:=by kernel_rfl
def PlC (k:Nd):Prop:=∀ (X:Value) (w:World),nv k=.iface 189 X->IsNv w k->Calls Tryz.prog 206 #[X] w (Q1d (clN k) w)
theorem Qjk (E H:Option Addr)(y G z I:Nat)(p v:List UInt8)(af:y<=1000000000)(ag:z<=1000000000)(w:World)(Z:Q02 w (.slice E y G) p)(hv:Q02 w (.slice H z I) v) :
  Calls Tryz.prog 204 #[.agg #[.slice E y G,.slice H z I]] w (Q1d (.mk 1 p v []) w):=by
 obtain ⟨D,J⟩:=Qe ((w.alloc (.cells #[.slice E y G,.slice H z I] 182)).alloc (.cells (Q04 zN).toArray 70));have S:Blk 182 D w.heap.size [.slice E y G,.slice H z I]:=by rw [J];exact (D01 w _ _).alloc _
 have hz:Blk 70 D (w.heap.size+1) (Q04 zN):=by
  have:=D01 (w.alloc (.cells #[.slice E y G,.slice H z I] 182)) 70 (Q04 zN);simp only [World.size_alloc] at this;rw [J];exact this
 have O:Below w.heap.size w D:=by rw [J];exact (Qba _ _).alloc (by simp) _
 have av:D.heap.size=w.heap.size+2:=by rw [J];simp
 have k0:=fun u:Ext D=>u.cell (S.cell 0);have k1:=fun u:Ext D=>u.cell (S.cell 1);have O1:=Qhd (fun (u:World) (hu:Below w.heap.size w u) (h2:w.heap.size+2<=u.heap.size)=>Qc0 E y G p af (w.heap.size+2) u h2 (Z.below hu));have O2:=Qhd (fun (u:World) (hu:Below w.heap.size w u) (h2:w.heap.size+2<=u.heap.size)=>Qc0 H z I v ag (w.heap.size+2) u h2 (hv.below hu));have a3:=Qhd J;have Hz:=Qhd hz;clear J hz S Z hv;go_enter Tryz.func204,Tryz.ntmps204
 go_wp2_with fail
 rw [show (w.alloc (.cells #[.slice E y G,.slice H z I] 182)).alloc (.cells #[.int .i64 0,.slice none 0 0,.slice none 0 0,.slice none 0 0] 70)=D from by rw [a3.out];rfl];refine Q03 D 7 (by kernel_rfl) (by kernel_rfl) (Below.refl _ _) ?_;simp only [take_succ_cons,take_zero,take_nil]
 iterate 2 (refine Q06 (by rfl) (fun K M=>?_);go_simp;refine M _ ?_;clear M K)
 refine Q0e 5 (TxO (w.heap.size+2) p) rfl (of_decide_eq_true rfl) (TxO.mono _ _) (fun N L=>?_) ?_
 ·simp only [Q18,filter_nil,Q00];refine ⟨rfl,?_⟩;go_simp;exact (O1.out _ (D00 O L) (by have:=L.size;omega)).mono (by rintro e w7 ⟨v,rfl,h,b⟩;exact ⟨_,rfl,h,b⟩)
 iterate 2 (refine Q06 (by rfl) (fun K M=>?_);go_simp;refine M _ ?_;clear M K)
 refine Q0e 8 (TxO (w.heap.size+2) v) rfl (of_decide_eq_true rfl) (TxO.mono _ _) (fun N L=>?_) ?_
 ·change Q00 N [] _ _;simp only [Q00];refine ⟨rfl,?_⟩;go_simp;exact (O2.out _ (D00 O L) (by have:=L.size;omega)).mono (by rintro e w7 ⟨v,rfl,h,b⟩;exact ⟨_,rfl,h,b⟩)
 refine Q0e 9 (NdT (w.heap.size+2) (.mk 1 p v [])) rfl (of_decide_eq_true rfl) (NdT.mono _ _) (fun N L=>?_) ?_
 ·change Q00 N [(8,_),(5,_)] _ _;rintro v8 ⟨U,o8⟩ v5 ⟨T,o5⟩;obtain ⟨a8,c8,rfl,_,_⟩:=U.form;obtain ⟨a5,c5,rfl,_,_⟩:=T.form;simp only [Q00];refine ⟨rfl,?_⟩;go_simp;exact ⟨Below.refl _ _,.mk 1 _ p _ v (.slice none 0 0) [],rfl,.mk 1 _ p _ v (.slice none 0 0) [] T o5 U o8 (Q05.nil Q04 4 _) (by intro k e;cases e) (by simp),rfl⟩
 refine Q0i ?_;intro u2 V v5 _ v8 _ v9 h9;change wpList _ _ _ [_] _ _;simp only [Act.put,Qzs];obtain ⟨t,rfl,ot,et⟩:=h9;have a':=D00 O V;have ah:=Hz.out.kept V;have ae:=ot.is.one;have W:=Q0b t;clear k0 k1
 go_wp2_with ((with_reducible refine Qgs 9 ?_);refine Qsa 70 2 9 (w.heap.size+1) (Q04 t) Q07 ah W (by rfl) ae a' (by omega) ?_;intro w3 h3 b3 g3)
 exact bodyPost_ret (Q0h rfl _ _ (w.heap.size+1) Q07 h3 W rfl) rfl ⟨t,rfl,(ot.off g3 (by omega)).lower (by omega),et,b3⟩
theorem Qjj (I:Option Addr)(E J:Nat)(p:List UInt8)(an:E<=1000000000)(k:Nd)(a5:k.kd=3)(ih:PlC k)(w:World)(hp:Q02 w (.slice I E J) p)(O:IsNv w k) :
  Calls Tryz.prog 205 #[.agg #[.slice I E J,nv k]] w (Q1d (.mk 2 p [] [clN k]) w):=by
 obtain ⟨X,T⟩:=Qc5 a5;have S:=fun (u:World) (hu:Below w.heap.size w u)=>ih X u T (O.kept hu);rw [T];obtain ⟨L,a2⟩:=Qe (clN k);rw [<-a2] at S |-;obtain ⟨G,M⟩:=Qe ((w.alloc (.cells #[.slice I E J,.iface 189 X] 185)).alloc (.cells (Q04 zN).toArray 70));have V:Blk 185 G w.heap.size [.slice I E J,.iface 189 X]:=by rw [M];exact (D01 w _ _).alloc _
 have hz:Blk 70 G (w.heap.size+1) (Q04 zN):=by
  have:=D01 (w.alloc (.cells #[.slice I E J,.iface 189 X] 185)) 70 (Q04 zN);simp only [World.size_alloc] at this;rw [M];exact this
 have U:Below w.heap.size w G:=by rw [M];exact (Qba _ _).alloc (by simp) _
 have az:G.heap.size=w.heap.size+2:=by rw [M];simp
 have k0:=fun u:Ext G=>u.cell (V.cell 0);have k1:=fun u:Ext G=>u.cell (V.cell 1);have O1:=Qhd (fun (u:World) (hu:Below w.heap.size w u) (h2:w.heap.size+2<=u.heap.size)=>Qc0 I E J p an (w.heap.size+2) u h2 (hp.below hu));have Cg:=Qhd S;have ab:=Qhd M;have Hz:=Qhd hz;clear M hz V hp O S ih T a2 a5;go_enter Tryz.func205,Tryz.ntmps205
 go_wp2_with fail
 rw [show (w.alloc (.cells #[.slice I E J,.iface 189 X] 185)).alloc (.cells #[.int .i64 0,.slice none 0 0,.slice none 0 0,.slice none 0 0] 70)=G from by rw [ab.out];rfl];refine Q03 G 8 (by kernel_rfl) (by kernel_rfl) (Below.refl _ _) ?_;simp only [take_succ_cons,take_zero,take_nil]
 iterate 2 (refine Q06 (by rfl) (fun K N=>?_);go_simp;refine N _ ?_;clear N K)
 refine Q0e 5 (TxO (w.heap.size+2) p) rfl (of_decide_eq_true rfl) (TxO.mono _ _) (fun y z=>?_) ?_
 ·simp only [Q18,filter_nil,Q00];refine ⟨rfl,?_⟩;go_simp;exact (O1.out _ (D00 U z) (by have:=z.size;omega)).mono (by rintro e w7 ⟨v,rfl,h,b⟩;exact ⟨_,rfl,h,b⟩)
 iterate 2 (refine Q06 (by rfl) (fun K N=>?_);go_simp;refine N _ ?_;clear N K)
 refine Q0e 8 (NdT (w.heap.size+2) L) rfl (of_decide_eq_true rfl) (NdT.mono _ _) (fun y z=>?_) ?_
 ·change Q00 y [] _ _;simp only [Q00];refine ⟨rfl,?_⟩;go_simp;rw [Qmr X _ (by decide) y,Result.andThen_ok];show match (callFunc 206 #[X]).run Tryz.prog y with
   | Result.ok (Next.value u) w'=>Below y.heap.size y w'/\NdT (w.heap.size+2) L u w'
   | Result.ok Next.skip w'=>Below y.heap.size y w'/\NdT (w.heap.size+2) L undef w'
   | Result.ok (Next.enter f args) w'=>w'=y/\Calls Tryz.prog f args y fun e a'=>∃ v,e=Ending.returned v/\NdT (w.heap.size+2) L v a'/\Below y.heap.size y a'
   | x=>False
  rw [Qo4];refine ⟨rfl,?_⟩;refine (Cg.out y (D00 U z)).mono ?_;rintro e w7 ⟨t,rfl,D,H,b7⟩;exact ⟨_,rfl,⟨t,rfl,D.lower (by have:=z.size;omega),H⟩,b7⟩
 refine Q0e 9 (NdT1 (w.heap.size+2) L) rfl (of_decide_eq_true rfl) (NdT1.mono _ _) (fun y z=>?_) ?_
 ·change Q00 y [(8,_)] _ _;rintro aD ⟨t,rfl,D,H⟩;obtain ⟨kd,Z,p,vv,v,W,ks⟩:=t;have ak:=D02 Q0b y 70 [.mk kd Z p vv v W ks] 1 rfl (by unfold maxLen;omega);have a4:Below y.heap.size y (y.alloc (.cells ([Nd.mk kd Z p vv v W ks].flatMap Q04).toArray 70)):=Qba _ _;have av:=D.kept a4;simp only [Q04,Q00];refine ⟨rfl,?_⟩;go_simp;exact ⟨a4,y.heap.size,.mk kd Z p vv v W ks,rfl,by have:=z.size;omega,ak,av,H⟩
 refine Q0e 10 (NdT (w.heap.size+2) (.mk 2 p [] [L])) rfl (of_decide_eq_true rfl) (NdT.mono _ _) (fun y z=>?_) ?_
 ·change Q00 y [(9,_),(5,_)] _ _;rintro aE ⟨g,t,rfl,hg,hr,D,H⟩ aB ⟨a1,au⟩;obtain ⟨ax,ay,rfl,_,_⟩:=a1.form;simp only [Q00];refine ⟨rfl,?_⟩;go_simp;refine ⟨Below.refl _ _,.mk 2 _ p (.slice none 0 0) [] _ [t],rfl,.mk 2 _ p (.slice none 0 0) [] _ [t] a1 au (Q05.nil b8 1 _) (by intro k e;cases e) hr (fun k e=>by cases e;exact hg) (fun k O=>by rw [mem_singleton] at O;rw [O];exact D),?_⟩;simp only [erN,erNL,H]
 refine Q0i ?_;intro u2 a3 v5 _ v8 _ v9 _ aA ai;change wpList _ _ _ [_] _ _;simp only [Act.put,Qzs];obtain ⟨t,rfl,D,H⟩:=ai;have ag:=D00 U a3;have ap:=Hz.out.kept a3;have am:=D.is.one;have a6:=Q0b t;clear k0 k1
 go_wp2_with ((with_reducible refine Qgs 10 ?_);refine Qsa 70 2 10 (w.heap.size+1) (Q04 t) Q07 ap a6 (by rfl) am ag (by omega) ?_;intro w3 h3 b3 g3)
 exact bodyPost_ret (Q0h rfl _ _ (w.heap.size+1) Q07 h3 a6 rfl) rfl ⟨t,rfl,(D.off g3 (by omega)).lower (by omega),H,b3⟩
theorem Qii {e D:TypeId}{w:World}{g:Nat}{cs y:List Value}(h:Blk e w g cs)(z:Blk D w g y):cs=y:=by
 unfold Blk at h z;have e:=Option.some.inj (h.symm.trans z);injection e with e1 _
 simpa using congrArg Array.toList e1
theorem Qr1 {w:World}{k:Nd}(h:IsNd w k):∀ u∈Q04 k,∀ x,u≠.int .u8 x:=by
 obtain ⟨kd,M,p,N,v,L,ks⟩:=k;obtain ⟨D,E,z,_⟩:=h.inv;obtain ⟨G,c1,rfl,_,_⟩:=D.form;obtain ⟨H,J,rfl,_,_⟩:=E.form;obtain ⟨I,K,rfl,_,_⟩:=z.form;intro u y x;simp only [Q04,mem_cons,List.not_mem_nil,or_false] at y;rcases y with rfl|rfl|rfl|rfl<;>simp
theorem Qsc {w:World}{ks:List Nd}(h:∀ k∈ks,IsNd w k):∀ u∈ks.flatMap Q04,∀ x,u≠.int .u8 x:=by
 intro u y;obtain ⟨k,z,y⟩:=List.mem_flatMap.1 y;exact Qr1 (h k z) u y
structure FpN (w:World)(R F:Nat)(vv:Value)(v:List UInt8)(kids:List Nd)(u:World):Prop where
 hb:Below w.heap.size w u
 hz:Blk 70 u (w.heap.size+1) (Q04 zN)
 hR:Blk 70 u R (kids.flatMap Q04)
 hF:Blk 70 u F (Q2o vv R)
 hv:TxO (w.heap.size+2) v vv u
 hk:∀ k∈kids,Q2a u (R+1) k
 hl:kids.length=16
 hlR:w.heap.size+2<=R
 hlF:w.heap.size+2<=F
theorem FpN.ne {w:World}{R F:Nat}{z:Value}{v:List UInt8}{y:List Nd}{u:World}(h:FpN w R F z v y u):R≠F:=by
 rintro rfl;have:=congrArg List.length (Qii h.hR h.hF);rw [Q9p,h.hl] at this;simp [Q2o] at this
theorem FpN.kept {w:World}{R F:Nat}{D:Value}{v:List UInt8}{z:List Nd}{u u':World}(h:FpN w R F D v z u)(y:Below u.heap.size u u'):FpN w R F D v z u' :=
 ⟨D00 h.hb y,h.hz.kept y,h.hR.kept y,h.hF.kept y,⟨h.hv.1.below y,h.hv.2⟩,fun k E=>(h.hk k E).kept y,h.hl,h.hlR,h.hlF⟩
theorem FpN.row {w:World}{R F:Nat}{z:Value}{v:List UInt8}{y:List Nd}{u:World}(h:FpN w R F z v y u):Q05 Q04 4 u (.slice (some ⟨R,0,none⟩) 16 16) y :=
 Blk.row h.hR y 16 16 Q0b h.hl (fun _ _ e=>e) (le_refl _) (by unfold maxLen;omega)
theorem FpN.there {w:World}{R F:Nat}{z:Value}{v:List UInt8}{y:List Nd}{u:World}(h:FpN w R F z v y u)(i:Nat)(D:i<16):u.there R (i*4) 4:=fun j hj=>by
 refine ⟨?_,h.hR.free _⟩;rw [h.hR.cell,getElem?_eq_getElem (by rw [Q9p,h.hl];omega)];rfl
theorem FpN.put {w:World}{R F:Nat}{G:Value}{v:List UInt8}{D:List Nd}{u:World}(h:FpN w R F G v D u)(i:Nat)(H:i<16)(t:Nd)(K:Q2a u (R+1) t):FpN w R F G v (D.set i t) (u.setCells R (i*4) (Q04 t)):=by
 have y:u.grownBy (u.setCells R (i*4) (Q04 t)) (some R):=Q2r (Q04 t) (i*4) ⟨rfl,rfl,rfl,le_refl _,fun _ _ _=>rfl⟩;have I:=h.hlR;have L:=h.ne;have E:=h.hR.sets (Q04 t) (i*4);rw [Qle D i (by rw [h.hl];exact H) t] at E;have J:=Qsc (fun k z=>(h.hk k z).is);refine ⟨h.hb.grown y h.hb.size (fun k e=>by cases e;omega),h.hz.grown y (fun e=>by simp at e;omega),E,h.hF.grown y (fun e=>by simp at e;omega),⟨Q02.off_v h.hv.1 h.hR J y,h.hv.2⟩,fun k z=>?_,by rw [List.length_set];exact h.hl,I,h.hlF⟩;rcases List.mem_or_eq_of_mem_set z with z|rfl
 ·exact (h.hk k z).off y (Nat.lt_succ_self _)
 exact K.off y (Nat.lt_succ_self _)
theorem FpN.done {w:World}{R F:Nat}{z:Value}{v:List UInt8}{y:List Nd}{u u':World}(h:FpN w R F z v y u)(D:u.grownBy u' (some (w.heap.size+1)))(G:Below w.heap.size w u') :
  Q1d (.mk 3 [] v (y.map erN)) w (.returned (.agg (Q2o z R).toArray)) u':=by
 have I:=h.hlR;refine ⟨.mk 3 (.slice none 0 0) [] z v (.slice (some ⟨R,0,none⟩) 16 16) y,rfl,?_,?_,G⟩
 ·refine .mk 3 _ [] z v _ y (Q05.nil b8 1 _) (by intro k e;cases e) (h.hv.1.offV D (fun k e=>by have:=h.hv.2 k e;omega)) (fun k e=>by have:=h.hv.2 k e;omega) (h.row.offV D (fun k e=>by have E:R=k:=(by cases e;rfl);omega)) (fun k e=>by have E:R=k:=(by cases e;rfl);omega) (fun k H=>?_);exact ((h.hk k H).off D (by omega)).lower (by omega)
 simp only [erN,Q2u]
def RwT (B:Nat):Ty:=fun v w=>∃ R,v=.slice (some ⟨R,0,none⟩) 16 16/\Blk 70 w R ((List.replicate 16 zN).flatMap Q04)/\B<=R
theorem RwT.mono (B:Nat):Mono (RwT B):=fun _ _ _ ⟨R,h,h2,h3⟩ hb=>⟨R,h,h2.kept hb,h3⟩
def FcT (B:Nat)(v:List UInt8):Ty:=fun x w=>∃ vv R,x=.agg (Q2o vv R).toArray/\TxO B v vv w/\(∃ a n c,vv=.slice a n c)/\Blk 70 w R ((List.replicate 16 zN).flatMap Q04)/\B<=R
theorem FcT.mono (B:Nat)(v:List UInt8):Mono (FcT B v):=fun _ _ _ ⟨vv,R,h,h2,h3,h4,h5⟩ hb=>⟨vv,R,h,TxO.mono _ _ _ _ _ h2 hb,h3,h4.kept hb,h5⟩
def PtrN (e:TypeId)(cs:List Value)(B:Nat):Ty:=fun v w=>∃ g,v=.pointer (some ⟨g,0,none⟩)/\Blk e w g cs/\B<=g
theorem PtrN.mono (e:TypeId)(cs:List Value)(B:Nat):Mono (PtrN e cs B):=fun _ _ _ ⟨g,h1,h2,h3⟩ hb=>⟨g,h1,h2.kept hb,h3⟩
theorem Qpu (w:World):∃ w',(Instr.makeSlice 68 (.int .i64 16) (.int .i64 16)).run Tryz.prog w=.ok (.slice (some ⟨w.heap.size,0,none⟩) 16 16) w'/\Blk 70 w' w.heap.size ((List.replicate 16 zN).flatMap Q04)/\Below w.heap.size w w':=by
 obtain ⟨i,J,N,L,G⟩:=Qem.info;obtain ⟨w',z,D,E⟩:=run_make_full (P:=Tryz.prog) w w.heap.size 68 70 i _ 4 Qem.ht J N L .i64 .i64 16 (by rw [G];omega) (by unfold maxLen;omega) (le_refl _);refine ⟨w',z,?_,(Below.refl _ _).grown E (le_refl _) (fun k K=>by cases K)⟩;have hcs:(madeCells (Value.agg #[.int .i64 0,.slice none 0 0,.slice none 0 0,.slice none 0 0]).cells (16*4)).toList=(List.replicate 16 zN).flatMap Q04:=by
  unfold madeCells;rw [Array.toList_map,Array.toList_range];rfl
 rw [<-hcs];rcases D.2 with ⟨h,_⟩|⟨S,O,y,h,_,I,_,_,H,M⟩
 ·simp at h
 simp only [Value.slice.injEq,Option.some.injEq,Addr.mk.injEq,and_true,true_and] at h;obtain ⟨rfl,rfl⟩:=h;have:y.toList=(madeCells (Value.agg #[.int .i64 0,.slice none 0 0,.slice none 0 0,.slice none 0 0]).cells (16*4)).toList:=by
  rw [<-M];exact (List.take_of_length_le (by simp [H])).symm
 unfold Blk;rw [<-this];simpa using I
def ShC (k:Nd):Prop:=∀ w:World,IsNv w k->Calls Tryz.prog 106 #[nv k] w (Q1d (clN k) w)
theorem Qjl (va:Option Addr)(W vc:Nat)(v:List UInt8)(bn:W<=1000000000)(ks:List Nd)(an:ks.length=16)(ih:∀ k∈ks,ShC k)(w:World)(hv:Q02 w (.slice va W vc) v)(T:∀ k∈ks,IsNv w k) :
  Calls Tryz.prog 206 #[.agg (nvL ks++[Value.slice va W vc]).toArray] w (Q1d (.mk 3 [] v (clNL ks)) w):=by
 obtain ⟨O,a6⟩:=Qe (nvL ks++[Value.slice va W vc]);have a7:(nvL ks).length=16:=by rw [Q1s];simp [an]
 have aG:∀ i (M:i<16),(nvL ks)[i]?=some (nv (ks[i]'(by omega))):=by
  intro i M;rw [Q1s,getElem?_map,getElem?_eq_getElem (by omega)];rfl
 have aD:O[16]?=some (.slice va W vc):=by rw [a6,List.getElem?_append_right (by omega),a7];rfl
 have a':∀ (j:Nat) v,(nvL ks)[j]?=some v->O[j]?=some v:=by
  intro j v h;rw [a6,List.getElem?_append_left (List.getElem?_eq_some_iff.1 h).1];exact h
 obtain ⟨I,U⟩:=Qe ((w.alloc (.cells O.toArray 189)).alloc (.cells (Q04 zN).toArray 70));have aq:Blk 189 I w.heap.size O:=by rw [U];exact (D01 w _ _).alloc _
 have hz:Blk 70 I (w.heap.size+1) (Q04 zN):=by
  have:=D01 (w.alloc (.cells O.toArray 189)) 70 (Q04 zN);simp only [World.size_alloc] at this;rw [U];exact this
 have aj:Below w.heap.size w I:=by rw [U];exact (Qba _ _).alloc (by simp) _
 have bl:I.heap.size=w.heap.size+2:=by rw [U];simp
 have k1:=fun u:Ext I=>u.cell ((aq.cell 16).trans aD);have au:I.rangeAt w.heap.size 0 (nvL ks):=fun j v hv=>by rw [Nat.zero_add,aq.cell];exact a' j v hv
 have O1:=Qhd (fun (u:World) (G:Below w.heap.size w u) (h2:w.heap.size+2<=u.heap.size)=>Qc0 va W vc v bn (w.heap.size+2) u h2 (hv.below G));obtain ⟨Z,ag⟩:=Qe (nvL ks);rw [<-a6];rw [<-ag] at au a7;have aV:Hid (∀ i<16,Z[i]?=some (nv (ks.getD i nilN))):=Qhd (fun i M=>by rw [ag,aG i M,List.getD_eq_getElem?_getD,getElem?_eq_getElem (by omega)];rfl);have az:=Qhd an;have ad:Hid (∀ i<16,ks.getD i nilN∈ks):=Qhd (fun i M=>by rw [List.getD_eq_getElem?_getD,getElem?_eq_getElem (by omega)];exact List.getElem_mem _);have aZ:Hid (∀ i<16,∀ u,Below w.heap.size w u->Calls Tryz.prog 106 #[nv (ks.getD i nilN)] u (Q1d (clN (ks.getD i nilN)) u)):=Qhd (fun i M u G=>ih _ (ad.out i M) u ((T _ (ad.out i M)).kept G));have ay:=Qhd a7;have ae:=Qhd au;have b0:=Qhd U;have Hz:=Qhd hz;clear aG a' U a6 ag an hv T ih a7 aD aq hz au ad;go_enter Tryz.func206,Tryz.ntmps206
 go_wp2_with fail
 rw [show (w.alloc (.cells O.toArray 189)).alloc (.cells #[.int .i64 0,.slice none 0 0,.slice none 0 0,.slice none 0 0] 70)=I from by rw [b0.out];rfl];refine Q03 I 6 (by kernel_rfl) (by kernel_rfl) (Below.refl _ _) ?_;simp only [take_succ_cons,take_zero,take_nil]
 iterate 2 (refine Q06 (by rfl) (fun K y=>?_);go_simp;refine y _ ?_;clear y K)
 refine Q0e 8 (TxO (w.heap.size+2) v) rfl (of_decide_eq_true rfl) (TxO.mono _ _) (fun z H=>?_) ?_
 ·simp only [Q18,filter_nil,Q00];refine ⟨rfl,?_⟩;go_simp;exact (O1.out _ (D00 aj H) (by have:=H.size;omega)).mono (by rintro e w7 ⟨v,rfl,h,b⟩;exact ⟨_,rfl,h,b⟩)
 refine Q0e 9 (RwT (w.heap.size+2)) rfl (of_decide_eq_true rfl) (RwT.mono _) (fun z H=>?_) ?_
 ·change Q00 z [] _ _;simp only [Q00];refine ⟨rfl,?_⟩;obtain ⟨w7,bz,b',b7⟩:=Qpu z;go_simp;exact ⟨z.heap.size,rfl,b',by have:=H.size;omega⟩
 refine Q0e 10 (FcT (w.heap.size+2) v) rfl (of_decide_eq_true rfl) (FcT.mono _ _) (fun z H=>?_) ?_
 ·change Q00 z [(9,_),(8,_)] _ _;rintro v9 ⟨R,rfl,ba,ao⟩ v8 ⟨h8,o8⟩;obtain ⟨J,L,rfl,_,_⟩:=h8.form;simp only [Q00];refine ⟨rfl,?_⟩;go_simp;exact ⟨Below.refl _ _,.slice J v.length L,R,rfl,⟨h8,o8⟩,⟨_,_,_,rfl⟩,ba,ao⟩
 refine Q0e 3 (PtrN 70 (Q04 zN) (w.heap.size+2)) rfl (of_decide_eq_true rfl) (PtrN.mono _ _ _) (fun z H=>?_) ?_
 ·show _/\_;refine ⟨by rfl,?_⟩;go_simp;exact ⟨Qba _ _,z.heap.size,rfl,D01 z 70 (Q04 zN),by have:=H.size;omega⟩
 refine Q0i ?_;intro u2 S v8 _ v9 _ bB b3 v3 h3;change wpList _ _ _ [_] _ _;simp only [Act.put,Qzs];obtain ⟨vv,R,rfl,ap,⟨J,n8,L,rfl⟩,ah,ao⟩:=b3;obtain ⟨F,rfl,a1,bh⟩:=h3;have aC:=D00 aj S;have aN:=Hz.out.kept S;have aJ:∀ u∈Q2o (.slice J n8 L) R,u.oneCell'=true:=by intro u G;simp [Q2o,nilV] at G;rcases G with rfl|rfl|rfl|rfl<;>rfl
 have aK:((List.replicate 16 zN).flatMap Q04).length=64:=by rw [Q9p];rfl
 have bu:R≠F:=by
  rintro rfl;have:=congrArg List.length (Qii ah a1);rw [aK] at this;simp [Q0b] at this
 have aO:(Q04 zN).length=4:=rfl;have aQ:u2.rangeAt w.heap.size 0 Z:=rangeAt.ext ae.out ⟨u2,S⟩;clear k1;have a':∀ u,Below u2.heap.size u2 u->u.rangeAt w.heap.size 0 Z:=fun u G=>rangeAt.ext aQ ⟨u,G⟩;have bj:=a1.lt
 go_wp2_with (first
  |((with_reducible refine Qgs 10 ?_);refine Qsa 70 3 10 F (Q2o (.slice J n8 L) R) Q07 a1 rfl aO aJ aC (by omega) ?_;intro w3 aF b1 g3;have aR:w3.rangeAt w.heap.size 0 Z:=rangeAt.ext ae.out ⟨w3,(S.grown g3 S.size (fun k T=>by cases T;omega))⟩)
  |((with_reducible refine Qgl 12 ?_);refine Qlw 187 11 w.heap.size 0 Qoe ay.out aR ?_))
 have FP:FpN w R F (.slice J n8 L) v (List.replicate 16 zN) w3:=⟨b1,aN.grown g3 (fun e=>by simp at e;omega),ah.grown g3 (fun e=>by simp at e;omega),aF,⟨Q02.off_v ap.1 a1 (Qr1 (Q2a.zero u2 0).is) g3,ap.2⟩,fun k T=>by rw [List.eq_of_mem_replicate T];exact Q2a.zero _ _,by simp,ao,bh⟩;clear a' aQ aR ah a1 aF aN g3 ap aC S aK aO O1 Hz ae ay aj bl bj
 go_loopw [13] (fun ix wr=>∃ (i:Nat) (N:List Nd),i<=16/\ix=.int .i64 (i:Int)/\FpN w R F (.slice J n8 L) v N wr/\∀ j<i,(N[j]?).map erN=(ks[j]?).map clN) (fun ix _=>16 - (intOf ix).toNat)
 case atStart=>exact ⟨0,List.replicate 16 zN,by omega,rfl,FP,fun j hj=>by omega⟩
 case round =>
  obtain ⟨i,N,bw,rfl,D,a9⟩:=hrel;obtain ⟨wo,rfl⟩:∃ x,x=wr:=⟨wr,rfl⟩;by_cases E:i<16
  ·have bx:(i:Int)<16:=by omega
   have bg:i<N.length:=by rw [D.hl];exact E
   have aH:=Q7d Z i E _ (aV.out i E);have j3:=fun u:Ext wo=>u.cell ((D.hF.cell 3).trans (show _=some (Value.slice (some ⟨R,0,none⟩) 16 16) from rfl));have cs:=fun (u:World) (G:Below wo.heap.size wo u)=>aZ.out i E u (D00 D.hb G);have am:ks[i]?=some (ks.getD i nilN):=by rw [List.getD_eq_getElem?_getD,getElem?_eq_getElem (by have:=az.out;omega)];rfl
   obtain ⟨K,y⟩:=Qe (ks.getD i nilN);rw [<-y] at aH am;simp only [<-y] at cs;obtain ⟨V,hV⟩:=Qe (nv K);rw [<-hV] at aH;simp only [<-hV] at cs;have Cs:=Qhd cs;have aY:=Qhd am;have aW:=Qhd a9;have bA:IntKind.i64.wrap ((i:Int)+1)=((i+1:Nat):Int):=by rw [IntWalk.i64_in _ (by omega)];omega
   have bv:=D.hR.lt;clear cs y hV am a9 E
   go_wp2_with fail
   refine Q03 wo 6 (by kernel_rfl) (by kernel_rfl) (Below.refl _ _) ?_;simp only [take_succ_cons,take_zero,take_nil]
   iterate 4 (refine Q06 (by rfl) (fun K y=>?_);go_simp;refine y _ ?_;clear y K)
   refine Q0e 21 (NdT (R+1) (clN K)) rfl (of_decide_eq_true rfl) (NdT.mono _ _) (fun z H=>?_) ?_
   ·simp only [Q18,filter_nil,Q00];refine ⟨rfl,?_⟩;go_simp;refine (Cs.out z H).mono ?_;rintro e w7 ⟨t,rfl,ot,et,b7⟩;exact ⟨_,rfl,⟨t,rfl,ot.lower (by have:=H.size;omega),et⟩,b7⟩
   (refine Q06 (by rfl) (fun K y=>?_);go_simp;refine y _ ?_;clear y K)
   refine Q0i ?_;intro u3 bc bC b4;change wpList _ _ _ [_] _ _;simp only [Act.put,Qzs];obtain ⟨t,rfl,ot,et⟩:=b4;have E:i<16:=by omega
   have ax:=D.kept bc;have bk:=ot.is.one;have bi:=Q0b t;have aL:(Q04 t).toArray.size=4:=by rw [List.size_toArray,bi]
   have bm:=ax.there i E;have aT:=ax.put i E t ot;have be:Hid (∀ j<i+1,((N.set i t)[j]?).map erN=(ks[j]?).map clN):=Qhd (fun j hj=>by
    by_cases e:j=i
    ·subst e;rw [List.getElem?_set_self bg,aY.out];simp [et]
    rw [List.getElem?_set_ne (fun h=>e h.symm)];exact aW.out j (by omega))
   clear j3 E
   go_wp2_with (refine wpList_store_mid (by rfl) 70 (.tmp 22) (.tmp 21) (by rfl) R (i*4) (Q04 t).toArray (by rfl) (by rfl) (by rw [aL];exact bm) (by rw [aL];kernel_rfl) (all_oneCell_toArray bk) ?_)
   go_roundw
   case rel=>exact ⟨i+1,N.set i t,by omega,by go_num,aT,be.out⟩
   case measure=>simp [intOf];omega
  obtain rfl:i=16:=by omega
  have bo:=D.hz;have b9:=D.hF;have bd:=D.hb;have aI:N.map erN=clNL ks:=by
   rw [Q1x];apply List.ext_getElem?;intro j;by_cases hj:j<16
   ·rw [getElem?_map,getElem?_map];exact a9 j hj
   rw [List.getElem?_eq_none (by rw [List.length_map,D.hl];omega),List.getElem?_eq_none (by rw [List.length_map,az.out];omega)]
  have ak:=fun u' hg hb=>D.done (u':=u') hg hb;rw [aI] at ak;have aX:=Qhd ak;clear ak aI E a9
  go_wp2_with (first
   |(refine Qla 70 3 F Q07 b9 (by rfl) ?_)
   |((with_reducible refine Qgs 24 ?_);refine Qsa 70 2 24 (w.heap.size+1) (Q2o (.slice J n8 L) R) Q07 bo (by rfl) (by rfl) aJ bd (by omega) ?_;intro w7 h7 b7 g7))
  exact bodyPost_ret (Q0h rfl _ _ (w.heap.size+1) Q07 h7 (by rfl) rfl) rfl (aX.out _ g7 b7)
theorem Ql9 (w:World):Calls Tryz.prog 106 #[.nilIface] w (Q1d nP w):=by
 have H:=D01 w 70 (Q04 zN);have G:Below w.heap.size w (w.alloc (.cells (Q04 zN).toArray 70)):=Qba _ _;have y:∀ u,Below w.heap.size w u->Q1d nP w (.returned (.agg (Q04 zN).toArray)) u:=fun u h=>⟨zN,rfl,Q2a.zero _ _,rfl,h⟩;have z:=Qhd y;clear y;go_enter Tryz.func106,Tryz.ntmps106
 go_wp2_with ((with_reducible refine Qgs 5 ?_);refine Qsa 70 2 5 w.heap.size (Q04 zN) Q07 H (by rfl) (by rfl) (by intro u h;simp [Qgo] at h;rcases h with rfl|rfl<;>rfl) G (le_refl _) ?_;intro I E D _)
 exact bodyPost_ret (Q0h rfl _ _ w.heap.size Q07 E rfl rfl) rfl (z.out _ D)
theorem Qlb (X:Value)(T:Pn)(w:World)(z:∀ u,Below w.heap.size w u->Calls Tryz.prog 204 #[X] u (Q1d T u)):Calls Tryz.prog 106 #[.iface 182 X] w (Q1d T w):=by
 have S:Blk 70 (w.alloc (.cells #[.int .i64 0,.slice none 0 0,.slice none 0 0,.slice none 0 0] 70)) w.heap.size (Q04 zN):=D01 w 70 (Q04 zN);have y:Below w.heap.size w (w.alloc (.cells #[.int .i64 0,.slice none 0 0,.slice none 0 0,.slice none 0 0] 70)):=Qba _ _;have D:=z _ y;have H:=Qhd D;clear z D;go_enter Tryz.func106,Tryz.ntmps106
 go_wp2_with (first
  |(go_at_call 204;(with_reducible refine H.out.mono ?_);rintro e V ⟨t,rfl,G,K,h⟩;have U:=S.kept h;have I:=D00 y h;have N:=G.is.one;have E:=Q0b t)
  |((with_reducible refine Qgs 7 ?_);refine Qsa 70 2 7 w.heap.size (Q04 t) Q07 U E (by rfl) N I (le_refl _) ?_;intro W M J L))
 have O:w.heap.size<(w.alloc (.cells #[.int .i64 0,.slice none 0 0,.slice none 0 0,.slice none 0 0] 70)).heap.size:=by simp
 exact bodyPost_ret (Q0h rfl _ _ w.heap.size Q07 M E rfl) rfl ⟨t,rfl,(G.off L O).lower (by omega),K,J⟩
theorem Ql8 (X:Value)(T:Pn)(w:World)(z:∀ u,Below w.heap.size w u->Calls Tryz.prog 205 #[X] u (Q1d T u)):Calls Tryz.prog 106 #[.iface 185 X] w (Q1d T w):=by
 have S:Blk 70 (w.alloc (.cells #[.int .i64 0,.slice none 0 0,.slice none 0 0,.slice none 0 0] 70)) w.heap.size (Q04 zN):=D01 w 70 (Q04 zN);have y:Below w.heap.size w (w.alloc (.cells #[.int .i64 0,.slice none 0 0,.slice none 0 0,.slice none 0 0] 70)):=Qba _ _;have D:=z _ y;have H:=Qhd D;clear z D;go_enter Tryz.func106,Tryz.ntmps106
 go_wp2_with (first
  |(go_at_call 205;(with_reducible refine H.out.mono ?_);rintro e V ⟨t,rfl,G,K,h⟩;have U:=S.kept h;have I:=D00 y h;have N:=G.is.one;have E:=Q0b t)
  |((with_reducible refine Qgs 7 ?_);refine Qsa 70 2 7 w.heap.size (Q04 t) Q07 U E (by rfl) N I (le_refl _) ?_;intro W M J L))
 have O:w.heap.size<(w.alloc (.cells #[.int .i64 0,.slice none 0 0,.slice none 0 0,.slice none 0 0] 70)).heap.size:=by simp
 exact bodyPost_ret (Q0h rfl _ _ w.heap.size Q07 M E rfl) rfl ⟨t,rfl,(G.off L O).lower (by omega),K,J⟩
theorem Qlc (X:Value)(T:Pn)(w:World)(z:∀ u,Below w.heap.size w u->Calls Tryz.prog 206 #[X] u (Q1d T u)):Calls Tryz.prog 106 #[.iface 189 X] w (Q1d T w):=by
 have S:Blk 70 (w.alloc (.cells #[.int .i64 0,.slice none 0 0,.slice none 0 0,.slice none 0 0] 70)) w.heap.size (Q04 zN):=D01 w 70 (Q04 zN);have y:Below w.heap.size w (w.alloc (.cells #[.int .i64 0,.slice none 0 0,.slice none 0 0,.slice none 0 0] 70)):=Qba _ _;have D:=z _ y;have H:=Qhd D;clear z D;go_enter Tryz.func106,Tryz.ntmps106
 go_wp2_with (first
  |(go_at_call 206;(with_reducible refine H.out.mono ?_);rintro e V ⟨t,rfl,G,K,h⟩;have U:=S.kept h;have I:=D00 y h;have N:=G.is.one;have E:=Q0b t)
  |((with_reducible refine Qgs 7 ?_);refine Qsa 70 2 7 w.heap.size (Q04 t) Q07 U E (by rfl) N I (le_refl _) ?_;intro W M J L))
 have O:w.heap.size<(w.alloc (.cells #[.int .i64 0,.slice none 0 0,.slice none 0 0,.slice none 0 0] 70)).heap.size:=by simp
 exact bodyPost_ret (Q0h rfl _ _ w.heap.size Q07 M E rfl) rfl ⟨t,rfl,(G.off L O).lower (by omega),K,J⟩
theorem Qrp {p:List UInt8}{l:List Rt}(h:Sml (pre p l)):Sml l:=fun r hr=>by
 have:=h _ (Q4d (p:=p) hr);simp only [List.length_append] at this;exact ⟨by omega,this.2⟩
theorem PlC.leaf {D:Value}{p:List UInt8}{E:Value}{v:List UInt8}{z:Value}{ks:List Nd}:PlC (.mk 1 D p E v z ks):=fun X w h _=>by
 have y:Value.iface 182 _=Value.iface 189 X:=h;injection y with h1 _
 exact absurd h1 (by decide)
theorem PlC.road {D:Value}{p:List UInt8}{E:Value}{v:List UInt8}{z:Value}{k:Nd}:PlC (.mk 2 D p E v z [k]):=fun X w h _=>by
 have y:Value.iface 185 _=Value.iface 189 X:=h;injection y with h1 _
 exact absurd h1 (by decide)
theorem Qh7:∀ (n:Nat)(t:Nd),SizeOf.sizeOf t<=n->∀ l,Q1c l (clN t)->Sml l->ShC t/\PlC t
 | 0,.mk kd pv p vv v kv ks,h=>by simp at h
 | n+1,.mk kd pv p vv v kv ks,h=>by
  intro l z L;have a2:∀ k∈ks,∀ l,Q1c l (clN k)->Sml l->ShC k/\PlC k:=by
   intro k y;refine Qh7 n k ?_;have:=List.sizeOf_lt_of_mem y;simp only [Nd.mk.sizeOf_spec] at h;omega
  have a0:∀ w,IsNv w (.mk 3 pv p vv v kv ks)->kd=3->∃ va vn vc,vv=.slice va vn vc/\Calls Tryz.prog 206 #[.agg (nvL ks++[Value.slice va vn vc]).toArray] w (Q1d (.mk 3 [] v (clNL ks)) w):=by
   intro w I h3;subst h3;generalize hT:(Nd.mk 3 pv p vv v kv ks)=T at I;cases I with
   | none=>cases hT
   | leaf=>cases hT
   | road=>cases hT
   | fork pv p vv v kv ks hv hl y =>
    cases hT;obtain ⟨G,H,rfl,_,_⟩:=hv.form;rw [show clN (.mk 3 pv p (.slice G v.length H) v kv ks)=.mk 3 [] v (clNL ks) from rfl] at z;have a1:(v.length<=1000000000)/\∀ (i:Nat) (k:Nd),ks[i]?=some k->∃ D,Q1c D (clN k)/\Sml D:=by
     generalize hT:(Pn.mk 3 [] v (clNL ks))=T at z;cases z with
     | none=>cases hT
     | leaf=>cases hT
     | road=>cases hT
     | fork v2 ls ks2 hl2 J K hm =>
      cases hT;refine ⟨?_,fun i k U=>?_⟩
      ·by_cases h0:v=[]
       ·rw [h0];simp
       exact (L ([],v) (List.mem_append_left _ (by rw [if_neg h0];exact mem_singleton.2 rfl))).2
      have a7:i<16:=by have:=(List.getElem?_eq_some_iff.1 U).1;omega
      have S:ls[i]?=some (ls[i]'(by omega)):=getElem?_eq_getElem _;refine ⟨ls[i]'(by omega),K i _ _ S (by rw [Q1x,getElem?_map,U];rfl),fun r W=>?_⟩;have:=L _ (List.mem_append_right _ (Q4e (i:=0) S W));simp only [List.length_cons] at this;exact ⟨by omega,this.2⟩
    refine ⟨G,_,H,rfl,Qjl G _ H v a1.1 ks hl (fun k J=>?_) w hv y⟩;obtain ⟨i,U⟩:=List.getElem?_of_mem J;obtain ⟨D,S,K⟩:=a1.2 i k U;exact (a2 k J D S K).1
  refine ⟨fun w I=>?_,?_⟩
  ·cases I with
   | none pv p vv v kv ks=>exact Ql9 w
   | leaf pv p vv v kv ks hp hv =>
    obtain ⟨N,O,rfl,_,_⟩:=hp.form;obtain ⟨G,H,rfl,_,_⟩:=hv.form;rw [show clN (.mk 1 (.slice N p.length O) p (.slice G v.length H) v kv ks)=.mk 1 p v [] from rfl] at z |-;have hb:p.length<=2000000/\v.length<=1000000000:=by
     generalize hT:(Pn.mk 1 p v [])=T at z;cases z with
     | none=>cases hT
     | leaf p2 v2 hv2 hp2=>cases hT;exact L (p,v) (mem_singleton.2 rfl)
     | road=>cases hT
     | fork=>cases hT
    exact Qlb _ _ w (fun u E=>Qjk N G _ O _ H p v (by omega) (by omega) u (hp.below E) (hv.below E))
   | road pv p vv v kv k hp hk3 y =>
    obtain ⟨N,O,rfl,_,_⟩:=hp.form;rw [show clN (.mk 2 (.slice N p.length O) p vv v kv [k])=.mk 2 p [] [clN k] from rfl] at z |-;have a8:p.length<=2000000:=Q37 z 2000000 (fun r W=>(L r W).1);obtain ⟨D,rfl,a4⟩:∃ D,l=pre p D/\Q1c D (clN k):=by
     generalize hT:(Pn.mk 2 p [] [clN k])=T at z;cases z with
     | none=>cases hT
     | leaf=>cases hT
     | road p2 l2 k2 hp0 hn K J=>cases hT;exact ⟨l2,rfl,K⟩
     | fork=>cases hT
    have a5:=(a2 k (mem_singleton.2 rfl) D a4 (Qrp L)).2;exact Ql8 _ _ w (fun u E=>Qjj N _ O p (by omega) k hk3 a5 u (hp.below E) (y.kept E))
   | fork pv p vv v kv ks hv hl y =>
    obtain ⟨G,H,rfl,_,_⟩:=hv.form;refine Qlc _ _ w (fun u E=>?_);obtain ⟨a,Z,c,e,V⟩:=a0 u (.fork pv p _ v kv ks (hv.below E) hl (fun k J=>(y k J).kept E)) rfl;cases e;exact V
  intro X w M I;cases I with
  | none pv p vv v kv ks=>exact absurd M (by unfold nv;simp)
  | leaf pv p vv v kv ks hp hv=>exact PlC.leaf X w M (.leaf _ _ _ _ _ _ hp hv)
  | road pv p vv v kv k hp hk3 y=>exact PlC.road X w M (.road _ _ _ _ _ _ hp hk3 y)
  | fork pv p vv v kv ks hv hl y =>
   obtain ⟨a,Z,c,e,V⟩:=a0 w (.fork pv p _ v kv ks hv hl y) rfl;subst e;rw [show nv (.mk 3 pv p (.slice a Z c) v kv ks)=.iface 189 (.agg (nvL ks++[Value.slice a Z c]).toArray) from rfl] at M;exact (Value.iface.inj M).2▸V
theorem Q7o (l:List UInt8):∀ x∈Q0c l,x.toNat<16:=by
 intro x z;unfold Q0c at z;obtain ⟨y,_,h⟩:=List.mem_flatMap.1 z;unfold Qab at h;have D:=y.toNat_lt;simp only [mem_cons,List.not_mem_nil,or_false] at h;rcases h with rfl|rfl
 ·rw [UInt8.toNat_div];show y.toNat / 16<16;omega
 rw [UInt8.toNat_mod];show y.toNat % 16<16;omega
def pp (t:Nd)(key v:List UInt8):Pn × Int:=if rgt 0 t=false then (nP,1) else if 32<key.length then (nP,3) else if 1024<v.length then (nP,2) else (putQ (clN t) (Q0c key) v,0)
theorem Q9k (h:List UInt8):(Q0c h).length=2*h.length:=by
 have:=Q10 h;omega
end Go.Proofs.YtbdmkfjgnjfjbaaGreat
