/- Nodes of a call's own; sixteen of them in a row; contracts' parts for grown. | The reference's grown: nothing, one route, a road. | The reference's grown: a roa -/
import Derived.Test.YtbdmkfjgnjfjbaaGreatBlockListsK04
import Derived.Test.YtbdmkfjgnjfjbaaGreatBlockListsK02
import Derived.Test.YtbdmkfjgnjfjbaaGreatBlockListsK05
set_option linter.unusedSimpArgs false
set_option linter.unusedVariables false
set_option maxHeartbeats 4000000
set_option maxRecDepth 100000
open List (filter_nil getElem_mem length_singleton length_take mem_map take_nil take_succ_cons take_zero)
open Nat (add_zero le_refl le_trans lt_succ_self zero_mul)
namespace Go.Proofs.YtbdmkfjgnjfjbaaGreat
open Go.RowKit
def TxO (B:Nat)(t:List UInt8):Ty:=fun v w=>Q02 w v t/\∀ k,v.ownBlock=some k->B<=k
theorem TxO.mono (B:Nat)(t:List UInt8):Mono (TxO B t):=fun _ _ _ ⟨h1,h2⟩ hb=>⟨Q05.kept h1 hb,h2⟩
theorem Q05.offV {α:Type}{f:α->List Value}{size:Nat}{w w':World}{v:Value}{g:Nat}{l:List α}(h:Q05 f size w v l)(hg:w.grownBy w' (some g))(hne:∀ x,v.ownBlock=some x->x≠g):Q05 f size w' v l:=by
 obtain ⟨a,c,rfl,_⟩:=h.form;cases a with
 | none =>
  obtain ⟨D,a,I,z,E,G,y⟩:=h;simp only [Value.slice.injEq] at z;obtain ⟨rfl,_,rfl⟩:=z;refine ⟨D,none,_,rfl,E,G,.inl ?_⟩;rcases y with y|⟨_,_,_,H,_⟩
  ·exact y
  simp at H
 | some p =>
  obtain ⟨b,off,s⟩:=p;exact h.grownNe hg (hne b rfl)
inductive Q2a (w:World)(B:Nat):Nd->Prop where
 | mk (kd:Int) (pv:Value) (p:List UInt8) (vv:Value) (v:List UInt8) (kv:Value) (ks:List Nd) (hp:Q02 w pv p) (op:∀ k,pv.ownBlock=some k->B<=k) (hv:Q02 w vv v) (ov:∀ k,vv.ownBlock=some k->B<=k)
   (hk:Q05 Q04 4 w kv ks) (ok:∀ k,kv.ownBlock=some k->B<=k) (h:∀ k∈ks,Q2a w B k):Q2a w B (.mk kd pv p vv v kv ks)
theorem Q2a.is {w:World}{B:Nat}{x:Nd}(h:Q2a w B x):IsNd w x:=by
 induction h with
 | mk kd pv p vv v kv ks hp _ hv _ hk _ _ ih=>exact .mk kd pv p vv v kv ks hp hv hk ih
theorem Q2a.kept {w w':World}{B:Nat}{x:Nd}(h:Q2a w B x)(y:Below w.heap.size w w'):Q2a w' B x:=by
 induction h with
 | mk kd pv p vv v kv ks hp op hv ov hk ok _ ih=>exact .mk kd pv p vv v kv ks (hp.below y) op (hv.below y) ov (hk.below y) ok ih
theorem Q2a.lower {w:World}{B B':Nat}{x:Nd}(h:Q2a w B x)(y:B'<=B):Q2a w B' x:=by
 induction h with
 | mk kd pv p vv v kv ks hp op hv ov hk ok _ ih=>exact .mk kd pv p vv v kv ks hp (fun k e=>le_trans y (op k e)) hv (fun k e=>le_trans y (ov k e)) hk (fun k e=>le_trans y (ok k e)) ih
theorem Q2a.off {w w':World}{B g:Nat}{x:Nd}(h:Q2a w B x)(y:w.grownBy w' (some g))(z:g<B):Q2a w' B x:=by
 induction h with
 | mk kd pv p vv v kv ks hp op hv ov hk ok _ ih=>exact .mk kd pv p vv v kv ks (hp.offV y (fun k e=>by have:=op k e;omega)) op (hv.offV y (fun k e=>by have:=ov k e;omega)) ov (hk.offV y (fun k e=>by have:=ok k e;omega)) ok ih
def zN:Nd:=.mk 0 (.slice none 0 0) [] (.slice none 0 0) [] (.slice none 0 0) []
theorem Q2a.zero (w:World)(B:Nat):Q2a w B zN:=.mk 0 _ [] _ [] _ [] (Q05.nil b8 1 w) (by intro k e;cases e) (Q05.nil b8 1 w) (by intro k e;cases e) (Q05.nil Q04 4 w) (by intro k e;cases e) (by simp)
mutual
def erN:Nd->Pn
 | .mk kd _ p _ v _ ks=>.mk kd p v (erNL ks)
def erNL:List Nd->List Pn
 | []=>[]
 | k::ks=>erN k::erNL ks
end
theorem Q2u (ks:List Nd):erNL ks=ks.map erN:=by
 induction ks with
 | nil=>rfl
 | cons k ks ih=>simp [erNL,ih]
def NdT (B:Nat)(x:Pn):Ty:=fun v w=>∃ t:Nd,v=.agg (Q04 t).toArray/\Q2a w B t/\erN t=x
theorem NdT.mono (B:Nat)(x:Pn):Mono (NdT B x):=fun _ _ _ ⟨t,h,h2,h3⟩ hb=>⟨t,h,h2.kept hb,h3⟩
def NdT1 (B:Nat)(x:Pn):Ty:=fun v w=>∃ (g:Nat) (t:Nd),v=.slice (some ⟨g,0,none⟩) 1 1/\B<=g/\Q05 Q04 4 w v [t]/\Q2a w B t/\erN t=x
theorem NdT1.mono (B:Nat)(x:Pn):Mono (NdT1 B x):=fun _ _ _ ⟨g,t,h,h1,h2,h3,h4⟩ hb=>⟨g,t,h,h1,h2.below hb,h3.kept hb,h4⟩
theorem Q1p (l:List UInt8)(u:World):(convert 9 25 (.string ⟨l.toArray⟩)).run Tryz.prog u=.ok (.slice (some ⟨u.heap.size,0,none⟩) l.length (grownCap u l.length 0 5)) (Lib.bytesWorld u 5 ⟨l.toArray⟩):=by
 have:=Lib.run_convert_string_bytes (P:=Tryz.prog) u 9 25 5 ⟨l.toArray⟩ (show Tryz.prog.underlying 9=some .string by kernel_rfl) elU8.ht (show Tryz.prog.underlying 5=some (.int .u8) by kernel_rfl);simpa [ByteArray.size] using this
theorem Q2y (l:List UInt8)(y:l.length<=1000000000)(B:Nat)(u:World)(h:B<=u.heap.size):TxO B l (.slice (some ⟨u.heap.size,0,none⟩) l.length (grownCap u l.length 0 5)) (Lib.bytesWorld u 5 ⟨l.toArray⟩)/\Below u.heap.size u (Lib.bytesWorld u 5 ⟨l.toArray⟩):=by
 have:=Qd4 u 5 l (by unfold maxLen;omega);exact ⟨⟨this.1,fun k e=>by cases e;exact h⟩,this.2⟩
theorem Q6c {w:World}{ops:Array Oper}{D:List Oper}{o:Oper}{a:Act}{Q:Exit->Act->World->Prop}(K:o.guard=none)(l c:Operand)(N:o.op=Op.makeSlice 68 l c)
  (hl:a.eval l=.int .i64 16) (hc:a.eval c=.int .i64 16) {B:Nat} {w0:World}(hbel:Below B w0 w) (hB:B<=w.heap.size)
  (hK:∀ w',Blk 70 w' w.heap.size ((List.replicate 16 zN).flatMap Q04)->Below B w0 w'->Below w.heap.size w w'->wpList Tryz.prog ops Q D (a.put o.dst (.slice (some ⟨w.heap.size,0,none⟩) 16 16)) w') :
  wpList Tryz.prog ops Q (o::D) a w:=by
 obtain ⟨i,M,T,O,I⟩:=Qem.info;refine wpList_make_full w K l c _ N B 70 i _ 4 Qem.ht M T O .i64 .i64 16 16 16 hl hc rfl rfl (by rw [I];omega) (by unfold maxLen;omega) hB fun w' G z=>?_;have hcs:(madeCells (Value.agg #[.int .i64 0,.slice none 0 0,.slice none 0 0,.slice none 0 0]).cells (16*4)).toList=(List.replicate 16 zN).flatMap Q04:=by
  unfold madeCells;rw [Array.toList_map,Array.toList_range];rfl
 have H:Blk 70 w' w.heap.size ((List.replicate 16 zN).flatMap Q04):=by
  rw [<-hcs];rcases G.2 with ⟨h,_⟩|⟨V,U,E,h,_,L,_,_,J,S⟩
  ·simp at h
  simp only [Value.slice.injEq,Option.some.injEq,Addr.mk.injEq,and_true,true_and] at h;obtain ⟨rfl,rfl⟩:=h;have:E.toList=(madeCells (Value.agg #[.int .i64 0,.slice none 0 0,.slice none 0 0,.slice none 0 0]).cells (16*4)).toList:=by
   rw [<-S];exact (List.take_of_length_le (by simp [J])).symm
  unfold Blk;rw [<-this];simpa using L
 exact hK w' H (hbel.grown z hB (fun k y=>by cases y)) ((Below.refl w.heap.size w).grown z (le_refl _) (fun k y=>by cases y))
theorem Q9p (l:List Nd):(l.flatMap Q04).length=l.length*4:=Q28 Q0b l
theorem Qle (l:List Nd)(i:Nat)(E:i<l.length)(t:Nd):Qja (l.flatMap Q04) (i*4) (Q04 t)=(l.set i t).flatMap Q04:=by
 have h:l=l.take i++(l[i]::l.drop (i+1)):=by rw [List.getElem_cons_drop,List.take_append_drop]
 have y:l.set i t=l.take i++(t::l.drop (i+1)):=by rw [List.set_eq_take_append_cons_drop,if_pos E]
 rw [y];have z:l.flatMap Q04=(l.take i).flatMap Q04++(Q04 l[i]++(l.drop (i+1)).flatMap Q04):=by
  conv=>lhs;rw [h]
  rw [List.flatMap_append,List.flatMap_cons]
 rw [z,List.flatMap_append,List.flatMap_cons];have D:i*4=((l.take i).flatMap Q04).length:=by rw [Q9p,length_take];omega
 rw [D];exact Q8r (Q04 l[i]) (Q04 t) (by rw [Q0b,Q0b]) _ _
theorem Qa2 {B:Nat}{a w:World}(h:Below B a w)(n:Nat):Below B a (w.drewN n):=h.trans ⟨rfl,rfl,rfl,le_refl _,fun _ _=>rfl⟩
def Q1d (x:Pn)(w:World)(e:Ending)(w':World):Prop:=∃ t:Nd,e=.returned (.agg (Q04 t).toArray)/\Q2a w' w.heap.size t/\erN t=x/\Below w.heap.size w w'
def Sml (l:List Rt):Prop:=∀ r∈l,r.1.length<=2000000/\r.2.length<=1000000000
def GrwC (n:Nat):Prop:=∀ (l:List Rt) (a:Option Addr) (L cap:Nat) (w:World),l.length=L->L<=2000000->Sml l->OkR n l->Q05 Q0d 2 w (.slice a L cap) l->Calls Tryz.prog 112 #[.slice a L cap] w (Q1d (grw n l) w)
theorem Q6w {w:World}{a:Option Addr}{L cap:Nat}{l:List Rt}(h:Q05 Q0d 2 w (.slice a L cap) l)(k:Nat)(D:k<l.length):∃ b off,a=some ⟨b,off,none⟩/\w.cell? ⟨b,off+k*2,none⟩=some (.string ⟨l[k].1.toArray⟩)/\w.cell? ⟨b,off+k*2+1,none⟩=some (.string ⟨l[k].2.toArray⟩):=by
 obtain ⟨b,off,z,y⟩:=Q05.cells (f:=Q0d) (size:=2) (fun _=>rfl) h k D;exact ⟨b,off,z,by simpa using y 0 _ rfl,by simpa [Nat.add_assoc] using y 1 _ rfl⟩
theorem Qgo:Q04 zN=[.int .i64 0,.slice none 0 0,.slice none 0 0,.slice none 0 0]:=rfl
theorem Qb4 (n:Nat)(a:Option Addr)(cap:Nat)(w:World):Calls Tryz.prog 112 #[.slice a 0 cap] w (Q1d (grw n []) w):=by
 have H:=D01 w 70 (Q04 zN);have G:Below w.heap.size w (w.alloc (.cells (Q04 zN).toArray 70)):=Qba _ _;have y:∀ u,Below w.heap.size w u->Q1d (grw n []) w (.returned (.agg (Q04 zN).toArray)) u:=fun u h=>⟨zN,rfl,Q2a.zero _ _,by rw [Q9m];rfl,h⟩;have z:=Qhd y;clear y;go_enter Tryz.func112,Tryz.ntmps112
 go_wp2_with ((with_reducible refine Qgs 12 ?_);refine Qsa 70 2 12 w.heap.size (Q04 zN) Q07 H (by rfl) (by rfl) (by intro u h;simp [Qgo] at h;rcases h with rfl|rfl<;>rfl) G (le_refl _) ?_;intro I E D _)
 exact bodyPost_ret (Q0h rfl _ _ w.heap.size Q07 E rfl rfl) rfl (z.out _ D)
theorem Qnm (n:Nat)(r:Rt)(a:Option Addr)(cap:Nat)(w:World)(W:Sml [r])(h:Q05 Q0d 2 w (.slice a 1 cap) [r]):Calls Tryz.prog 112 #[.slice a 1 cap] w (Q1d (grw (n+1) [r]) w):=by
 obtain ⟨D,H⟩:=Qe (w.alloc (.cells (Q04 zN).toArray 70));have hz:Blk 70 D w.heap.size (Q04 zN):=by rw [H];exact D01 w _ _
 have T:Below w.heap.size w D:=by rw [H];exact Qba _ _
 have ao:D.heap.size=w.heap.size+1:=by rw [H];simp
 have a3:=Qhd H;obtain ⟨b,off,rfl,I,c1⟩:=Q6w (h.below T) 0 (by simp);simp only [List.getElem_cons_zero,zero_mul,add_zero] at I c1;obtain ⟨y,z⟩:=r;obtain ⟨Z,a0⟩:=W _ (List.mem_singleton.2 rfl);dsimp only at I c1 Z a0;have k0:=fun u:Ext D=>u.cell I;have k1:=fun u:Ext D=>u.cell c1;have v1:=Q1p y;have v2:=Q1p z;have L:=Qhd (fun u (hu:w.heap.size+1<=u.heap.size)=>Q2y y (by omega) (w.heap.size+1) u hu);have M:=Qhd (fun u (hu:w.heap.size+1<=u.heap.size)=>Q2y z (by omega) (w.heap.size+1) u hu);have Hz:=Qhd hz;have U:grw (n+1) [(y,z)]=.mk 1 y z []:=rfl;rw [U];clear H I c1 Z a0 W h hz U;go_enter Tryz.func112,Tryz.ntmps112
 go_wp2_with fail
 rw [show w.alloc (.cells #[.int .i64 0,.slice none 0 0,.slice none 0 0,.slice none 0 0] 70)=D from by rw [a3.out];rfl];refine Q03 D 11 (by kernel_rfl) (by kernel_rfl) (Below.refl _ _) ?_;simp only [take_succ_cons,take_zero,take_nil]
 iterate 4 (refine Q06 (by rfl) (fun K G=>?_);go_simp;refine G _ ?_;clear G K)
 refine Q0e 20 (TxO (w.heap.size+1) y) rfl (of_decide_eq_true rfl) (TxO.mono _ _) (fun J E=>?_) ?_
 ·simp only [Q18,filter_nil,Q00];refine ⟨rfl,?_⟩;go_simp;exact ⟨(L.out _ (by have:=E.size;omega)).2,(L.out _ (by have:=E.size;omega)).1⟩
 iterate 4 (refine Q06 (by rfl) (fun K G=>?_);go_simp;refine G _ ?_;clear G K)
 refine Q0e 25 (TxO (w.heap.size+1) z) rfl (of_decide_eq_true rfl) (TxO.mono _ _) (fun J E=>?_) ?_
 ·change Q00 J [] _ _;simp only [Q00];refine ⟨rfl,?_⟩;go_simp;exact ⟨(M.out _ (by have:=E.size;omega)).2,(M.out _ (by have:=E.size;omega)).1⟩
 refine Q0e 26 (NdT (w.heap.size+1) (.mk 1 y z [])) rfl (of_decide_eq_true rfl) (NdT.mono _ _) (fun J E=>?_) ?_
 ·change Q00 J [(25,_),(20,_)] _ _;rintro aj ⟨O,af⟩ ai ⟨N,ae⟩;obtain ⟨al,an,rfl,_,_⟩:=O.form;obtain ⟨ak,am,rfl,_,_⟩:=N.form;simp only [Q00];refine ⟨rfl,?_⟩;go_simp;exact ⟨Below.refl _ _,.mk 1 _ y _ z (.slice none 0 0) [],rfl,.mk 1 _ y _ z (.slice none 0 0) [] N ae O af (Q05.nil Q04 4 _) (by intro k e;cases e) (by simp),rfl⟩
 refine Q0i ?_;intro u2 S ai _ aj _ ap a9;change wpList _ _ _ [_] _ _;simp only [Act.put,Qzs];obtain ⟨t,rfl,ot,et⟩:=a9;have a6:=D00 T S;have ab:=Hz.out.kept S;have aa:=ot.is.one;have V:=Q0b t;clear k0 k1 v1 v2
 go_wp2_with ((with_reducible refine Qgs 26 ?_);refine Qsa 70 2 26 w.heap.size (Q04 t) Q07 ab V (by rfl) aa a6 (le_refl _) ?_;intro w3 h3 b3 g3)
 exact bodyPost_ret (Q0h rfl _ _ w.heap.size Q07 h3 V rfl) rfl ⟨t,rfl,(ot.off g3 (lt_succ_self _)).lower (Nat.le_succ _),et,b3⟩
def RtT' (L:Nat)(l:List Rt):Ty:=fun v w=>∃ (a:Option Addr) (c:Nat),v=.slice a L c/\Q05 Q0d 2 w (.slice a L c) l
theorem RtT'.mono (L:Nat)(l:List Rt):Mono (RtT' L l):=fun _ _ _ ⟨a,c,h,h2⟩ hb=>⟨a,c,h,h2.below hb⟩
theorem Qjy (n:Nat)(ih:GrwC n)(l:List Rt)(a:Option Addr)(L cap:Nat)(w:World)(hL:l.length=L)(h2:2<=L)(b6:L<=2000000)(hs:Sml l)(hc:0<fl l)(ai:∀ r∈l,fl l<=r.1.length)(aH:OkR n (Q0m (fl l) l))(h:Q05 Q0d 2 w (.slice a L cap) l) :
  Calls Tryz.prog 112 #[.slice a L cap] w (Q1d (grw (n+1) l) w):=by
 obtain ⟨H,a0⟩:=Qe (w.alloc (.cells (Q04 zN).toArray 70));have hz:Blk 70 H w.heap.size (Q04 zN):=by rw [a0];exact D01 w _ _
 have a5:Below w.heap.size w H:=by rw [a0];exact Qba _ _
 have bO:H.heap.size=w.heap.size+1:=by rw [a0];simp
 have aS:=Qhd a0;have V:0<l.length:=by omega
 have a6:L - 1<l.length:=by omega
 obtain ⟨b,off,rfl,M,c1⟩:=Q6w (h.below a5) 0 V;obtain ⟨b',bR,aB,d0,d1⟩:=Q6w (h.below a5) (L - 1) a6;clear d1;simp only [Option.some.injEq,Addr.mk.injEq,and_true] at aB;obtain ⟨rfl,rfl⟩:=aB;simp only [zero_mul,add_zero] at M c1;have T:fl l=com l[0].1 l[L - 1].1:=by
  unfold fl;rw [List.getLast?_eq_getElem?,hL,List.getElem?_eq_getElem a6];cases l with
  | nil=>simp at V
  | cons a l=>rfl
 have ah:hdP l=l[0]:=by
  cases l with
  | nil=>simp at V
  | cons a l=>rfl
 have s0:=hs _ (getElem_mem V);have sz:=hs _ (getElem_mem a6);have aj:=getElem_mem V;have U:=Q4j n l (by omega);rw [ah] at U;obtain ⟨y0,aJ⟩:=Qe (l[0]);obtain ⟨yz,aK⟩:=Qe (l[L - 1]);rw [<-aJ] at M c1 T s0 U aj ah;rw [<-aK] at d0 T sz;obtain ⟨D,P2⟩:=y0;obtain ⟨J,Z2⟩:=yz;dsimp only at M c1 d0 T s0 sz U;have k0:=fun u:Ext H=>u.cell M;have kz:=fun u:Ext H=>u.cell d0;have v1:=Q1p D;have vz:=Q1p J;have b4:IntKind.i64.wrap ((L - 1:Nat):Int)=((L - 1:Nat):Int):=IntWalk.i64_in _ (by omega);have b5:((L:Int) - 1)=((L - 1:Nat):Int):=by omega
 have bM:0<L:=by omega
 have b1:L - 1<L:=by omega
 have b2:((L - 1:Nat):Int)<(L:Int):=by omega
 have e0:((L:Int)==0)=false:=by rw [beq_eq_false_iff_ne];omega
 have e1:((L:Int)==1)=false:=by rw [beq_eq_false_iff_ne];omega
 obtain ⟨Zi,af⟩:=Qe (L - 1);rw [<-af] at b4 b5 b1 b2;simp only [<-af] at kz;clear af;have O1:=Qhd (fun u (hu:w.heap.size+1<=u.heap.size)=>Q2y D (by omega) (w.heap.size+1) u hu);have Oz:=Qhd (fun u (hu:w.heap.size+1<=u.heap.size)=>Q2y J (by omega) (w.heap.size+1) u hu);have CC:=Qhd (fun (u:World) (a1 a2:Option Addr) (c1 c2:Nat) (g1:Q02 u (.slice a1 D.length c1) D) (g2:Q02 u (.slice a2 J.length c2) J)=>(Q9b D J a1 a2 c1 c2 u g1 g2).mono (fun (e:Ending) (w':World) (q:e=.returned (.int .i64 (com D J))/\∃ m,w'=u.drewN m)=>(show e=.returned (.int .i64 ((fl l:Nat):Int))/\Below u.heap.size u w' from ⟨by rw [T];exact q.1,by obtain ⟨m,hm⟩:=q.2;rw [hm];exact Qa2 (Below.refl _ _) m⟩)));have Hz:=Qhd hz;have aQ:=Qhd T;rw [if_pos hc] at U;rw [U];have ag:fl l<=D.length:=ai _ aj;have aI:=h.below a5;have a3:=fun u (hu:Q05 Q0d 2 u (.slice (some ⟨b,off,none⟩) L cap) l)=>Q8p _ L cap l hL (fl l) ai (by omega) (by omega) u hu;have W:=fun (u:World) (O:Option Addr) (S:Nat) (hu:Q05 Q0d 2 u (.slice O L S) (Q0m (fl l) l))=>ih (Q0m (fl l) l) O L S u (by unfold Q0m;rw [List.length_map,hL]) b6 (fun r hr=>by
  unfold Q0m at hr;obtain ⟨s,bf,rfl⟩:=mem_map.1 hr;have:=hs s bf;exact ⟨by simp only [List.length_drop];omega,this.2⟩) aH hu
 have an:=Qqu (P:=Tryz.prog) (t:=9) (by kernel_rfl) D (fl l) ((fl l:Nat):Int) rfl ag;obtain ⟨C,hC⟩:=Qe (fl l);rw [<-hC] at hc ag an;simp only [<-hC] at a3 W CC |-;obtain ⟨SL,aA⟩:=Qe (Q0m C l);obtain ⟨SG,az⟩:=Qe (grw n SL);simp only [<-aA] at a3 W |-;simp only [<-az] at W |-;obtain ⟨I,ae⟩:=Qe (D.take C);have b9:I.length<=2000000:=by rw [ae,length_take];omega
 rw [<-ae] at an |-;have bm:=Q1p I;have ar:=Qhd (fun u (hu:w.heap.size+1<=u.heap.size)=>Q2y I (by omega) (w.heap.size+1) u hu);have aP:=Qhd a3;have aO:=Qhd W;have aR:=Qhd aI;have bN:(0:Int)<(C:Int):=by omega
 clear a0 c1 d0 T s0 sz U aj ah aJ aK hs h ai aH ih a3 W aI hz hC aA az ae b9 ag aQ V a6;go_enter Tryz.func112,Tryz.ntmps112
 go_wp2_with fail
 rw [show w.alloc (.cells #[.int .i64 0,.slice none 0 0,.slice none 0 0,.slice none 0 0] 70)=H from by rw [aS.out];rfl];refine Q03 H 14 (by kernel_rfl) (by kernel_rfl) (Below.refl _ _) ?_;simp only [take_succ_cons,take_zero,take_nil]
 iterate 4 (refine Q06 (by rfl) (fun K E=>?_);go_simp;refine E _ ?_;clear E K)
 refine Q0e 31 (TxO (w.heap.size+1) D) rfl (of_decide_eq_true rfl) (TxO.mono _ _) (fun y z=>?_) ?_
 ·simp only [Q18,filter_nil,Q00];refine ⟨rfl,?_⟩;go_simp;exact ⟨(O1.out _ (by have:=z.size;omega)).2,(O1.out _ (by have:=z.size;omega)).1⟩
 iterate 7 (refine Q06 (by rfl) (fun K E=>?_);go_simp;refine E _ ?_;clear E K)
 refine Q0e 39 (TxO (w.heap.size+1) J) rfl (of_decide_eq_true rfl) (TxO.mono _ _) (fun y z=>?_) ?_
 ·change Q00 y [] _ _;simp only [Q00];refine ⟨rfl,?_⟩;go_simp;exact ⟨(Oz.out _ (by have:=z.size;omega)).2,(Oz.out _ (by have:=z.size;omega)).1⟩
 refine Q3a (.int .i64 (C:Int)) (fun y z=>?_) ?_
 ·change Q00 y [(39,_),(31,_)] _ _;rintro bp ⟨ax,_⟩ bo ⟨aw,_⟩;obtain ⟨bD,bH,rfl,_,_⟩:=ax.form;obtain ⟨bC,bG,rfl,_,_⟩:=aw.form;simp only [Q00];refine ⟨rfl,?_⟩;go_simp;exact (CC.out y _ _ _ _ aw ax).mono fun e w' q=>⟨_,q.1,rfl,q.2⟩
 refine Q0i ?_;intro u2 Z bo _ bp _;change wpList _ _ _ [_] _ _;simp only [Act.put,Qzs];have aV:=D00 a5 Z;have bg:=Hz.out.kept Z;have bP:=Z.size;have m0:=fun u:Ext u2=>u.cell (show u2.cell? ⟨b,off,none⟩=some (.string ⟨D.toArray⟩) from by rw [Z.cell (World.block_lt_of_cell? H _ M)];exact M);have be:=aR.out.below Z;clear k0 kz v1 vz M
 go_wp2_with fail
 refine Q03 u2 13 (by kernel_rfl) (by kernel_rfl) (Below.refl _ _) ?_;simp only [take_succ_cons,take_zero,take_nil]
 iterate 6 (refine Q06 (by rfl) (fun K E=>?_);go_simp;refine E _ ?_;clear E K)
 refine Q0e 49 (TxO (w.heap.size+1) I) rfl (of_decide_eq_true rfl) (TxO.mono _ _) (fun y z=>?_) ?_
 ·simp only [Q18,filter_nil,Q00];refine ⟨rfl,?_⟩;go_simp;exact ⟨(ar.out _ (by have:=z.size;omega)).2,(ar.out _ (by have:=z.size;omega)).1⟩
 iterate 2 (refine Q06 (by rfl) (fun K E=>?_);go_simp;refine E _ ?_;clear E K)
 refine Q0e 52 (RtT' L SL) rfl (of_decide_eq_true rfl) (RtT'.mono _ _) (fun y z=>?_) ?_
 ·change Q00 y [] _ _;simp only [Q00];refine ⟨rfl,?_⟩;go_simp;refine (aP.out y (be.below z)).mono ?_;rintro e w7 ⟨O,S,rfl,b7,h7⟩;exact ⟨_,rfl,⟨O,S,rfl,h7⟩,b7⟩
 refine Q0e 53 (NdT (w.heap.size+1) SG) rfl (of_decide_eq_true rfl) (NdT.mono _ _) (fun y z=>?_) ?_
 ·change Q00 y [(52,_)] _ _;rintro br ⟨O,S,rfl,h7⟩;simp only [Q00];refine ⟨rfl,?_⟩;go_simp;refine (aO.out y O S h7).mono ?_;rintro e w7 ⟨t,rfl,G,N,b7⟩;exact ⟨_,rfl,⟨t,rfl,G.lower (by have:=z.size;omega),N⟩,b7⟩
 refine Q0e 54 (NdT1 (w.heap.size+1) SG) rfl (of_decide_eq_true rfl) (NdT1.mono _ _) (fun y z=>?_) ?_
 ·change Q00 y [(53,_)] _ _;rintro bs ⟨t,rfl,G,N⟩;obtain ⟨kd,pv,p,vv,v,kv,ks⟩:=t;have ba:=D02 Q0b y 70 [.mk kd pv p vv v kv ks] 1 rfl (by unfold maxLen;omega);have aD:Below y.heap.size y (y.alloc (.cells ([Nd.mk kd pv p vv v kv ks].flatMap Q04).toArray 70)):=Qba _ _;have bl:=G.kept aD;simp only [Q04,Q00];refine ⟨rfl,?_⟩;go_simp;exact ⟨aD,y.heap.size,.mk kd pv p vv v kv ks,rfl,by have:=z.size;omega,ba,bl,N⟩
 refine Q0e 55 (NdT (w.heap.size+1) (.mk 2 I [] [SG])) rfl (of_decide_eq_true rfl) (NdT.mono _ _) (fun y z=>?_) ?_
 ·change Q00 y [(54,_),(49,_)] _ _;rintro bt ⟨g,t,rfl,hg,hr,G,N⟩ bq ⟨ay,bk⟩;obtain ⟨bE,bI,rfl,_,_⟩:=ay.form;simp only [Q00];refine ⟨rfl,?_⟩;go_simp;refine ⟨Below.refl _ _,.mk 2 _ I (.slice none 0 0) [] _ [t],rfl,.mk 2 _ I (.slice none 0 0) [] _ [t] ay bk (Q05.nil b8 1 _) (by intro k e;cases e) hr (fun k e=>by cases e;exact hg) (fun k hk=>by rw [List.mem_singleton] at hk;rw [hk];exact G),?_⟩;simp only [erN,erNL,N]
 refine Q0i ?_;intro u3 aC bq _ br _ bs _ bt _ bS b0;change wpList _ _ _ [_] _ _;simp only [Act.put,Qzs];obtain ⟨t,rfl,G,N⟩:=b0;have aW:=D00 aV aC;have bh:=bg.kept aC;have bd:=G.is.one;have aG:=Q0b t;clear m0 an bm
 go_wp2_with ((with_reducible refine Qgs 55 ?_);refine Qsa 70 2 55 w.heap.size (Q04 t) Q07 bh aG (by rfl) bd aW (le_refl _) ?_;intro w3 h3 b3 g3)
 exact bodyPost_ret (Q0h rfl _ _ w.heap.size Q07 h3 aG rfl) rfl ⟨t,rfl,(G.off g3 (lt_succ_self _)).lower (Nat.le_succ _),N,b3⟩
def nilV:Value:=.slice none 0 0
def Q2o (vv:Value)(R:Nat):List Value:=[.int .i64 3,.slice none 0 0,vv,.slice (some ⟨R,0,none⟩) 16 16]
structure FkN (w:World)(R F:Nat)(vv:Value)(v:List UInt8)(kids:List Nd)(u:World):Prop where
 hb:Below w.heap.size w u
 hz:Blk 70 u w.heap.size (Q04 zN)
 hR:Blk 70 u R (kids.flatMap Q04)
 hF:Blk 70 u F (Q2o vv R)
 hRF:R<F
 hv:TxO (R+1) v vv u
 hk:∀ k∈kids,Q2a u (R+1) k
 hl:kids.length=16
 hlt:w.heap.size<R
theorem FkN.kept {w:World}{R F:Nat}{D:Value}{v:List UInt8}{z:List Nd}{u u':World}(h:FkN w R F D v z u)(y:Below u.heap.size u u'):FkN w R F D v z u' :=
 ⟨D00 h.hb y,h.hz.kept y,h.hR.kept y,h.hF.kept y,h.hRF,⟨h.hv.1.below y,h.hv.2⟩,fun k E=>(h.hk k E).kept y,h.hl,h.hlt⟩
theorem FkN.row {w:World}{R F:Nat}{z:Value}{v:List UInt8}{y:List Nd}{u:World}(h:FkN w R F z v y u):Q05 Q04 4 u (.slice (some ⟨R,0,none⟩) 16 16) y :=
 Blk.row h.hR y 16 16 Q0b h.hl (fun _ _ e=>e) (le_refl _) (by unfold maxLen;omega)
theorem FkN.there {w:World}{R F:Nat}{z:Value}{v:List UInt8}{y:List Nd}{u:World}(h:FkN w R F z v y u)(i:Nat)(D:i<16):u.there R (i*4) 4:=fun j hj=>by
 refine ⟨?_,h.hR.free _⟩;rw [h.hR.cell,List.getElem?_eq_getElem (by rw [Q9p,h.hl];omega)];rfl
theorem FkN.put {w:World}{R F:Nat}{G:Value}{v:List UInt8}{D:List Nd}{u:World}(h:FkN w R F G v D u)(i:Nat)(H:i<16)(t:Nd)(J:Q2a u (R+1) t):FkN w R F G v (D.set i t) (u.setCells R (i*4) (Q04 t)):=by
 have y:u.grownBy (u.setCells R (i*4) (Q04 t)) (some R):=Q2r (Q04 t) (i*4) ⟨rfl,rfl,rfl,le_refl _,fun _ _ _=>rfl⟩;have I:=h.hlt;have E:=h.hR.sets (Q04 t) (i*4);rw [Qle D i (by rw [h.hl];exact H) t] at E;refine ⟨h.hb.grown y h.hb.size (fun k e=>by cases e;omega),h.hz.grown y (fun e=>by cases e;omega),E,h.hF.grown y (fun e=>by have:=h.hRF;simp at e;omega),h.hRF,⟨h.hv.1.offV y (fun k e=>by have:=h.hv.2 k e;omega),h.hv.2⟩,fun k z=>?_,by rw [List.length_set];exact h.hl,I⟩;rcases List.mem_or_eq_of_mem_set z with z|rfl
 ·exact (h.hk k z).off y (lt_succ_self _)
 exact J.off y (lt_succ_self _)
theorem FkN.start {w:World}{R F:Nat}{u:World}(D:Below w.heap.size w u)(H:Blk 70 u w.heap.size (Q04 zN))(y:Blk 70 u R ((List.replicate 16 zN).flatMap Q04))(h:Blk 70 u F (Q2o nilV R))(z:R<F)(G:w.heap.size<R):FkN w R F nilV [] (List.replicate 16 zN) u :=
 ⟨D,H,y,h,z,⟨Q05.nil b8 1 _,by intro k e;cases e⟩,fun k E=>by rw [List.eq_of_mem_replicate E];exact Q2a.zero _ _,by simp,G⟩
theorem FkN.val {w:World}{R F:Nat}{y:Value}{v:List UInt8}{u:World}(h:FkN w R F nilV [] (List.replicate 16 zN) u)(D:TxO (F+1) v y u):FkN w R F y v (List.replicate 16 zN) (u.setCell ⟨F,2,none⟩ y):=by
 have z:u.grownBy (u.setCell ⟨F,2,none⟩ y) (some F):=Q2k ⟨rfl,rfl,rfl,le_refl _,fun _ _ _=>rfl⟩ 2 y;have H:=h.hlt;have E:=h.hRF;refine FkN.mk (h.hb.grown z h.hb.size (fun k e=>by cases e;omega)) (h.hz.grown z (fun e=>by simp at e;omega)) (h.hR.grown z (fun e=>by simp at e;omega)) (h.hF.set 2 y) E ⟨D.1.offV z (fun k e=>by have:=D.2 k e;omega),fun k e=>by have:=D.2 k e;omega⟩ (fun k G=>by rw [List.eq_of_mem_replicate G];exact Q2a.zero _ _) (by simp) H
theorem Qe2 (i:Nat)(l:List Rt)(j:Nat)(y:j<l.length):Q1a i (l.take (j+1))=Q1a i (l.take j)++(if (l[j].1[0]?.getD 0).toNat=i then [l[j]] else []):=by
 unfold Q1a;rw [List.take_succ_eq_append_getElem y,List.filter_append];congr 1;by_cases h:(l[j].1[0]?.getD 0).toNat=i
 ·rw [if_pos h];simp [h]
 rw [if_neg h];simp [h]
theorem Q6k (i:Nat)(l:List Rt):(Q1a i l).length<=l.length:=List.length_filter_le _ _
def Qez (n:Nat)(body:List Rt)(i:Nat)(kids:List Nd):Prop:=∀ j<i,(kids[j]?).map erN=some (grw n (Q0m 1 (Q1a j body)))
theorem Qez.put {n:Nat}{y:List Rt}{i:Nat}{z:List Nd}(h:Qez n y i z)(D:i<z.length)(t:Nd)(E:erN t=grw n (Q0m 1 (Q1a i y))):Qez n y (i+1) (z.set i t):=by
 intro j G;by_cases e:j=i
 ·subst e;rw [List.getElem?_set_self D];simp [E]
 rw [List.getElem?_set_ne (fun h=>e h.symm)];exact h j (by omega)
theorem Qez.all {n:Nat}{z:List Rt}{y:List Nd}(h:Qez n z 16 y)(D:y.length=16):y.map erN=(List.range 16).map fun i=>grw n (Q0m 1 (Q1a i z)):=by
 apply List.ext_getElem?;intro j;by_cases hj:j<16
 ·rw [List.getElem?_map,List.getElem?_map,List.getElem?_range hj,h j hj];rfl
 rw [List.getElem?_eq_none (by simp;omega),List.getElem?_eq_none (by simp;omega)]
theorem FkN.done {w:World}{R F:Nat}{z:Value}{v:List UInt8}{y:List Nd}{u u':World}{n:Nat}{E:List Rt}(h:FkN w R F z v y u)(I:Qez n E 16 y)(D:u.grownBy u' (some w.heap.size))(H:Below w.heap.size w u') :
  Q1d (.mk 3 [] v ((List.range 16).map fun i=>grw n (Q0m 1 (Q1a i E)))) w (.returned (.agg (Q2o z R).toArray)) u':=by
 have K:=h.hlt;refine ⟨.mk 3 (.slice none 0 0) [] z v (.slice (some ⟨R,0,none⟩) 16 16) y,rfl,?_,?_,H⟩
 ·refine .mk 3 _ [] z v _ y (Q05.nil b8 1 _) (by intro k e;cases e) (h.hv.1.offV D (fun k e=>by have:=h.hv.2 k e;omega)) (fun k e=>by have:=h.hv.2 k e;omega) (h.row.offV D (fun k e=>by have G:R=k:=(by cases e;rfl);omega)) (fun k e=>by have G:R=k:=(by cases e;rfl);omega) (fun k J=>?_);exact ((h.hk k J).off D (by omega)).lower (by omega)
 simp only [erN,Q2u,I.all h.hl]
def Qf1 (a:Addr)(v:Value):World->Prop:=fun u=>u.cell? a=some v
theorem Qjz (n:Nat)(ih:GrwC n)(l:List Rt)(a:Option Addr)(L cap:Nat)(w:World)(hL:l.length=L)(h2:2<=L)(dS:L<=2000000)(hs:Sml l)(hc:fl l=0)(hb:∀ r∈Q6x l,r.1≠[])(c3:∀ i<16,OkR n (Q0m 1 (Q1a i (Q6x l))))(h:Q05 Q0d 2 w (.slice a L cap) l) :
  Calls Tryz.prog 112 #[.slice a L cap] w (Q1d (grw (n+1) l) w):=by
 obtain ⟨w1,be⟩:=Qe (w.alloc (.cells (Q04 zN).toArray 70));have hz:Blk 70 w1 w.heap.size (Q04 zN):=by rw [be];exact D01 w _ _
 have br:Below w.heap.size w w1:=by rw [be];exact Qba _ _
 have dV:w1.heap.size=w.heap.size+1:=by rw [be];simp
 have d4:=Qhd be;have aT:0<l.length:=by omega
 have bt:L - 1<l.length:=by omega
 obtain ⟨b,off,rfl,c0,c1⟩:=Q6w (h.below br) 0 aT;obtain ⟨b',dY,aB,d0,d1⟩:=Q6w (h.below br) (L - 1) bt;clear d1;simp only [Option.some.injEq,Addr.mk.injEq,and_true] at aB;obtain ⟨rfl,rfl⟩:=aB;simp only [zero_mul,add_zero] at c0 c1;have aS:fl l=com l[0].1 l[L - 1].1:=by
  unfold fl;rw [List.getLast?_eq_getElem?,hL,List.getElem?_eq_getElem bt];cases l with
  | nil=>simp at aT
  | cons a l=>rfl
 have bs:hdP l=l[0]:=by
  cases l with
  | nil=>simp at aT
  | cons a l=>rfl
 have s0:=hs _ (getElem_mem aT);have sz:=hs _ (getElem_mem bt);have cI:=getElem_mem aT;have an:=Q4j n l (by omega);rw [bs] at an;obtain ⟨y0,cM⟩:=Qe (l[0]);obtain ⟨yz,cN⟩:=Qe (l[L - 1]);rw [<-cM] at c0 c1 aS s0 an cI bs;rw [<-cN] at d0 aS sz;obtain ⟨W,H⟩:=y0;obtain ⟨Z1,Z2⟩:=yz;dsimp only at c0 c1 d0 aS s0 sz an;have k0:=fun u:Ext w1=>u.cell c0;have kz:=fun u:Ext w1=>u.cell d0;have v1:=Q1p W;have vz:=Q1p Z1;have da:IntKind.i64.wrap ((L - 1:Nat):Int)=((L - 1:Nat):Int):=IntWalk.i64_in _ (by omega);have db:((L:Int) - 1)=((L - 1:Nat):Int):=by omega
 have dR:0<L:=by omega
 have d9:L - 1<L:=by omega
 have d':((L - 1:Nat):Int)<(L:Int):=by omega
 have e0:((L:Int)==0)=false:=by rw [beq_eq_false_iff_ne];omega
 have e1:((L:Int)==1)=false:=by rw [beq_eq_false_iff_ne];omega
 obtain ⟨Zi,bU⟩:=Qe (L - 1);rw [<-bU] at da db d9 d';simp only [<-bU] at kz;clear bU;have O1:=Qhd (fun u (E:w.heap.size+1<=u.heap.size)=>Q2y W (by omega) (w.heap.size+1) u E);have Oz:=Qhd (fun u (E:w.heap.size+1<=u.heap.size)=>Q2y Z1 (by omega) (w.heap.size+1) u E);have CC:=Qhd (fun (u:World) (a1 a2:Option Addr) (c1 c2:Nat) (g1:Q02 u (.slice a1 W.length c1) W) (g2:Q02 u (.slice a2 Z1.length c2) Z1)=>(Q9b W Z1 a1 a2 c1 c2 u g1 g2).mono (fun (e:Ending) (w':World) (q:e=.returned (.int .i64 (com W Z1))/\∃ m,w'=u.drewN m)=>(show e=.returned (.int .i64 ((fl l:Nat):Int))/\Below u.heap.size u w' from ⟨by rw [aS];exact q.1,by obtain ⟨m,hm⟩:=q.2;rw [hm];exact Qa2 (Below.refl _ _) m⟩)));have Hz:=Qhd hz;have cZ:=Qhd aS;rw [if_neg (by omega)] at an;change grw (n+1) l=.mk 3 [] (if W=[] then H else []) ((List.range 16).map fun i=>grw n (Q0m 1 (Q1a i (if W=[] then l.tail else l)))) at an;have aR:Q6x l=if W=[] then l.tail else l:=by unfold Q6x;rw [bs]
 rw [<-aR] at an;rw [an];have c6:=h.below br;obtain ⟨D,ae⟩:=Qe (Q6x l);rw [<-ae] at aR hb c3 |-;obtain ⟨cw,bT⟩:=Qe (if W=[] then H else []);rw [<-bT];have cr:=Qhd bT;have cE:Sml D:=by
  intro r T;rw [aR] at T;split at T
  ·exact hs r (List.mem_of_mem_tail T)
  exact hs r T
 have cD:D.length<=L:=by rw [aR];split;simp;omega;omega
 have cz:=fun (i:Nat) (u:World) (N:Option Addr) (m O:Nat) (hm:(Q1a i D).length=m) (E:Q05 Q0d 2 u (.slice N m O) (Q1a i D))=>Q8p N m O (Q1a i D) hm 1 (fun r T=>by
  have:=hb r (List.mem_filter.1 T).1;exact List.length_pos_iff.2 this) (by have:=Q6k i D;omega) (by omega) u E
 have cy:=fun (i:Nat) (hi:i<16) (u:World) (N:Option Addr) (m O:Nat) (hm:(Q1a i D).length=m) (E:Q05 Q0d 2 u (.slice N m O) (Q0m 1 (Q1a i D)))=>ih (Q0m 1 (Q1a i D)) N m O u (by unfold Q0m;rw [List.length_map,hm]) (by have:=Q6k i D;omega) (fun r T=>by
  unfold Q0m at T;obtain ⟨s,dn,rfl⟩:=mem_map.1 T;have:=cE s (List.mem_filter.1 dn).1;exact ⟨by simp only [List.length_drop];omega,this.2⟩) (c3 i hi) E
 simp only [hc] at CC;have v2:=Q1p H;have O2:=Qhd (fun u B (E:B<=u.heap.size)=>Q2y H (by omega) B u E);have co:=Qhd cz;have cn:=Qhd cy;have d2:=Qhd c6;have Hb:=Qhd hb;have dC:=Qhd cD;have bi:=Qhd aR;have HL:=Qhd hL;have cJ:=Q05.from elRt c6 1 (by omega) 1 rfl;clear be d0 aS s0 sz an cI bs cM cN hs h c3 ih cz cy c6 hz ae cE bT cZ aT bt aR hb cD hc hL;go_enter Tryz.func112,Tryz.ntmps112
 go_wp2_with fail
 rw [show w.alloc (.cells #[.int .i64 0,.slice none 0 0,.slice none 0 0,.slice none 0 0] 70)=w1 from by rw [d4.out];rfl];refine Q03 w1 14 (by kernel_rfl) (by kernel_rfl) (Below.refl _ _) ?_;simp only [take_succ_cons,take_zero,take_nil]
 iterate 4 (refine Q06 (by rfl) (fun K z=>?_);go_simp;refine z _ ?_;clear z K)
 refine Q0e 31 (TxO (w.heap.size+1) W) rfl (of_decide_eq_true rfl) (TxO.mono _ _) (fun V a4=>?_) ?_
 ·simp only [Q18,filter_nil,Q00];refine ⟨rfl,?_⟩;go_simp;exact ⟨(O1.out _ (by have:=a4.size;omega)).2,(O1.out _ (by have:=a4.size;omega)).1⟩
 iterate 7 (refine Q06 (by rfl) (fun K z=>?_);go_simp;refine z _ ?_;clear z K)
 refine Q0e 39 (TxO (w.heap.size+1) Z1) rfl (of_decide_eq_true rfl) (TxO.mono _ _) (fun V a4=>?_) ?_
 ·change Q00 V [] _ _;simp only [Q00];refine ⟨rfl,?_⟩;go_simp;exact ⟨(Oz.out _ (by have:=a4.size;omega)).2,(Oz.out _ (by have:=a4.size;omega)).1⟩
 refine Q3a (.int .i64 0) (fun V a4=>?_) ?_
 ·change Q00 V [(39,_),(31,_)] _ _;rintro dw ⟨cB,_⟩ dv ⟨cA,_⟩;obtain ⟨dG,dL,rfl,_,_⟩:=cB.form;obtain ⟨dF,dK,rfl,_,_⟩:=cA.form;simp only [Q00];refine ⟨rfl,?_⟩;go_simp;exact (CC.out V _ _ _ _ cA cB).mono fun e w' q=>⟨_,q.1,rfl,q.2⟩
 refine Q0i ?_;intro u2 aD dv _ dw _;change wpList _ _ _ [_] _ _;simp only [Act.put,Qzs];have cx:=D00 br aD;have cP:=Hz.out.kept aD;have dW:=aD.size;have q0:u2.cell? ⟨b,off,none⟩=some (.string ⟨W.toArray⟩):=by rw [aD.cell (World.block_lt_of_cell? w1 _ c0)];exact c0
 have q1:u2.cell? ⟨b,off+1,none⟩=some (.string ⟨H.toArray⟩):=by rw [aD.cell (World.block_lt_of_cell? w1 _ c1)];exact c1
 have dm:=d2.out.below aD;have dU:w.heap.size+1<=u2.heap.size:=by omega
 clear k0 kz v1 vz c0 c1;by_cases hP:W=[]
 ·subst hP;have hv:H=cw:=by rw [cr.out,if_pos rfl]
  subst hv;have ae:D=l.tail:=by rw [bi.out,if_pos rfl]
  have bk:=Qhd ae;clear bi;have cH:l.drop 1=l.tail:=by cases l<;>rfl
  rw [cH,<-ae] at cJ;obtain ⟨bL,bO,dt,cK⟩:=cJ;have bu:=cK.below aD;have bw:∀ k,(Value.slice bL (L - 1) bO).ownBlock=some k->k<u2.heap.size:=fun k e=>by
   obtain ⟨b9,o9,h9,df⟩:=Q05.cells (f:=Q0d) (size:=2) (fun _=>rfl) bu 0 (by have:=bu.fits.1;omega);subst h9;cases e;exact World.block_lt_of_cell? u2 _ (df 0 _ rfl)
  clear cH ae cK
  go_wp2_with (first
   |(refine Q6c (o:=⟨some 56,_,_,_,_,_⟩) (by rfl) (.const (.int .i64 16)) (.const (.int .i64 16)) (by rfl) (by rfl) (by rfl) cx (by omega) ?_;intro G aa au b3;have bA:Below w.heap.size w (G.alloc (.cells #[.int .i64 0,.slice none 0 0,.slice none 0 0,.slice none 0 0] 70)):=au.alloc (by have:=au.size;omega) _)
    |((with_reducible refine Qgs 57 ?_);refine Qsa 70 4 57 G.heap.size [.int .i64 3,.slice none 0 0,.slice none 0 0,.slice (some ⟨u2.heap.size,0,none⟩) 16 16] Q07 (D01 G 70 [.int .i64 0,.slice none 0 0,.slice none 0 0,.slice none 0 0]) (by rfl) (by rfl) (by intro u E;simp at E;rcases E with rfl|rfl|rfl<;>rfl) bA (by have:=au.size;omega) ?_;intro w4 bq bN g4;have bM:Below G.heap.size G w4:=(Qba G _).grown g4 (by simp) (fun k hk=>by cases hk;exact le_refl _);have al:Below u2.heap.size u2 w4:=b3.trans (bM.mono b3.size);have p0:w4.cell? ⟨b,off,none⟩=some (.string ⟨([]:List UInt8).toArray⟩):=(by rw [al.cell (World.block_lt_of_cell? u2 _ q0)];exact q0)))
  have dI:=al;have FK:=FkN.start (w:=w) (R:=u2.heap.size) (F:=G.heap.size) (u:=w4) bN ((((cP.kept b3).alloc _).grown g4 (fun e=>by have:=aa.lt;simp at e;omega))) ((aa.alloc _).grown g4 (fun e=>by have:=aa.lt;simp at e;omega)) bq aa.lt (by omega);have p1:w4.cell? ⟨b,off+1,none⟩=some (.string ⟨H.toArray⟩):=by rw [al.cell (World.block_lt_of_cell? u2 _ q1)];exact q1
  have dQ:=bq.lt;refine Q0w (Qf1 ⟨b,off+1,none⟩ (.string ⟨H.toArray⟩)) (by kernel_rfl) ?_;intro u0 cL;simp only [List.length_cons,List.length_nil,Nat.reduceAdd,List.replicate_succ,List.replicate_zero];have bm:Below w4.heap.size w4 u0:=by rw [cL];exact (Below.refl _ _).drew
  have S0:Qf1 ⟨b,off+1,none⟩ (.string ⟨H.toArray⟩) u0:=by show u0.cell? _=_;rw [bm.cell (World.block_lt_of_cell? w4 _ p1)];exact p1
  have kk:∀ u:In (Qf1 ⟨b,off+1,none⟩ (.string ⟨H.toArray⟩)),u.val.cell? ⟨b,off+1,none⟩=some (.string ⟨H.toArray⟩):=fun u=>u.held;clear cL;refine Qtk 0 (fun K z=>?_);simp only [Qzs] at z;go_simp;(first|refine z _ ?_|refine ⟨_,fun _=>rfl,z _ ?_⟩);clear z K;refine Qtk 1 (fun K z=>?_);simp only [Qzs] at z;go_simp;(first|refine z _ ?_|refine ⟨_,fun _=>rfl,z _ ?_⟩);clear z K;refine Qtk 2 (fun K z=>?_);simp only [Qzs] at z;go_simp;(first|refine z _ ?_|refine ⟨_,fun _=>rfl,z _ ?_⟩);clear z K;refine Qtk 3 (fun K z=>?_);simp only [Qzs] at z;go_simp;(first|refine z _ ?_|refine ⟨_,fun _=>rfl,z _ ?_⟩);clear z K;refine Qtk 5 (fun K z=>?_);simp only [Qzs] at z;go_simp;(first|refine z _ ?_|refine ⟨_,fun _=>rfl,z _ ?_⟩);clear z K;refine Qtk 6 (fun K z=>?_);simp only [Qzs] at z;go_simp;(first|refine z _ ?_|refine ⟨_,fun _=>rfl,z _ ?_⟩);clear z K;have cV:=FK.kept bm;obtain ⟨cC,bn⟩:=O2.out u0 (G.heap.size+1) (by have:=bm.size;omega);obtain ⟨u5,c9⟩:=Qe (Lib.bytesWorld u0 5 ⟨H.toArray⟩);obtain ⟨aQ,cG⟩:=Qe (grownCap u0 H.length 0 5);have cU:=v2 u0;rw [<-c9,<-cG] at cU cC;rw [<-c9] at bn;have bD:=cV.kept bn;have S5:Qf1 ⟨b,off+1,none⟩ (.string ⟨H.toArray⟩) u5:=by show u5.cell? _=_;rw [bn.cell (World.block_lt_of_cell? u0 _ S0)];exact S0
  clear kk v2 c9 cG p1 q1 p0
  (refine Q0f 4 (by rfl) (by kernel_rfl) (fun K z=>?_);simp only [Qzs] at z;go_simp)
  refine z _ _ S5 ?_;clear z K;refine Qtk 7 (fun K z=>?_);simp only [Qzs] at z;go_simp;(first|refine z _ ?_|refine ⟨_,fun _=>rfl,z _ ?_⟩);clear z K;have de:=bD.hF.has 2 (by simp [Q2o]);have dg:=bD.hF.free 2;obtain ⟨y5,dq⟩:=de;have cW:=bD.val cC;have bh:=(bu.below (al.trans ((D00 bm bn).mono al.size))).offV (Q2k (w:=u5) (u:=u5) (g:=G.heap.size) ⟨rfl,rfl,rfl,le_refl _,fun _ _ _=>rfl⟩ 2 (.slice (some ⟨u0.heap.size,0,none⟩) H.length aQ)) (fun k e=>by have:=bw k e;have:=aa.lt;omega);have S6:Qf1 ⟨b,off+1,none⟩ (.string ⟨H.toArray⟩) (u5.setCell ⟨G.heap.size,2,none⟩ (.slice (some ⟨u0.heap.size,0,none⟩) H.length aQ)):=(show (u5.setCell ⟨G.heap.size,2,none⟩ (.slice (some ⟨u0.heap.size,0,none⟩) H.length aQ)).cell? ⟨b,off+1,none⟩=some (.string ⟨H.toArray⟩) from by rw [World.cell?_of_block (w:=u5) ((Q0s 2 _).block b (World.block_lt_of_cell? u5 _ S5) (fun e=>by have e2:G.heap.size=b:=(by cases e;rfl);have:b<u2.heap.size:=World.block_lt_of_cell? u2 _ q0;have:=aa.lt;omega))];exact S5)
  (refine Q0f 8 (by rfl) (by kernel_rfl) (fun K z=>?_);simp only [Qzs] at z;go_simp)
  refine z _ _ S6 ?_;clear z K;refine Qtk 9 (fun K z=>?_);simp only [Qzs] at z;go_simp;(first|refine z _ ?_|refine ⟨_,fun _=>rfl,z _ ?_⟩);clear z K;refine Q11 (by kernel_rfl) ?_;clear q0 dt bu S0 S5 S6 cU dq dg
  go_wp2_with fail
  have b2:D.length=(L - 1):=by rw [bk.out,List.length_tail,HL.out]
  have aW:=Qhd b2;have cY:(L - 1)<=2000000:=by omega
  clear b2
  go_loopw [71] (fun ix wr=>∃ (i:Nat) (ab:List Nd),i<=16/\ix=.int .i64 (i:Int)/\FkN w u2.heap.size G.heap.size (.slice (some ⟨u0.heap.size,0,none⟩) H.length aQ) H ab wr/\Qez n D i ab/\Q05 Q0d 2 wr (.slice bL (L - 1) bO) D) (fun ix _=>16 - (intOf ix).toNat)
  case atStart=>exact ⟨0,List.replicate 16 zN,by omega,rfl,cW,fun j hj=>by omega,bh⟩
  case round =>
   obtain ⟨i,ab,dh,rfl,a5,b6,aV⟩:=hrel;obtain ⟨wo,rfl⟩:∃ x,x=wr:=⟨wr,rfl⟩;by_cases hlt:i<16
   ·have dk:(i:Int)<16:=by omega
    have bX:i<ab.length:=by rw [a5.hl];exact hlt
    go_wp2_with fail
    go_loopw [6,76] (fun pv jx wr=>∃ (j:Nat),j<=(L - 1)/\jx=.int .i64 (j:Int)/\Q08 Q0d 2 168 wr wo.heap.size pv (Q1a i (D.take j))/\Below wo.heap.size wo wr) (fun _ jx _=>(L - 1) - (intOf jx).toNat)
    case atStart=>exact ⟨0,by omega,rfl,Q08.nil _ _ _ _ _,Below.refl _ _⟩
    case round =>
     obtain ⟨j,dj,rfl,U,a0⟩:=hrel;have ah:=Q6k i (D.take j);obtain ⟨b0,aZ,rfl,_⟩:=U.form;obtain ⟨M6,I⟩:=Qe ((Q1a i (D.take j)).length);rw [<-I] at U;simp only [<-I];by_cases hltj:j<(L - 1)
     ·have dl:(j:Int)<(((L - 1):Nat):Int):=by omega
      have aH:j<D.length:=by rw [aW.out];exact hltj
      obtain ⟨bj,oj,aB,T⟩:=Q05.range (f:=Q0d) (size:=2) (fun _=>rfl) (aV.below a0) j aH;subst aB;have hst:=Qe2 i D j aH;have ag:=Hb.out _ (getElem_mem aH);obtain ⟨y,hy⟩:=Qe (D[j]);rw [<-hy] at T hst ag;obtain ⟨y1,M⟩:=y;obtain ⟨x,a3,rfl⟩:∃ x q,y1=x::q:=by cases y1 with|nil=>exact absurd rfl ag|cons x q=>exact ⟨x,q,rfl⟩
      simp only [List.getElem?_cons_zero,Option.getD_some] at hst;have ai:wr.rangeAt bj (oj+j*2) [.string ⟨(x::a3).toArray⟩,.string ⟨M.toArray⟩]:=T;have ck:=Qky (P:=Tryz.prog) (t:=9) (by kernel_rfl) (x::a3) 0 0 rfl x rfl;obtain ⟨S1,af⟩:∃ S:ByteArray,S=⟨(x::a3).toArray⟩:=⟨_,rfl⟩;rw [<-af] at ai ck;have dp:IntKind.i64.wrap (x.toNat:Int)=(x.toNat:Int):=IntWalk.i64_in _ (by have:=x.toNat_lt;omega);have bZ:=Q08.lt U;have n0:∀ (g:Nat) (u:World),Blk 168 u g [.string S1,.string ⟨M.toArray⟩]->u.cell? ⟨g,0,none⟩=some (.string S1):=fun g u hb=>(hb.cell 0).trans rfl;have N0:=Qhd n0;have bA:Below wr.heap.size wr (wr.alloc (.cells #[.string ByteArray.empty,.string ByteArray.empty] 168)):=Qba _ _;have aF:=fun u:World=>D02 (f:=Q0d) (size:=2) (fun _=>rfl) u 168 [(x::a3,M)] 1 rfl (by unfold maxLen;omega);have aG:∀ u:World,Q05 Q0d 2 (u.alloc (.cells #[.string S1,.string ⟨M.toArray⟩] 168)) (.slice (some ⟨u.heap.size,0,none⟩) 1 1) [(x::a3,M)]:=by rw [af];exact aF
      have bJ:=Qhd aG;have dc:M6<=2000000:=by rw [length_take] at ah;omega
      have aC:((Q1a i (D.take j)).length+[(x::a3,M)].length)*32<=140737488355328:=by rw [<-I];simp only [length_singleton];omega
      have aE:(Q1a i (D.take j)).length+[(x::a3,M)].length<=maxLen:=by rw [<-I];unfold maxLen;simp only [length_singleton];omega
      have d3:=Qhd hst;have bH:=Qhd aC;have bI:=Qhd aE;have cX:=Qhd I;have aX:=Qhd ai;by_cases hxi:x.toNat=i
      ·have cb:((x.toNat:Int)==(i:Int))=true:=by rw [beq_iff_eq];omega
       rw [if_pos hxi] at hst;have ap:=Qhd hst;clear hst n0 hy T ag af ah aF aG I aC aE hltj hxi ai
       go_wp2_with (first
         |(refine Qlw 168 78 bj (oj+j*2) Q0y (by rfl) aX.out ?_)
         |((with_reducible refine Qgs 79 ?_);refine Qsa 168 8 79 wr.heap.size [.string S1,.string ⟨M.toArray⟩] Q0y (D01 wr 168 [.string ByteArray.empty,.string ByteArray.empty]) (by rfl) (by rfl) (by intro u E;simp at E;rcases E with rfl|rfl<;>rfl) bA (le_refl _) ?_;intro w5 J b5 _;have av:=D00 a0 b5;have o5:=U.kept b5;have i0:=N0.out _ _ J)
         |(refine Qla 168 8 wr.heap.size Q0y J (by rfl) ?_;have b1:Below w5.heap.size w5 (w5.alloc (.cells #[.string S1,.string ⟨M.toArray⟩] 168)):=Qba _ _;have o6:=o5.kept b1;have aw:=D00 av b1)
         |(refine Q0x (o:=⟨some 89,_,_,_,_,_⟩) (by rfl) (.tmp 86) (.tmp 88) 150 (by rfl) elRt (by rfl) o6 (by rfl) (bJ.out w5) aw.size bH.out bI.out ?_;intro v7 w7 o7 g7 _;have Z:=aw.grown g7 aw.size bZ;rw [<-ap.out] at o7))
       go_roundw
       case rel=>exact ⟨j+1,by omega,by go_num,o7,Z⟩
       case measure=>simp [intOf];omega
      have cb:((x.toNat:Int)==(i:Int))=false:=by rw [beq_eq_false_iff_ne];omega
      rw [if_neg hxi,List.append_nil] at hst;have ap:=Qhd hst;clear hst n0 hy T ag af ah aF aG I aC aE hltj hxi ai
      go_wp2_with (first
        |(refine Qlw 168 78 bj (oj+j*2) Q0y (by rfl) aX.out ?_)
        |((with_reducible refine Qgs 79 ?_);refine Qsa 168 8 79 wr.heap.size [.string S1,.string ⟨M.toArray⟩] Q0y (D01 wr 168 [.string ByteArray.empty,.string ByteArray.empty]) (by rfl) (by rfl) (by intro u E;simp at E;rcases E with rfl|rfl<;>rfl) bA (le_refl _) ?_;intro w5 J b5 _;have av:=D00 a0 b5;have o5:=U.kept b5;have i0:=N0.out _ _ J))
      go_roundw
      case rel=>exact ⟨j+1,by omega,by go_num,by rw [ap.out];exact o5,av⟩
      case measure=>simp [intOf];omega
     obtain rfl:(L - 1)=j:=by omega
     have bd:D.take (L - 1)=D:=by rw [<-aW.out,List.take_length]
     rw [bd] at U I;have c7:=U.row;have ao:=a5.kept a0;have bE:=aV.below a0;have j3:=fun u:Ext wr=>u.cell ((ao.hF.cell 3).trans (show _=some (Value.slice (some ⟨u2.heap.size,0,none⟩) 16 16) from rfl));have bz:=Qhd (fun u (E:Q05 Q0d 2 u (.slice b0 M6 aZ) (Q1a i D))=>co.out i u b0 M6 aZ I.symm E);have bx:=Qhd (fun u N O (E:Q05 Q0d 2 u (.slice N M6 O) (Q0m 1 (Q1a i D)))=>cn.out i hlt u N M6 O I.symm E);have dd:=ao.hR.lt;clear bd I hltj ah U
     go_wp2_with fail
     refine Q03 wr 7 (by kernel_rfl) (by kernel_rfl) (Below.refl _ _) ?_;simp only [take_succ_cons,take_zero,take_nil]
     iterate 4 (refine Q06 (by rfl) (fun K z=>?_);go_simp;refine z _ ?_;clear z K)
     refine Q0e 95 (RtT' M6 (Q0m 1 (Q1a i D))) rfl (of_decide_eq_true rfl) (RtT'.mono _ _) (fun V a4=>?_) ?_
     ·change Q00 V [] _ _;simp only [Q00];refine ⟨rfl,?_⟩;go_simp;refine (bz.out V (c7.below a4)).mono ?_;rintro e w7 ⟨N,O,rfl,Z,J⟩;exact ⟨_,rfl,⟨N,O,rfl,J⟩,Z⟩
     refine Q0e 96 (NdT (u2.heap.size+1) (grw n (Q0m 1 (Q1a i D)))) rfl (of_decide_eq_true rfl) (NdT.mono _ _) (fun V a4=>?_) ?_
     ·change Q00 V [(95,_)] _ _;rintro cl ⟨N,O,rfl,J⟩;simp only [Q00];refine ⟨rfl,?_⟩;go_simp;refine (bx.out V N O J).mono ?_;rintro e w7 ⟨t,rfl,ot,et,Z⟩;exact ⟨_,rfl,⟨t,rfl,ot.lower (by have:=a4.size;omega),et⟩,Z⟩
     (refine Q06 (by rfl) (fun K z=>?_);go_simp;refine z _ ?_;clear z K)
     refine Q0i ?_;intro u3 b4 cl _ dy bP;change wpList _ _ _ [_] _ _;simp only [Act.put,Qzs];obtain ⟨t,rfl,ot,et⟩:=bP;have aU:=ao.kept b4;have bF:=bE.below b4;have c4:=ot.is.one;have bY:=Q0b t;have bc:(Q04 t).toArray.size=4:=by rw [List.size_toArray,bY]
     have c8:=aU.there i hlt;have bC:=aU.put i hlt t ot;have bV:=b6.put bX t et;have bG:Q05 Q0d 2 (u3.setCells u2.heap.size (i*4) (Q04 t)) (.slice bL (L - 1) bO) D:=bF.offV (Q2r (Q04 t) (i*4) ⟨rfl,rfl,rfl,le_refl _,fun _ _ _=>rfl⟩) (fun k e=>by have:=bw k e;omega);clear j3
     go_wp2_with (refine wpList_store_mid (by rfl) 70 (.tmp 97) (.tmp 96) (by rfl) u2.heap.size (i*4) (Q04 t).toArray (by rfl) (by rfl) (by rw [bc];exact c8) (by rw [bc];kernel_rfl) (all_oneCell_toArray c4) ?_)
     go_roundw
     case rel=>exact ⟨i+1,ab.set i t,by omega,by go_num,bC,bV,bG⟩
     case measure=>simp [intOf];omega
   obtain rfl:i=16:=by omega
   have cc:=a5.hz;have bR:=a5.hF;have a0:=a5.hb;have c5:∀ u∈Q2o (.slice (some ⟨u0.heap.size,0,none⟩) H.length aQ) u2.heap.size,u.oneCell'=true:=by intro u E;simp [Q2o,nilV] at E;rcases E with rfl|rfl|rfl|rfl<;>rfl
   clear hlt
   go_wp2_with (first
     |(refine Qla 70 4 G.heap.size Q07 bR (by rfl) ?_)
     |((with_reducible refine Qgs 99 ?_);refine Qsa 70 2 99 w.heap.size (Q2o (.slice (some ⟨u0.heap.size,0,none⟩) H.length aQ) u2.heap.size) Q07 cc (by rfl) (by rfl) c5 a0 (le_refl _) ?_;intro w7 J Z g7))
   exact bodyPost_ret (Q0h rfl _ _ w.heap.size Q07 J (by rfl) rfl) rfl (a5.done b6 g7 Z)
 have dT:(W==[])=false:=by rw [beq_eq_false_iff_ne];exact hP
 have hv:[]=cw:=by rw [cr.out,if_neg hP]
 subst hv;have ae:D=l:=by rw [bi.out,if_neg hP]
 have bk:=Qhd ae;clear bi;clear ae hP
 go_wp2_with (first
  |(refine Q6c (o:=⟨some 56,_,_,_,_,_⟩) (by rfl) (.const (.int .i64 16)) (.const (.int .i64 16)) (by rfl) (by rfl) (by rfl) cx (by omega) ?_;intro G aa au b3;have bA:Below w.heap.size w (G.alloc (.cells #[.int .i64 0,.slice none 0 0,.slice none 0 0,.slice none 0 0] 70)):=au.alloc (by have:=au.size;omega) _)
   |((with_reducible refine Qgs 57 ?_);refine Qsa 70 4 57 G.heap.size [.int .i64 3,.slice none 0 0,.slice none 0 0,.slice (some ⟨u2.heap.size,0,none⟩) 16 16] Q07 (D01 G 70 [.int .i64 0,.slice none 0 0,.slice none 0 0,.slice none 0 0]) (by rfl) (by rfl) (by intro u E;simp at E;rcases E with rfl|rfl|rfl<;>rfl) bA (by have:=au.size;omega) ?_;intro w4 bq bN g4;have bM:Below G.heap.size G w4:=(Qba G _).grown g4 (by simp) (fun k hk=>by cases hk;exact le_refl _);have al:Below u2.heap.size u2 w4:=b3.trans (bM.mono b3.size);have p0:w4.cell? ⟨b,off,none⟩=some (.string ⟨W.toArray⟩):=(by rw [al.cell (World.block_lt_of_cell? u2 _ q0)];exact q0)))
 have FK:=FkN.start (w:=w) (R:=u2.heap.size) (F:=G.heap.size) (u:=w4) bN ((((cP.kept b3).alloc _).grown g4 (fun e=>by have:=aa.lt;simp at e;omega))) ((aa.alloc _).grown g4 (fun e=>by have:=aa.lt;simp at e;omega)) bq aa.lt (by omega);have bh:=dm.below al;rw [<-bk.out] at bh;have bw:∀ k,(Value.slice (some ⟨b,off,none⟩) L cap).ownBlock=some k->k<u2.heap.size:=fun k e=>by cases e;exact World.block_lt_of_cell? u2 _ q0
 have b2:D.length=L:=by rw [bk.out];exact HL.out
 have aW:=Qhd b2;have cY:L<=2000000:=by omega
 clear b2
 go_loopw [71] (fun ix wr=>∃ (i:Nat) (ab:List Nd),i<=16/\ix=.int .i64 (i:Int)/\FkN w u2.heap.size G.heap.size nilV [] ab wr/\Qez n D i ab/\Q05 Q0d 2 wr (.slice (some ⟨b,off,none⟩) L cap) D) (fun ix _=>16 - (intOf ix).toNat)
 case atStart=>exact ⟨0,List.replicate 16 zN,by omega,rfl,FK,fun j hj=>by omega,bh⟩
 case round =>
  obtain ⟨i,ab,dh,rfl,a5,b6,aV⟩:=hrel;obtain ⟨wo,rfl⟩:∃ x,x=wr:=⟨wr,rfl⟩;by_cases hlt:i<16
  ·have dk:(i:Int)<16:=by omega
   have bX:i<ab.length:=by rw [a5.hl];exact hlt
   go_wp2_with fail
   go_loopw [6,76] (fun pv jx wr=>∃ (j:Nat),j<=L/\jx=.int .i64 (j:Int)/\Q08 Q0d 2 168 wr wo.heap.size pv (Q1a i (D.take j))/\Below wo.heap.size wo wr) (fun _ jx _=>L - (intOf jx).toNat)
   case atStart=>exact ⟨0,by omega,rfl,Q08.nil _ _ _ _ _,Below.refl _ _⟩
   case round =>
    obtain ⟨j,dj,rfl,U,a0⟩:=hrel;have ah:=Q6k i (D.take j);obtain ⟨b0,aZ,rfl,_⟩:=U.form;obtain ⟨M6,I⟩:=Qe ((Q1a i (D.take j)).length);rw [<-I] at U;simp only [<-I];by_cases hltj:j<L
    ·have dl:(j:Int)<((L:Nat):Int):=by omega
     have aH:j<D.length:=by rw [aW.out];exact hltj
     obtain ⟨bj,oj,aB,T⟩:=Q05.range (f:=Q0d) (size:=2) (fun _=>rfl) (aV.below a0) j aH;simp only [Option.some.injEq,Addr.mk.injEq,and_true] at aB;obtain ⟨rfl,rfl⟩:=aB;have hst:=Qe2 i D j aH;have ag:=Hb.out _ (getElem_mem aH);obtain ⟨y,hy⟩:=Qe (D[j]);rw [<-hy] at T hst ag;obtain ⟨y1,M⟩:=y;obtain ⟨x,a3,rfl⟩:∃ x q,y1=x::q:=by cases y1 with|nil=>exact absurd rfl ag|cons x q=>exact ⟨x,q,rfl⟩
     simp only [List.getElem?_cons_zero,Option.getD_some] at hst;have ai:wr.rangeAt b (off+j*2) [.string ⟨(x::a3).toArray⟩,.string ⟨M.toArray⟩]:=T;have ck:=Qky (P:=Tryz.prog) (t:=9) (by kernel_rfl) (x::a3) 0 0 rfl x rfl;obtain ⟨S1,af⟩:∃ S:ByteArray,S=⟨(x::a3).toArray⟩:=⟨_,rfl⟩;rw [<-af] at ai ck;have dp:IntKind.i64.wrap (x.toNat:Int)=(x.toNat:Int):=IntWalk.i64_in _ (by have:=x.toNat_lt;omega);have bZ:=Q08.lt U;have n0:∀ (g:Nat) (u:World),Blk 168 u g [.string S1,.string ⟨M.toArray⟩]->u.cell? ⟨g,0,none⟩=some (.string S1):=fun g u hb=>(hb.cell 0).trans rfl;have N0:=Qhd n0;have bA:Below wr.heap.size wr (wr.alloc (.cells #[.string ByteArray.empty,.string ByteArray.empty] 168)):=Qba _ _;have aF:=fun u:World=>D02 (f:=Q0d) (size:=2) (fun _=>rfl) u 168 [(x::a3,M)] 1 rfl (by unfold maxLen;omega);have aG:∀ u:World,Q05 Q0d 2 (u.alloc (.cells #[.string S1,.string ⟨M.toArray⟩] 168)) (.slice (some ⟨u.heap.size,0,none⟩) 1 1) [(x::a3,M)]:=by rw [af];exact aF
     have bJ:=Qhd aG;have dc:M6<=2000000:=by rw [length_take] at ah;omega
     have aC:((Q1a i (D.take j)).length+[(x::a3,M)].length)*32<=140737488355328:=by rw [<-I];simp only [length_singleton];omega
     have aE:(Q1a i (D.take j)).length+[(x::a3,M)].length<=maxLen:=by rw [<-I];unfold maxLen;simp only [length_singleton];omega
     have d3:=Qhd hst;have bH:=Qhd aC;have bI:=Qhd aE;have cX:=Qhd I;have aX:=Qhd ai;by_cases hxi:x.toNat=i
     ·have cb:((x.toNat:Int)==(i:Int))=true:=by rw [beq_iff_eq];omega
      rw [if_pos hxi] at hst;have ap:=Qhd hst;clear hst n0 hy T ag af ah aF aG I aC aE hltj hxi ai
      go_wp2_with (first
        |(refine Qlw 168 78 b (off+j*2) Q0y (by rfl) aX.out ?_)
        |((with_reducible refine Qgs 79 ?_);refine Qsa 168 8 79 wr.heap.size [.string S1,.string ⟨M.toArray⟩] Q0y (D01 wr 168 [.string ByteArray.empty,.string ByteArray.empty]) (by rfl) (by rfl) (by intro u E;simp at E;rcases E with rfl|rfl<;>rfl) bA (le_refl _) ?_;intro w5 J b5 _;have av:=D00 a0 b5;have o5:=U.kept b5;have i0:=N0.out _ _ J)
        |(refine Qla 168 8 wr.heap.size Q0y J (by rfl) ?_;have b1:Below w5.heap.size w5 (w5.alloc (.cells #[.string S1,.string ⟨M.toArray⟩] 168)):=Qba _ _;have o6:=o5.kept b1;have aw:=D00 av b1)
        |(refine Q0x (o:=⟨some 89,_,_,_,_,_⟩) (by rfl) (.tmp 86) (.tmp 88) 150 (by rfl) elRt (by rfl) o6 (by rfl) (bJ.out w5) aw.size bH.out bI.out ?_;intro v7 w7 o7 g7 _;have Z:=aw.grown g7 aw.size bZ;rw [<-ap.out] at o7))
      go_roundw
      case rel=>exact ⟨j+1,by omega,by go_num,o7,Z⟩
      case measure=>simp [intOf];omega
     have cb:((x.toNat:Int)==(i:Int))=false:=by rw [beq_eq_false_iff_ne];omega
     rw [if_neg hxi,List.append_nil] at hst;have ap:=Qhd hst;clear hst n0 hy T ag af ah aF aG I aC aE hltj hxi ai
     go_wp2_with (first
       |(refine Qlw 168 78 b (off+j*2) Q0y (by rfl) aX.out ?_)
       |((with_reducible refine Qgs 79 ?_);refine Qsa 168 8 79 wr.heap.size [.string S1,.string ⟨M.toArray⟩] Q0y (D01 wr 168 [.string ByteArray.empty,.string ByteArray.empty]) (by rfl) (by rfl) (by intro u E;simp at E;rcases E with rfl|rfl<;>rfl) bA (le_refl _) ?_;intro w5 J b5 _;have av:=D00 a0 b5;have o5:=U.kept b5;have i0:=N0.out _ _ J))
     go_roundw
     case rel=>exact ⟨j+1,by omega,by go_num,by rw [ap.out];exact o5,av⟩
     case measure=>simp [intOf];omega
    obtain rfl:L=j:=by omega
    have bd:D.take L=D:=by rw [<-aW.out,List.take_length]
    rw [bd] at U I;have c7:=U.row;have ao:=a5.kept a0;have bE:=aV.below a0;have j3:=fun u:Ext wr=>u.cell ((ao.hF.cell 3).trans (show _=some (Value.slice (some ⟨u2.heap.size,0,none⟩) 16 16) from rfl));have bz:=Qhd (fun u (E:Q05 Q0d 2 u (.slice b0 M6 aZ) (Q1a i D))=>co.out i u b0 M6 aZ I.symm E);have bx:=Qhd (fun u N O (E:Q05 Q0d 2 u (.slice N M6 O) (Q0m 1 (Q1a i D)))=>cn.out i hlt u N M6 O I.symm E);have dd:=ao.hR.lt;clear bd I hltj ah U
    go_wp2_with fail
    refine Q03 wr 7 (by kernel_rfl) (by kernel_rfl) (Below.refl _ _) ?_;simp only [take_succ_cons,take_zero,take_nil]
    iterate 4 (refine Q06 (by rfl) (fun K z=>?_);go_simp;refine z _ ?_;clear z K)
    refine Q0e 95 (RtT' M6 (Q0m 1 (Q1a i D))) rfl (of_decide_eq_true rfl) (RtT'.mono _ _) (fun V a4=>?_) ?_
    ·change Q00 V [] _ _;simp only [Q00];refine ⟨rfl,?_⟩;go_simp;refine (bz.out V (c7.below a4)).mono ?_;rintro e w7 ⟨N,O,rfl,Z,J⟩;exact ⟨_,rfl,⟨N,O,rfl,J⟩,Z⟩
    refine Q0e 96 (NdT (u2.heap.size+1) (grw n (Q0m 1 (Q1a i D)))) rfl (of_decide_eq_true rfl) (NdT.mono _ _) (fun V a4=>?_) ?_
    ·change Q00 V [(95,_)] _ _;rintro cl ⟨N,O,rfl,J⟩;simp only [Q00];refine ⟨rfl,?_⟩;go_simp;refine (bx.out V N O J).mono ?_;rintro e w7 ⟨t,rfl,ot,et,Z⟩;exact ⟨_,rfl,⟨t,rfl,ot.lower (by have:=a4.size;omega),et⟩,Z⟩
    (refine Q06 (by rfl) (fun K z=>?_);go_simp;refine z _ ?_;clear z K)
    refine Q0i ?_;intro u3 b4 cl _ dy bP;change wpList _ _ _ [_] _ _;simp only [Act.put,Qzs];obtain ⟨t,rfl,ot,et⟩:=bP;have aU:=ao.kept b4;have bF:=bE.below b4;have c4:=ot.is.one;have bY:=Q0b t;have bc:(Q04 t).toArray.size=4:=by rw [List.size_toArray,bY]
    have c8:=aU.there i hlt;have bC:=aU.put i hlt t ot;have bV:=b6.put bX t et;have bG:Q05 Q0d 2 (u3.setCells u2.heap.size (i*4) (Q04 t)) (.slice (some ⟨b,off,none⟩) L cap) D:=bF.offV (Q2r (Q04 t) (i*4) ⟨rfl,rfl,rfl,le_refl _,fun _ _ _=>rfl⟩) (fun k e=>by have:=bw k e;omega);clear j3
    go_wp2_with (refine wpList_store_mid (by rfl) 70 (.tmp 97) (.tmp 96) (by rfl) u2.heap.size (i*4) (Q04 t).toArray (by rfl) (by rfl) (by rw [bc];exact c8) (by rw [bc];kernel_rfl) (all_oneCell_toArray c4) ?_)
    go_roundw
    case rel=>exact ⟨i+1,ab.set i t,by omega,by go_num,bC,bV,bG⟩
    case measure=>simp [intOf];omega
  obtain rfl:i=16:=by omega
  have cc:=a5.hz;have bR:=a5.hF;have a0:=a5.hb;have c5:∀ u∈Q2o nilV u2.heap.size,u.oneCell'=true:=by intro u E;simp [Q2o,nilV] at E;rcases E with rfl|rfl|rfl|rfl<;>rfl
  clear hlt
  go_wp2_with (first
    |(refine Qla 70 4 G.heap.size Q07 bR (by rfl) ?_)
    |((with_reducible refine Qgs 99 ?_);refine Qsa 70 2 99 w.heap.size (Q2o nilV u2.heap.size) Q07 cc (by rfl) (by rfl) c5 a0 (le_refl _) ?_;intro w7 J Z g7))
  exact bodyPost_ret (Q0h rfl _ _ w.heap.size Q07 J (by rfl) rfl) rfl (a5.done b6 g7 Z)
theorem Q6s:∀ n,GrwC n
 | 0=>by
  intro l a L cap w y _ _ G h;have K:l=[]:=G;subst K;subst y;exact Qb4 0 a cap w
 | n+1=>by
  intro l a L cap w y J H G h
  match l,y with
  | [],y=>subst y;exact Qb4 (n+1) a cap w
  | [r],y=>subst y;exact Qnm n r a cap w H h
  | r::r'::l',y =>
   have I:2<=L:=by rw [<-y];simp
   rcases G with z|⟨z,D,E⟩|⟨z,D,E⟩
   ·simp at z
   ·exact Qjy n (Q6s n) _ a L cap w y I J H z D E h
   exact Qjz n (Q6s n) _ a L cap w y I J H z D E h
end Go.Proofs.YtbdmkfjgnjfjbaaGreat
