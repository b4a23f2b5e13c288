/- Inner nodes in a world; tree.own, tree.join, tree.behind. | tree.behind, at every node. | tree.fork's tidy. | tree.fork's with, at the empty fork. | tree.part.  -/
import Derived.Test.YtbdmkfjgnjfjbaaGreatLazyServesK10
import Derived.Test.YtbdmkfjgnjfjbaaGreatLazyServesK11
set_option linter.unusedSimpArgs false
set_option linter.unusedVariables false
set_option maxHeartbeats 4000000
set_option maxRecDepth 100000
namespace Go.Proofs.YtbdmkfjgnjfjbaaGreat
open Go.RowKit
inductive IsNv (w:World):Nd→Prop where
 | none (pv:Value) (p:List UInt8) (vv:Value) (v:List UInt8) (kv:Value) (ks:List Nd):IsNv w (.mk 0 pv p vv v kv ks)
 | leaf (pv:Value) (p:List UInt8) (vv:Value) (v:List UInt8) (kv:Value) (ks:List Nd) (hp:Bytes w pv p) (hv:Bytes w vv v):IsNv w (.mk 1 pv p vv v kv ks)
 | road (pv:Value) (p:List UInt8) (vv:Value) (v:List UInt8) (kv:Value) (k:Nd) (hp:Bytes w pv p) (hk:k.kd=3) (h:IsNv w k):IsNv w (.mk 2 pv p vv v kv [k])
 | fork (pv:Value) (p:List UInt8) (vv:Value) (v:List UInt8) (kv:Value) (ks:List Nd) (hv:Bytes w vv v) (hl:ks.length=16) (h:∀ k∈ks,IsNv w k):IsNv w (.mk 3 pv p vv v kv ks)
theorem IsNv.kept {w w':World}{t:Nd}(h:IsNv w t)(hb:Below w.heap.size w w'):IsNv w' t:=by
 induction h with
 | none pv p vv v kv ks=>exact .none pv p vv v kv ks
 | leaf pv p vv v kv ks hp hv=>exact .leaf pv p vv v kv ks (hp.below hb) (hv.below hb)
 | road pv p vv v kv k hp hk _ ih=>exact .road pv p vv v kv k (hp.below hb) hk ih
 | fork pv p vv v kv ks hv hl _ ih=>exact .fork pv p vv v kv ks (hv.below hb) hl ih
def nilN:Nd:=.mk 0 (.slice none 0 0) [] (.slice none 0 0) [] (.slice none 0 0) []
theorem IsNv.nil (w:World):IsNv w nilN:=.none _ _ _ _ _ _
def NvPost (T:Pn)(w:World)(e:Ending)(w':World):Prop:=∃ t,e=.returned (nv t)∧Below w.heap.size w w'∧IsNv w' t∧clN t=T
def NvT (T:Pn):Ty:=fun v w=>∃ t,v=nv t∧IsNv w t∧clN t=T
theorem NvT.mono (T:Pn):Mono (NvT T):=fun _ _ _ ⟨t,h,h2,h3⟩ hb=>⟨t,h,h2.kept hb,h3⟩
def OwnGt (l:List UInt8)(w:World)(e:Ending)(w':World):Prop:=∃ v,e=.returned v∧OwnOf b8 1 5 w' w.heap.size v l∧Below w.heap.size w w'
theorem Q8g (a:Option Addr)(n c:Nat)(l:List UInt8)(hl:n≤1000000000)(w:World)(h:Bytes w (.slice a n c) l):Calls Tryz.prog 170 #[.slice a n c] w (OwnGt l w):=by
 have hnl:=h.fits.1
 have hm0:OwnOf b8 1 5 (w.alloc (.cells #[] 5)) w.heap.size (.slice (some ⟨w.heap.size,0,none⟩) 0 0) []:=OwnOf.made b8 1 5 w w.heap.size [] #[] 0 rfl rfl rfl (Nat.le_refl _) (by unfold maxLen;omega)
 have bA:Below w.heap.size w (w.alloc (.cells #[] 5)):=Qba _ _
 have h':=h.alloc (.cells #[] 5)
 have hlo:=OwnOf.lt hm0
 go_enter Tryz.func170,Tryz.ntmps170
 go_wp2_with (refine Q0m (o:=⟨some 5,_,_,_,_,_⟩) (by rfl) (.tmp 3) (.tmp 4) 25 (by rfl) elU8 (by rfl) hm0 (by rfl) h' bA.size (by simp<;>omega) (by unfold maxLen;simp<;>omega) ?_;intro v5 w5 o5 g5 _;have b5:=bA.grown g5 bA.size hlo)
 go_ret
 exact ⟨_,rfl,o5,b5⟩
theorem Q9k (a b:Option Addr)(n c m d:Nat)(l k:List UInt8)(hl:l.length=n)(hk:k.length=m)(hn:n≤1000000000)(hm:m≤1000000000)(w:World)(h:Bytes w (.slice a n c) l)(h2:Bytes w (.slice b m d) k):Calls Tryz.prog 169 #[.slice a n c,.slice b m d] w (OwnGt (l++k) w):=by
 have C:=Qhd (Q8g a n c l hn w h)
 have H2:=Qhd h2
 have Hl:=Qhd hl
 have Hk:=Qhd hk
 clear h h2 hl hk
 go_enter Tryz.func169,Tryz.ntmps169
 go_wp2_with (first
  |(go_at_call 170;(with_reducible refine C.out.mono ?_);rintro e w2 ⟨v2,rfl,o2,b2⟩;obtain ⟨a2,c2,rfl,_⟩:=o2.form' n Hl.out;have hlo:=OwnOf.lt o2)
  |((with_reducible refine Qgl 8 ?_);refine Q0m (o:=⟨some 8,_,_,_,_,_⟩) (by rfl) (.tmp 6) (.tmp 7) 25 (by rfl) elU8 (by rfl) o2 (by rfl) (H2.out.below b2) b2.size (by rw [Hl.out,Hk.out];omega) (by rw [Hl.out,Hk.out];unfold maxLen;omega) ?_;intro v3 w3 o3 g3 _;have b3:=b2.grown g3 b2.size hlo))
 go_ret
 exact ⟨_,rfl,o3,b3⟩
def LfT (l:List UInt8)(x:Value):Ty:=fun v w=>∃ (a:Option Addr) (n c:Nat),v=.agg #[.slice a n c,x]∧Bytes w (.slice a n c) l
theorem LfT.mono (l:List UInt8)(x:Value):Mono (LfT l x):=fun _ _ _ ⟨a,n,c,h,h2⟩ hb=>⟨a,n,c,h,h2.below hb⟩
def IfT (ty:TypeId)(l:List UInt8)(x:Value):Ty:=fun v w=>∃ y,v=.iface ty y∧LfT l x y w
theorem IfT.mono (ty:TypeId)(l:List UInt8)(x:Value):Mono (IfT ty l x):=fun _ _ _ ⟨y,h,h2⟩ hb=>⟨y,h,LfT.mono _ _ _ _ _ h2 hb⟩
theorem OwnGt.sl {l:List UInt8}{w w':World}{e:Ending}(h:OwnGt l w e w'):∃ a n c,e=.returned (.slice a n c)∧Bytes w' (.slice a n c) l∧Below w.heap.size w w':=by
 obtain ⟨v,rfl,o,b⟩:=h
 obtain ⟨a,c,rfl,_⟩:=o.form
 exact ⟨a,_,c,rfl,o.row,b⟩
theorem Qc0 (pa va qa:Option Addr)(pn pc vn vc qn qc:Nat)(p q u:List UInt8)(hpn:p.length=pn)(hqn:q.length=qn)(hp1:pn≤1000000000)(hq1:qn≤1000000000)(h0:p≠[])(w:World)(hp:Bytes w (.slice pa pn pc) p)(hq:Bytes w (.slice qa qn qc) q)(hv:Bytes w (.slice va vn vc) u) :
  Calls Tryz.prog 158 #[.slice pa pn pc,.iface 182 (.agg #[.slice qa qn qc,.slice va vn vc])] w (NvPost (.mk 1 (p++q) u []) w):=by
 have z1:=as1_1
 obtain ⟨w1,hw1⟩:∃ w1,w1=w.alloc (.cells #[.slice qa qn qc,.slice va vn vc] 182):=⟨_,rfl⟩
 have hz:Blk 182 w1 w.heap.size [.slice qa qn qc,.slice va vn vc]:=by rw [hw1];exact Blk.new w _ _
 have hbel:Below w.heap.size w w1:=by rw [hw1];exact Qba _ _
 have k0:=fun x:Ext w1=>x.cell ((hz.cell 0).trans (show _=some (Value.slice qa qn qc) from rfl))
 have k1:=fun x:Ext w1=>x.cell ((hz.cell 1).trans (show _=some (Value.slice va vn vc) from rfl))
 have Cj:=Qhd (fun (x:World) (hx:Below w1.heap.size w1 x)=>Q9k pa qa pn pc qn qc p q hpn hqn hp1 hq1 x (hp.below (Below.then hbel hx)) (hq.below (Below.then hbel hx)))
 have Hw1:=Qhd hw1
 have Hv:=Qhd hv
 have hpz:((pn:Int)==0)=false:=by
  rw [beq_eq_false_iff_ne]
  have:0<p.length:=List.length_pos_iff.2 h0
  omega
 clear hw1 hp hq hv hpn hqn h0
 go_enter Tryz.func158,Tryz.ntmps158
 go_wp2_with fail
 rw [show w.alloc (.cells #[.slice qa qn qc,.slice va vn vc] 182)=w1 from Hw1.out.symm]
 refine Q02 w1 8 (by kernel_rfl) (by kernel_rfl) (Below.refl _ _) ?_;simp only [List.take_succ_cons,List.take_zero,List.take_nil]
 iterate 3 (refine Q01 (by rfl) (fun K hK=>?_);go_simp;refine hK _ ?_;clear hK K)
 refine Q07 19 (SlG (p++q)) rfl (of_decide_eq_true rfl) (SlG.mono _) (fun w6 hw6=>?_) ?_
 ·simp only [relOf,List.filter_nil,Q00]
  refine ⟨rfl,?_⟩
  go_simp
  refine (Cj.out w6 hw6).mono ?_
  rintro e w7 h7
  obtain ⟨a,n,c,rfl,r7,b7⟩:=h7.sl
  exact ⟨_,rfl,⟨a,n,c,rfl,r7⟩,b7⟩
 iterate 2 (refine Q01 (by rfl) (fun K hK=>?_);go_simp;refine hK _ ?_;clear hK K)
 refine Q07 22 (LfT (p++q) (.slice va vn vc)) rfl (of_decide_eq_true rfl) (LfT.mono _ _) (fun w6 hw6=>?_) ?_
 ·change Q00 w6 [(19,_)] _ _
  rintro v19 ⟨a,n,c,rfl,h19⟩
  simp only [Q00]
  refine ⟨rfl,?_⟩
  go_simp
  exact ⟨Below.refl _ _,a,n,c,rfl,h19⟩
 refine Q07 23 (IfT 182 (p++q) (.slice va vn vc)) rfl (of_decide_eq_true rfl) (IfT.mono _ _ _) (fun w6 hw6=>?_) ?_
 ·change Q00 w6 [(22,_)] _ _
  rintro v22 h22
  obtain ⟨a,n,c,rfl,h2⟩:=h22
  simp only [Q00]
  refine ⟨rfl,?_⟩
  go_simp
  exact ⟨Below.refl _ _,_,rfl,a,n,c,rfl,h2⟩
 refine Q09 ?_
 intro y hy v19 _ v22 _ v23 h23
 change wpList _ _ _ [_] _ _
 simp only [Act.put,Qzs]
 obtain ⟨_,rfl,a,n,c,rfl,h2⟩:=h23
 go_wp2_with fail
 go_ret
 exact ⟨.mk 1 (.slice a n c) (p++q) (.slice va vn vc) u (.slice none 0 0) [],rfl,Below.then hbel hy,.leaf _ _ _ _ _ _ h2 (Hv.out.below (Below.then hbel hy)),rfl⟩
theorem Qbz (pa:Option Addr)(pn pc:Nat)(w:World)(h0:0<pn) :
  Calls Tryz.prog 158 #[.slice pa pn pc,.nilIface] w (NvPost nP w):=by
 have z1:=as0_1
 have z2:=as0_2
 have z3:∀ W,(Instr.typeAssert .nilIface 143 189 true).run Tryz.prog W=.ok (.tuple #[.agg (List.replicate 16 Value.nilIface++[Value.slice none 0 0]).toArray,.bool false]) W:=fun W=>by kernel_rfl
 have hpz:((pn:Int)==0)=false:=by
  rw [beq_eq_false_iff_ne]
  omega
 go_enter Tryz.func158,Tryz.ntmps158
 go_wp2_with fail
 go_ret
 exact ⟨nilN,rfl,Below.refl _ _,IsNv.nil _,rfl⟩
theorem Qaj (pa:Option Addr)(pc:Nat)(X:Value)(w:World):Calls Tryz.prog 158 #[.slice pa 0 pc,X] w fun e w'=>e=.returned X∧Below w.heap.size w w':=by
 go_enter Tryz.func158,Tryz.ntmps158
 go_wp2_with fail
 go_ret
 exact ⟨rfl,Below.refl _ _⟩
theorem Qby (pa qa:Option Addr)(pn pc qn qc:Nat)(p q:List UInt8)(k:Nd)(hk3:k.kd=3)(hpn:p.length=pn)(hqn:q.length=qn)(hp1:pn≤1000000000)(hq1:qn≤1000000000)(h0:p≠[])(w:World)(hp:Bytes w (.slice pa pn pc) p)(hq:Bytes w (.slice qa qn qc) q)(hk:IsNv w k) :
  Calls Tryz.prog 158 #[.slice pa pn pc,.iface 185 (.agg #[.slice qa qn qc,nv k])] w (NvPost (.mk 2 (p++q) [] [clN k]) w):=by
 have hK:=fun (a:Option Addr) (n c:Nat) (u:World) (hb:Below w.heap.size w u) (hs:Bytes u (.slice a n c) (p++q))=>(IsNv.road (.slice a n c) (p++q) (.slice none 0 0) [] (.slice none 0 0) k hs hk3 (hk.kept hb))
 have hnv:=fun (a:Option Addr) (n c:Nat)=>show nv (.mk 2 (.slice a n c) (p++q) (.slice none 0 0) [] (.slice none 0 0) [k])=.iface 185 (.agg #[.slice a n c,nv k]) from rfl
 obtain ⟨x,hx⟩:=Q8i hk3
 rw [hx]
 simp only [hx] at hnv
 have z1:=as2_1
 have z2:=as2_2
 obtain ⟨w1,hw1⟩:∃ w1,w1=w.alloc (.cells #[.slice qa qn qc,.iface 189 x] 185):=⟨_,rfl⟩
 have hz:Blk 185 w1 w.heap.size [.slice qa qn qc,.iface 189 x]:=by rw [hw1];exact Blk.new w _ _
 have hbel:Below w.heap.size w w1:=by rw [hw1];exact Qba _ _
 have k0:=fun x:Ext w1=>x.cell ((hz.cell 0).trans (show _=some (Value.slice qa qn qc) from rfl))
 have k1:=fun y:Ext w1=>y.cell ((hz.cell 1).trans (show _=some (Value.iface 189 x) from rfl))
 have Cj:=Qhd (fun (x:World) (hx:Below w1.heap.size w1 x)=>Q9k pa qa pn pc qn qc p q hpn hqn hp1 hq1 x (hp.below (Below.then hbel hx)) (hq.below (Below.then hbel hx)))
 have Hw1:=Qhd hw1
 have HK:=Qhd hK
 have Hnv:=Qhd hnv
 have hpz:((pn:Int)==0)=false:=by
  rw [beq_eq_false_iff_ne]
  have:0<p.length:=List.length_pos_iff.2 h0
  omega
 clear hw1 hp hq hpn hqn h0 hK hnv hx hk hk3
 go_enter Tryz.func158,Tryz.ntmps158
 go_wp2_with fail
 rw [show w.alloc (.cells #[.slice qa qn qc,.iface 189 x] 185)=w1 from Hw1.out.symm]
 refine Q02 w1 8 (by kernel_rfl) (by kernel_rfl) (Below.refl _ _) ?_;simp only [List.take_succ_cons,List.take_zero,List.take_nil]
 iterate 3 (refine Q01 (by rfl) (fun K hK=>?_);go_simp;refine hK _ ?_;clear hK K)
 refine Q07 30 (SlG (p++q)) rfl (of_decide_eq_true rfl) (SlG.mono _) (fun w6 hw6=>?_) ?_
 ·simp only [relOf,List.filter_nil,Q00]
  refine ⟨rfl,?_⟩
  go_simp
  refine (Cj.out w6 hw6).mono ?_
  rintro e w7 h7
  obtain ⟨a,n,c,rfl,r7,b7⟩:=h7.sl
  exact ⟨_,rfl,⟨a,n,c,rfl,r7⟩,b7⟩
 iterate 2 (refine Q01 (by rfl) (fun K hK=>?_);go_simp;refine hK _ ?_;clear hK K)
 refine Q07 33 (LfT (p++q) (.iface 189 x)) rfl (of_decide_eq_true rfl) (LfT.mono _ _) (fun w6 hw6=>?_) ?_
 ·change Q00 w6 [(30,_)] _ _
  rintro v19 ⟨a,n,c,rfl,h19⟩
  simp only [Q00]
  refine ⟨rfl,?_⟩
  go_simp
  exact ⟨Below.refl _ _,a,n,c,rfl,h19⟩
 refine Q07 34 (IfT 185 (p++q) (.iface 189 x)) rfl (of_decide_eq_true rfl) (IfT.mono _ _ _) (fun w6 hw6=>?_) ?_
 ·change Q00 w6 [(33,_)] _ _
  rintro v22 h22
  obtain ⟨a,n,c,rfl,h2⟩:=h22
  simp only [Q00]
  refine ⟨rfl,?_⟩
  go_simp
  exact ⟨Below.refl _ _,_,rfl,a,n,c,rfl,h2⟩
 refine Q09 ?_
 intro y hy v19 _ v22 _ v23 h23
 change wpList _ _ _ [_] _ _
 simp only [Act.put,Qzs]
 obtain ⟨_,rfl,a,n,c,rfl,h2⟩:=h23
 go_wp2_with fail
 go_ret
 exact ⟨.mk 2 (.slice a n c) (p++q) (.slice none 0 0) [] (.slice none 0 0) [k],congrArg Ending.returned (Hnv.out a n c).symm,Below.then hbel hy,HK.out a n c _ (Below.then hbel hy) h2,rfl⟩
def zFork:List Value:=List.replicate 16 Value.nilIface++[Value.slice none 0 0]
theorem Qbd (ks:List Nd):∀ u∈nvL ks,u.oneCell'=true:=by
 rw [Q17]
 intro u hu
 obtain ⟨k,_,rfl⟩:=List.mem_map.1 hu
 rcases Q4c k with h|⟨ty,x,h⟩
 ·rw [h];rfl
 ·rw [h];rfl
theorem Qc1 (pa va:Option Addr)(pn pc vn vc:Nat)(p u:List UInt8)(ks:List Nd)(hks:ks.length=16)(hpn:p.length=pn)(hp1:pn≤1000000000)(h0:p≠[])(w:World)(hp:Bytes w (.slice pa pn pc) p)(hv:Bytes w (.slice va vn vc) u)(hk:∀ k∈ks,IsNv w k) :
  Calls Tryz.prog 158 #[.slice pa pn pc,.iface 189 (.agg (nvL ks++[Value.slice va vn vc]).toArray)] w (NvPost (.mk 2 p [] [.mk 3 [] u (clNL ks)]) w):=by
 have hK:=fun (a:Option Addr) (n c:Nat) (x:World) (hb:Below w.heap.size w x) (hs:Bytes x (.slice a n c) p)=>(IsNv.road (.slice a n c) p (.slice none 0 0) [] (.slice none 0 0) (.mk 3 (.slice none 0 0) [] (.slice va vn vc) u (.slice none 0 0) ks) hs rfl (.fork _ _ _ _ _ _ (hv.below hb) hks (fun k hk2=>(hk k hk2).kept hb)))
 have hnv:=fun (a:Option Addr) (n c:Nat)=>show nv (.mk 2 (.slice a n c) p (.slice none 0 0) [] (.slice none 0 0) [.mk 3 (.slice none 0 0) [] (.slice va vn vc) u (.slice none 0 0) ks])=.iface 185 (.agg #[.slice a n c,.iface 189 (.agg (nvL ks++[Value.slice va vn vc]).toArray)]) from rfl
 have hFl:(nvL ks++[Value.slice va vn vc]).length=17:=by rw [Q17];simp [hks]
 have hF1:∀ x∈nvL ks++[Value.slice va vn vc],x.oneCell'=true:=by
  intro x hx
  rcases List.mem_append.1 hx with hx|hx
  ·exact Qbd ks x hx
  ·rw [List.mem_singleton] at hx;subst hx;rfl
 obtain ⟨FC,hFC⟩:∃ FC,FC=nvL ks++[Value.slice va vn vc]:=⟨_,rfl⟩
 simp only [←hFC] at hnv hFl hF1 ⊢
 have z1:=as3_1
 have z2:=as3_2
 have z3:=as3_3
 have C1:=Qhd (fun (x:World) (hx:Below w.heap.size w x)=>Q8g pa pn pc p hp1 x (hp.below hx))
 have HK:=Qhd hK
 have Hnv:=Qhd hnv
 have HFl:=Qhd hFl
 have HF1:=Qhd hF1
 have hpz:((pn:Int)==0)=false:=by
  rw [beq_eq_false_iff_ne]
  have:0<p.length:=List.length_pos_iff.2 h0
  omega
 clear hp hpn h0 hK hnv hk hv hFC hFl hF1
 go_enter Tryz.func158,Tryz.ntmps158
 go_wp2_with ((with_reducible refine Qgs 37 ?_);refine Qsa 189 7 37 w.heap.size FC Q1e (Blk.new w 189 zFork) HFl.out (by rfl) HF1.out (Qba w _) (Nat.le_refl _) ?_;intro w1 h1 hbel _;have r1:=h1.all0)
 refine Q02 w1 6 (by kernel_rfl) (by kernel_rfl) (Below.refl _ _) ?_;simp only [List.take_succ_cons,List.take_zero,List.take_nil]
 (refine Q01 (by rfl) (fun K hK=>?_);go_simp;refine hK _ ?_;clear hK K)
 refine Q07 39 (SlG p) rfl (of_decide_eq_true rfl) (SlG.mono _) (fun w6 hw6=>?_) ?_
 ·simp only [relOf,List.filter_nil,Q00]
  refine ⟨rfl,?_⟩
  go_simp
  refine (C1.out w6 (Below.then hbel hw6)).mono ?_
  rintro e w7 h7
  obtain ⟨a,n,c,rfl,r7,b7⟩:=h7.sl
  exact ⟨_,rfl,⟨a,n,c,rfl,r7⟩,b7⟩
 (refine Q01 (by rfl) (fun K hK=>?_);rw [if_pos (by rfl)];refine ⟨_,fun u=>Q08 _ (.tmp 7) (by rfl) _ _ (by rfl) Q1e HFl.out (rangeAt.ext r1 u),hK _ ?_⟩;clear hK K;simp only [Act.put,Qzs])
 (refine Q01 (by rfl) (fun K hK=>?_);go_simp;refine hK _ ?_;clear hK K)
 refine Q07 42 (LfT p (.iface 189 (.agg FC.toArray))) rfl (of_decide_eq_true rfl) (LfT.mono _ _) (fun w6 hw6=>?_) ?_
 ·change Q00 w6 [(39,_)] _ _
  rintro v19 ⟨a,n,c,rfl,h19⟩
  simp only [Q00]
  refine ⟨rfl,?_⟩
  go_simp
  exact ⟨Below.refl _ _,a,n,c,rfl,h19⟩
 refine Q07 43 (IfT 185 p (.iface 189 (.agg FC.toArray))) rfl (of_decide_eq_true rfl) (IfT.mono _ _ _) (fun w6 hw6=>?_) ?_
 ·change Q00 w6 [(42,_)] _ _
  rintro v22 h22
  obtain ⟨a,n,c,rfl,h2⟩:=h22
  simp only [Q00]
  refine ⟨rfl,?_⟩
  go_simp
  exact ⟨Below.refl _ _,_,rfl,a,n,c,rfl,h2⟩
 refine Q09 ?_
 intro y hy v19 _ v22 _ v23 h23
 change wpList _ _ _ [_] _ _
 simp only [Act.put,Qzs]
 obtain ⟨_,rfl,a,n,c,rfl,h2⟩:=h23
 go_wp2_with fail
 go_ret
 exact ⟨.mk 2 (.slice a n c) p (.slice none 0 0) [] (.slice none 0 0) [.mk 3 (.slice none 0 0) [] (.slice va vn vc) u (.slice none 0 0) ks],congrArg Ending.returned (Hnv.out a n c).symm,Below.then hbel hy,HK.out a n c _ (Below.then hbel hy) h2,rfl⟩
def Pn.pth:Pn→List UInt8
 | .mk _ p _ _=>p
def Nd.path (t:Nd):List UInt8:=(clN t).pth
theorem Q3r (pa:Option Addr)(pn pc:Nat)(p:List UInt8)(hpn:p.length=pn)(hp1:pn≤1000000000)(t:Nd)(ht1:t.path.length≤1000000000)(w:World)(hp:Bytes w (.slice pa pn pc) p)(ht:IsNv w t) :
  Calls Tryz.prog 158 #[.slice pa pn pc,nv t] w (NvPost (Q0o p (clN t)) w):=by
 by_cases h0:p=[]
 ·subst h0
  simp only [List.length_nil] at hpn
  subst hpn
  refine Calls.mono (Qaj pa pc (nv t) w) ?_
  rintro e w' ⟨rfl,hb⟩
  refine ⟨t,rfl,hb,ht.kept hb,?_⟩
  cases clN t with
  | mk kd q u ks=>simp only [Q0o];rw [if_pos trivial]
 ·have hpos:0<pn:=by rw [←hpn];exact List.length_pos_iff.2 h0
  cases ht with
  | none pv q vv u kv ks =>
   have:Q0o p (clN (.mk 0 pv q vv u kv ks))=nP:=by unfold clN;simp [Q0o,nP,h0]
   rw [this]
   exact Qbz pa pn pc w hpos
  | leaf pv q vv u kv ks hq hv =>
   obtain ⟨qa,qc,rfl,_⟩:=hq.form
   obtain ⟨va,vc,rfl,_⟩:=hv.form
   have:Q0o p (clN (.mk 1 (.slice qa q.length qc) q (.slice va u.length vc) u kv ks))=.mk 1 (p++q) u []:=by unfold clN;simp [Q0o,h0]
   rw [this]
   exact Qc0 pa va qa pn pc _ vc _ qc p q u hpn rfl hp1 ht1 h0 w hp hq hv
  | road pv q vv u kv k hq hk3 hk =>
   obtain ⟨qa,qc,rfl,_⟩:=hq.form
   have:Q0o p (clN (.mk 2 (.slice qa q.length qc) q vv u kv [k]))=.mk 2 (p++q) [] [clN k]:=by
    have e:clN (.mk 2 (.slice qa q.length qc) q vv u kv [k])=.mk 2 q [] [clN k]:=rfl
    rw [e];simp [Q0o,h0]
   rw [this]
   exact Qby pa qa pn pc _ qc p q k hk3 hpn rfl hp1 ht1 h0 w hp hq hk
  | fork pv q vv u kv ks hv hl hk =>
   obtain ⟨va,vc,rfl,_⟩:=hv.form
   have:Q0o p (clN (.mk 3 pv q (.slice va u.length vc) u kv ks))=.mk 2 p [] [.mk 3 [] u (clNL ks)]:=by unfold clN;simp [Q0o,h0]
   have hn:nv (.mk 3 pv q (.slice va u.length vc) u kv ks)=.iface 189 (.agg (nvL ks++[Value.slice va u.length vc]).toArray):=rfl
   rw [this,hn]
   exact Qc1 pa va pn pc _ vc p u ks hl hpn hp1 h0 w hp hv hk
theorem IsNv.kd_cl {w:World}{t:Nd}(h:IsNv w t):(clN t).kd=t.kd:=by
 cases h with
 | none pv p vv v kv ks=>rfl
 | leaf pv p vv v kv ks hp hv=>rfl
 | road pv p vv v kv k hp hk h=>rfl
 | fork pv p vv v kv ks hv hl h=>rfl
theorem IsNv.val {w:World}{t:Nd}(h:IsNv w t):(t.kd=0∧nv t=.nilIface)∨(t.kd≠0∧∃ ty x,nv t=.iface ty x):=by
 cases h with
 | none pv p vv v kv ks=>exact .inl ⟨rfl,rfl⟩
 | leaf pv p vv v kv ks hp hv=>exact .inr ⟨by simp [Nd.kd],_,_,rfl⟩
 | road pv p vv v kv k hp hk h=>exact .inr ⟨by simp [Nd.kd],_,_,rfl⟩
 | fork pv p vv v kv ks hv hl h=>exact .inr ⟨by simp [Nd.kd],_,_,rfl⟩
theorem Qki (l:List Pn)(k:Pn):cntQ (l++[k])=cntQ l+(if k.kd=0 then 0 else 1):=by
 induction l with
 | nil=>simp [cntQ]
 | cons x l ih=>simp only [List.cons_append,cntQ,ih];omega
theorem Qa7:∀ (l:List Pn)(k:Pn)(i a:Nat),lastQ (l++[k]) i a=if k.kd=0 then lastQ l i a else i+l.length
 | [],k,i,a=>rfl
 | x::l,k,i,a=>by
  simp only [List.cons_append,lastQ,List.length_cons]
  rw [Qa7 l k (i+1)]
  split
  ·rfl
  ·omega
theorem Qbh:∀ (l:List Pn)(i a:Nat),a<i+l.length∨(a=0∧i=0∧l=[])→lastQ l i a<i+l.length∨(lastQ l i a=a)
 | [],i,a,_=>.inr rfl
 | k::l,i,a,h=>by
  simp only [lastQ,List.length_cons]
  by_cases hk:k.kd=0
  ·rw [if_pos hk]
   by_cases hl:l=[]
   ·subst hl;exact .inr rfl
   ·have:=Qbh l (i+1) a (.inl (by rcases h with h|⟨_,_,h⟩;simp only [List.length_cons] at h;omega;cases h))
    omega
  ·rw [if_neg hk]
   have:=Qbh l (i+1) i (.inl (by omega))
   omega
theorem last16 (l:List Pn)(h:l.length=16):lastQ l 0 0<16:=by
 have:=Qbh l 0 0 (.inl (by omega))
 omega
theorem Qij:Agg Tryz.prog 187 16:=⟨_,Tryz.underlying187,rfl,by kernel_rfl⟩
theorem Q4x (KC:List Value)(i:Nat)(hi:i<16)(v:Value)(h:KC[i]?=some v)(w:World):(Instr.index 187 (.agg KC.toArray) (.int .i64 (i:Int))).run Tryz.prog w=.ok v w:=by
 have hsz:(sizeOf 143).run Tryz.prog w=.ok 1 w:=by kernel_rfl
 have hagg:(isAgg 143).run Tryz.prog w=.ok false w:=by kernel_rfl
 have hp:(part 143 KC.toArray i).run Tryz.prog w=.ok v w:=by
  unfold part
  rw [Sem.run_bind,hagg]
  simp [h]
 unfold Instr.index
 simp only [asIntOf,Sem.run_bind,Sem.run_pure,run_underlying (show Tryz.prog.underlying 187=some (.array 16 143) from Tryz.underlying187),Result.andThen_ok]
 rw [if_pos (by omega)]
 simp only [Sem.run_bind,hsz,Result.andThen_ok]
 simpa using hp
section
variable (va:Option Addr) (vn vc:Nat) (u:List UInt8) (ks:List Nd) (w:World)
theorem Qcf (hvn:u.length=vn)(hks:ks.length=16)(hv:Bytes w (.slice va vn vc) u)(hk:∀ k∈ks,IsNv w k)(hpl:∀ k∈ks,k.path.length≤1000000000) :
  Calls Tryz.prog 133 #[.agg (nvL ks++[Value.slice va vn vc]).toArray] w (NvPost (tidyQ u (clNL ks)) w):=by
 obtain ⟨FC,hFC⟩:∃ FC,FC=nvL ks++[Value.slice va vn vc]:=⟨_,rfl⟩
 have hNl:(nvL ks).length=16:=by rw [Q17];simp [hks]
 have hat:∀ i (hi:i<16),(nvL ks)[i]?=some (nv (ks[i]'(by omega))):=by
  intro i hi
  rw [Q17,List.getElem?_map,List.getElem?_eq_getElem (by omega)];rfl
 have hFl:FC.length=17:=by rw [hFC];simp [hNl]
 have h16:FC[16]?=some (.slice va vn vc):=by rw [hFC,List.getElem?_append_right (by omega),hNl];rfl
 have hFi:∀ i (hi:i<16),FC[i]?=some (nv (ks[i]'(by omega))):=by
  intro i hi
  rw [hFC,List.getElem?_append_left (by omega)];exact hat i hi
 have hF1:∀ x∈FC,x.oneCell'=true:=by
  rw [hFC]
  intro x hx
  rcases List.mem_append.1 hx with hx|hx
  ·exact Qbd ks x hx
  ·rw [List.mem_singleton] at hx;subst hx;rfl
 have hpre:∀ (j:Nat) v,(nvL ks)[j]?=some v→FC[j]?=some v:=by
  intro j v h
  rw [hFC,List.getElem?_append_left (List.getElem?_eq_some_iff.1 h).1];exact h
 obtain ⟨w1,hw1⟩:∃ w1,w1=w.alloc (.cells FC.toArray 189):=⟨_,rfl⟩
 have hz:Blk 189 w1 w.heap.size FC:=by rw [hw1];exact Blk.new w _ _
 have hbel:Below w.heap.size w w1:=by rw [hw1];exact Qba _ _
 have r16:w1.rangeAt w.heap.size 0 (nvL ks):=fun j v hv=>by rw [Nat.zero_add,hz.cell];exact hpre j v hv
 have c16:=(hz.cell 16).trans h16
 have c16':=c16
 rw [hw1] at c16'
 obtain ⟨KC,hKC⟩:∃ KC,KC=nvL ks:=⟨_,rfl⟩
 have hnf:nv (.mk 3 (.slice none 0 0) [] (.slice va vn vc) u (.slice none 0 0) ks)=.iface 189 (.agg FC.toArray):=by rw [hFC];rfl
 rw [←hFC]
 rw [←hKC] at r16 hNl
 have Hat:Hid (∀ i<16,KC[i]?=some (nv (ks.getD i nilN))):=Qhd (fun i hi=>by rw [hKC,hat i hi,List.getD_eq_getElem?_getD,List.getElem?_eq_getElem (by omega)];rfl)
 have HFi:Hid (∀ i<16,FC[i]?=some (nv (ks.getD i nilN))):=Qhd (fun i hi=>by rw [hFi i hi,List.getD_eq_getElem?_getD,List.getElem?_eq_getElem (by omega)];rfl)
 have HFl:=Qhd hFl
 have HF1:=Qhd hF1
 have Hw1:=Qhd hw1
 have Hnf:=Qhd hnf
 have Hks:=Qhd hks
 have Hvn:=Qhd hvn
 have Hv:=Qhd hv
 have Hmem:Hid (∀ i<16,ks.getD i nilN∈ks):=Qhd (fun i hi=>by rw [List.getD_eq_getElem?_getD,List.getElem?_eq_getElem (by omega)];exact List.getElem_mem _)
 have Hk:=Qhd hk
 have Hpl:=Qhd hpl
 have HNl:=Qhd hNl
 clear hat hFi hF1 hpre hw1 hFC hKC hnf hks hv hk hpl hNl hFl h16 hvn
 obtain ⟨M0,hM0⟩:∃ M0,M0=min vn 1:=⟨_,rfl⟩
 have HM0:=Qhd hM0
 rcases (by omega:(1:Int)<(vn:Int)∨¬ (1:Int)<(vn:Int)) with hm|hm
 all_goals
  have hMv:min u.length 1=M0:=by rw [Hvn.out];exact HM0.out.symm
  have hM01:M0≤1:=by have:=HM0.out;omega
  have hMi:(if (1:Int)<(vn:Int) then 1 else (vn:Int))=(M0:Int):=by have:=HM0.out;split<;>omega
  have HMv:=Qhd hMv
  clear hMv hM0
  go_enter Tryz.func133,Tryz.ntmps133
  go_wp2_with ((with_reducible refine Qgl 12 ?_);refine Qlw 187 11 w.heap.size 0 Qij HNl.out (by rw [←Hw1.out];exact r16) ?_)
  rw [show w.alloc (.cells FC.toArray 189)=w1 from Hw1.out.symm]
  go_loopw [3,4,13] (fun mx lx ix wr=>∃ i M L:Nat,i≤16∧ix=.int .i64 (i:Int)∧mx=.int .i64 (M:Int)∧lx=.int .i64 (L:Int)∧M=M0+cntQ ((clNL ks).take i)∧M≤1+i∧L=lastQ ((clNL ks).take i) 0 0∧L≤16∧Below w1.heap.size w1 wr) (fun _ _ ix _=>16 - (intOf ix).toNat)
  case atStart=>exact ⟨0,M0,0,by omega,rfl,by rw [←hMi];split<;>(first|rfl|(simp;omega)),rfl,rfl,by omega,rfl,by omega,Below.refl _ _⟩
  case round =>
   obtain ⟨i,M,L,hi,rfl,rfl,rfl,hM,hM1,hL,hL16,bwr⟩:=hrel
   have bw:=Below.then hbel bwr
   by_cases hlt:i<16
   ·have hz1:(i:Int)<16:=by omega
    have hxi:=Hat.out i hlt
    have hki:=Hk.out _ (Hmem.out i hlt)
    have htk:(clNL ks).take (i+1)=(clNL ks).take i++[clN (ks.getD i nilN)]:=by
     have hl:(clNL ks).length=16:=by rw [Q1c,List.length_map];exact Hks.out
     rw [List.take_succ_eq_append_getElem (by omega)]
     congr 2
     have h1:(clNL ks)[i]?=some (clN (ks.getD i nilN)):=by
      rw [Q1c,List.getElem?_map,List.getD_eq_getElem?_getD,List.getElem?_eq_getElem (by have:=Hks.out;omega)];rfl
     rw [List.getElem?_eq_getElem (by omega)] at h1
     exact Option.some.inj h1
    have hc:=Qki ((clNL ks).take i) (clN (ks.getD i nilN))
    have hl:=Qa7 ((clNL ks).take i) (clN (ks.getD i nilN)) 0 0
    have htl:((clNL ks).take i).length=i:=by rw [List.length_take,Q1c,List.length_map,Hks.out];omega
    rw [←htk,hki.kd_cl] at hc hl
    rw [htl] at hl
    have hwM:IntKind.i64.wrap ((M:Int)+1)=((M+1:Nat):Int):=by rw [IntWalk.i64_in _ (by omega)];omega
    have hwi:IntKind.i64.wrap ((i:Int)+1)=((i+1:Nat):Int):=by rw [IntWalk.i64_in _ (by omega)];omega
    rcases hki.val with ⟨h0,hv0⟩|⟨h0,ty,x,hvx⟩
    ·rw [hv0] at hxi
     have hix:=Q4x KC i hlt _ hxi
     rw [if_pos h0] at hc hl
     have Hc:=Qhd hc
     have Hl:=Qhd hl
     have HM:=Qhd hM
     have HL:=Qhd hL
     clear hc hl hv0 h0 htk hM hL htl
     go_wp2_with fail
     go_roundw
     case rel=>exact ⟨i+1,M,L,by omega,by go_num,rfl,rfl,by have:=Hc.out;have:=HM.out;omega,by omega,by rw [Hl.out,HL.out],hL16,bwr⟩
     case measure=>simp [intOf];omega
    ·rw [hvx] at hxi
     have hix:=Q4x KC i hlt _ hxi
     rw [if_neg h0] at hc hl
     have Hc:=Qhd hc
     have Hl:=Qhd hl
     have HM:=Qhd hM
     have HL:=Qhd hL
     clear hc hl hvx h0 htk hM hL htl
     go_wp2_with fail
     go_roundw
     case rel=>exact ⟨i+1,M+1,i,by omega,by go_num,by go_num,rfl,by have:=Hc.out;have:=HM.out;omega,by omega,by rw [Hl.out,Nat.zero_add],by omega,bwr⟩
     case measure=>simp [intOf];omega
   ·obtain rfl:i=16:=by omega
    have hz1:¬ ((16:Nat):Int)<16:=by omega
    have hall:(clNL ks).take 16=clNL ks:=List.take_of_length_le (by rw [Q1c,List.length_map,Hks.out];exact Nat.le_refl _)
    rw [hall] at hM hL
    have c16w:wr.cell? ⟨w.heap.size,16,none⟩=some (.slice va vn vc):=by rw [bwr.cell (World.block_lt_of_cell? w1 _ c16)];exact c16
    have hzw:=hz.kept bwr
    have hrw:=hzw.all0
    have HRes:Hid (tidyQ u (clNL ks)=if 2≤M then .mk 3 [] u (clNL ks) else if M=0 then nP else if 0<vn then .mk 1 [] u [] else Q0o [UInt8.ofNat L] ((clNL ks)[L]?.getD nP)):=Qhd (by unfold tidyQ;rw [HMv.out,←hM,←hL,Hvn.out])
    have hL15:L<16:=by rw [hL];exact last16 _ (by rw [Q1c,List.length_map];exact Hks.out)
    by_cases h2:2≤M
    ·have hz2:(2:Int)≤(M:Int):=by omega
     clear hM hL
     go_wp2_with ((with_reducible refine Qgl 26 ?_);refine Qlw 189 1 w.heap.size 0 Q1e HFl.out hrw ?_)
     go_ret
     exact ⟨.mk 3 (.slice none 0 0) [] (.slice va vn vc) u (.slice none 0 0) ks,congrArg Ending.returned Hnf.out.symm,bw,.fork _ _ _ _ _ _ (Hv.out.below bw) Hks.out (fun k hk=>(Hk.out k hk).kept bw),by rw [HRes.out,if_pos h2];rfl⟩
    ·have hz2:¬ (2:Int)≤(M:Int):=by omega
     by_cases h0:M=0
     ·have hz3:((M:Int)==0)=true:=beq_iff_eq.2 (by omega)
      clear hM hL
      go_wp2_with fail
      go_ret
      exact ⟨nilN,rfl,bw,IsNv.nil _,by rw [HRes.out,if_neg h2,if_pos h0];rfl⟩
     ·have hz3:((M:Int)==0)=false:=beq_eq_false_iff_ne.2 (by omega)
      by_cases hv0:0<vn
      ·have hz4:(0:Int)<(vn:Int):=by omega
       clear hM hL
       go_wp2_with fail
       go_ret
       exact ⟨.mk 1 (.slice none 0 0) [] (.slice va vn vc) u (.slice none 0 0) [],rfl,bw,.leaf _ _ _ _ _ _ (RowOf.nil b8 1 _) (Hv.out.below bw),by rw [HRes.out,if_neg h2,if_neg h0,if_pos hv0];rfl⟩
      ·have hz4:¬ (0:Int)<(vn:Int):=by omega
       clear hM hL hm hMi
       have hcL:wr.cell? ⟨w.heap.size,L,none⟩=some (nv (ks.getD L nilN)):=(hzw.cell L).trans (HFi.out L hL15)
       have hkL:=Hk.out _ (Hmem.out L hL15)
       have hpL:=Hpl.out _ (Hmem.out L hL15)
       have HeL:Hid ((clNL ks)[L]?.getD nP=clN (ks.getD L nilN)):=Qhd (by rw [Q1c,List.getElem?_map,List.getD_eq_getElem?_getD,List.getElem?_eq_getElem (by have:=Hks.out;omega)];rfl)
       have hcv:IntKind.u8.wrap (L:Int)=(L:Int):=IntWalk.u8_in _ ⟨by omega,by omega⟩
       have hLz:(L:Int)<16:=by omega
       have cb:∀ (g:Nat) (x:World),Blk 5 x g [.int .u8 (L:Int)]→Below wr.heap.size wr x→Calls Tryz.prog 158 #[.slice (some ⟨g,0,none⟩) 1 1,nv (ks.getD L nilN)] x (NvPost (tidyQ u (clNL ks)) x):=fun g x hg hx=>by
        rw [HRes.out,if_neg h2,if_neg h0,if_neg hv0,HeL.out]
        refine Q3r (some ⟨g,0,none⟩) 1 1 [UInt8.ofNat L] rfl (by omega) _ hpL x ?_ (hkL.kept (Below.then bw hx))
        exact Blk.row hg [UInt8.ofNat L] 1 1 (fun _=>rfl) rfl (fun j y hy=>by rw [Q13] at hy;simp only [List.map_cons,List.map_nil,u8v,Q12 (show L<256 by omega)] at hy;exact hy) (Nat.le_refl _) (by unfold maxLen;omega)
       have hcL2:(wr.alloc (.cells #[.int .u8 (L:Int)] 5)).cell? ⟨w.heap.size,L,none⟩=some (nv (ks.getD L nilN)):=by rw [((Below.refl wr.heap.size wr).alloc (Nat.le_refl _) (.cells #[.int .u8 (L:Int)] 5)).cell (World.block_lt_of_cell? wr _ hcL)];exact hcL
       obtain ⟨VL,hVL⟩:∃ VL,VL=nv (ks.getD L nilN):=⟨_,rfl⟩
       simp only [←hVL] at hcL hcL2 cb
       have Cb:=Qhd cb
       clear cb hkL hpL hVL
       go_wp2_with (go_at_call 158;(with_reducible refine (Cb.out _ _ (Blk.new wr _ _) (Qba _ _)).mono ?_);rintro e w5 ⟨t,rfl,b5,it,ct⟩;obtain ⟨VT,hVT⟩:∃ x,x=nv t:=⟨_,rfl⟩;rw [←hVT];have HVT:=Qhd hVT;clear hVT;have bA:=((Below.refl wr.heap.size wr).alloc (Nat.le_refl _) (.cells #[.int .u8 (L:Int)] 5)))
       go_ret
       exact ⟨t,by rw [←HVT.out];rfl,Below.then bw (Below.then bA b5),it,ct⟩
end
theorem Qlf (n:Nat):nvL (List.replicate n nilN)=List.replicate n Value.nilIface:=by
 rw [Q17,List.map_replicate];rfl
theorem Qdl (n:Nat):clNL (List.replicate n nilN)=List.replicate n nP:=by
 rw [Q1c,List.map_replicate];rfl
theorem Qgw (ks:List Nd)(i:Nat)(t:Nd):nvL (ks.set i t)=(nvL ks).set i (nv t):=by
 rw [Q17,Q17,List.map_set]
theorem Q91 (ks:List Nd)(i:Nat)(t:Nd):clNL (ks.set i t)=(clNL ks).set i (clN t):=by
 rw [Q1c,Q1c,List.map_set]
theorem Qc3:zFork=nvL (List.replicate 16 nilN)++[Value.slice none 0 0]:=by rw [Qlf];rfl
theorem Qey:zFork.length=17:=rfl
theorem Qex (i:Nat)(hi:i<16)(t:Nd):zFork.set i (nv t)=nvL ((List.replicate 16 nilN).set i t)++[Value.slice none 0 0]:=by
 rw [Qc3,Qgw,List.set_append_left _ _ (by rw [Q17];simpa using hi)]
theorem Qdr (v:Value):zFork.set 16 v=nvL (List.replicate 16 nilN)++[v]:=by
 rw [Qc3,List.set_append_right _ _ (by rw [Q17];simp),Q17]
 simp
theorem Q9b:∀ u∈zFork,u.oneCell'=true:=by
 intro u hu
 unfold zFork at hu
 rcases List.mem_append.1 hu with h|h
 ·rw [List.eq_of_mem_replicate h];rfl
 ·rw [List.mem_singleton] at h;rw [h];rfl
theorem IsNv.off {w w':World}{t:Nd}{e:TypeId}{z:Nat}{cs:List Value}(h:IsNv w t)(hz:Blk e w z cs)(hno:∀ u∈cs,∀ k,u≠.int .u8 k)(hg:w.grownBy w' (some z)):IsNv w' t:=by
 induction h with
 | none pv p vv v kv ks=>exact .none pv p vv v kv ks
 | leaf pv p vv v kv ks hp hv=>exact .leaf pv p vv v kv ks (Bytes.off_v hp hz hno hg) (Bytes.off_v hv hz hno hg)
 | road pv p vv v kv k hp hk _ ih=>exact .road pv p vv v kv k (Bytes.off_v hp hz hno hg) hk ih
 | fork pv p vv v kv ks hv hl _ ih=>exact .fork pv p vv v kv ks (Bytes.off_v hv hz hno hg) hl ih
theorem nv_no8 (t:Nd)(k:Int):nv t≠.int .u8 k:=by
 rcases Q4c t with h|⟨_,_,h⟩<;>rw [h]<;>simp
theorem Q9c:∀ u∈zFork,∀ k,u≠.int .u8 k:=by
 intro u hu k
 unfold zFork at hu
 rcases List.mem_append.1 hu with h|h
 ·rw [List.eq_of_mem_replicate h];simp
 ·rw [List.mem_singleton] at h;rw [h];simp
def FkPost (V:List UInt8)(KS:List Pn)(w:World)(e:Ending)(w':World):Prop:=∃ (ks:List Nd) (a:Option Addr) (n c:Nat),e=.returned (.agg (nvL ks++[Value.slice a n c]).toArray)∧Below w.heap.size w w'∧ks.length=16∧Bytes w' (.slice a n c) V∧(∀ k∈ks,IsNv w' k)∧clNL ks=KS
theorem Qiv (pa qa va:Option Addr)(pc qn qc vn vc:Nat)(q u:List UInt8)(w:World)(hv:Bytes w (.slice va vn vc) u) :
  Calls Tryz.prog 168 #[.agg zFork.toArray,.slice pa 0 pc,.iface 182 (.agg #[.slice qa qn qc,.slice va vn vc])] w (FkPost u (List.replicate 16 nP) w):=by
 have z1:=as1_1
 obtain ⟨ZC,hZC⟩:∃ ZC,ZC=zFork.set 16 (Value.slice va vn vc):=⟨_,rfl⟩
 obtain ⟨y,hy⟩:∃ y,y=((w.alloc (.cells ZC.toArray 189)).alloc (.cells #[.nilIface,.nilIface,.nilIface,.nilIface,.nilIface,.nilIface,.nilIface,.nilIface,.nilIface,.nilIface,.nilIface,.nilIface,.nilIface,.nilIface,.nilIface,.nilIface,.slice none 0 0] 189)).alloc (.cells #[.slice qa qn qc,.slice va vn vc] 182):=⟨_,rfl⟩
 have hs3:Blk 189 y w.heap.size ZC:=by rw [hy];exact ((Blk.new w _ _).alloc _).alloc _
 have hs6:Blk 189 y (w.heap.size+1) zFork:=by
  have:=Blk.new (w.alloc (.cells ZC.toArray 189)) 189 zFork
  simp only [World.size_alloc] at this
  rw [hy];exact this.alloc _
 have hb2:Below w.heap.size w y:=by rw [hy];exact ((Qba _ _).alloc (by simp) _).alloc (by simp;omega) _
 have hl:ZC.length=17:=by rw [hZC,List.length_set];rfl
 have h1:∀ x∈ZC,x.oneCell'=true:=by
  rw [hZC]
  intro x hx
  rcases List.mem_or_eq_of_mem_set hx with hx|rfl
  ·exact Q9b x hx
  ·rfl
 have hy2:=hy
 rw [hZC] at hy2
 have Hy:=Qhd hy2
 have HZC:=Qhd hZC
 have Hv:=Qhd hv
 clear hZC hy hy2 hv
 go_enter Tryz.func168,Tryz.ntmps168
 go_wp2_with (first
  |((with_reducible refine Qgl 21 ?_);refine Qla 189 3 w.heap.size Q1e (cs:=ZC) (by rw [←show y=_ from Hy.out];exact hs3) hl ?_)
  |((with_reducible refine Qgs 21 ?_);refine Qsa 189 6 21 (w.heap.size+1) ZC Q1e (by rw [←show y=_ from Hy.out];exact hs6) hl (by rfl) h1 (by rw [←show y=_ from Hy.out];exact hb2) (by omega) ?_;intro w7 h7 b7 _))
 exact bodyPost_ret (Q0b rfl _ _ (w.heap.size+1) Q1e h7 hl rfl) rfl ⟨List.replicate 16 nilN,va,vn,vc,by rw [HZC.out,Qdr],b7,by simp,Hv.out.below b7,fun k hk=>by rw [List.eq_of_mem_replicate hk];exact IsNv.nil _,Qdl 16⟩
theorem Qf7 (pa:Option Addr)(pn pc:Nat)(x:UInt8)(r:List UInt8)(hpn:(x::r).length=pn)(hp1:pn≤1000000000)(hx:x.toNat<16)(t:Nd)(ht1:t.path.length≤1000000000)(w:World)(hp:Bytes w (.slice pa pn pc) (x::r))(ht:IsNv w t) :
  Calls Tryz.prog 168 #[.agg zFork.toArray,.slice pa pn pc,nv t] w (FkPost [] ((List.replicate 16 nP).set x.toNat (Q0o r (clN t))) w):=by
 have hq1:1≤pn:=by rw [←hpn];simp
 have hne:((pn:Int)==0)=false:=by rw [beq_eq_false_iff_ne];omega
 have hlt0:(0:Int)<(pn:Int):=by omega
 have hlt0':0<pn:=by omega
 have hxi:(x.toNat:Int)<16:=by omega
 obtain ⟨bq,oq,rfl,hcq⟩:=Bytes.at hp 0 (by simp)
 simp only [List.getElem_cons_zero,Nat.add_zero] at hcq
 obtain ⟨a5,c5,run5,row5⟩:=RowOf.from elU8 hp 1 hq1 1 rfl
 simp only [List.drop_succ_cons,List.drop_zero] at row5
 have hrl:r.length=pn - 1:=by rw [←hpn];simp
 obtain ⟨w1,hw1⟩:∃ w1,w1=(w.alloc (.cells zFork.toArray 189)).alloc (.cells #[.nilIface,.nilIface,.nilIface,.nilIface,.nilIface,.nilIface,.nilIface,.nilIface,.nilIface,.nilIface,.nilIface,.nilIface,.nilIface,.nilIface,.nilIface,.nilIface,.slice none 0 0] 189):=⟨_,rfl⟩
 have hz3:Blk 189 w1 w.heap.size zFork:=by rw [hw1];exact (Blk.new w _ _).alloc _
 have hz6:Blk 189 w1 (w.heap.size+1) zFork:=by
  have:=Blk.new (w.alloc (.cells zFork.toArray 189)) 189 zFork
  simp only [World.size_alloc] at this
  rw [hw1];exact this
 have hbel:Below w.heap.size w w1:=by rw [hw1];exact (Qba _ _).alloc (by simp) _
 have cb:=fun (u:World) (hu:Below w.heap.size w u)=>Q3r a5 (pn - 1) c5 r hrl (by omega) t ht1 u (row5.below hu) (ht.kept hu)
 have k1:=fun u:Ext w1=>u.cell (show w1.cell? ⟨bq,oq,none⟩=some (.int .u8 (x.toNat:Int)) from by rw [hbel.cell (World.block_lt_of_cell? w _ hcq)];exact hcq)
 obtain ⟨VT,hVT⟩:∃ VT,VT=nv t:=⟨_,rfl⟩
 simp only [←hVT] at cb ⊢
 have Cb:=Qhd cb
 have Hw1:=Qhd hw1
 clear hw1 cb hVT hp ht hpn row5 hcq hrl
 go_enter Tryz.func168,Tryz.ntmps168
 go_wp2_with fail
 rw [show (w.alloc (.cells zFork.toArray 189)).alloc (.cells #[.nilIface,.nilIface,.nilIface,.nilIface,.nilIface,.nilIface,.nilIface,.nilIface,.nilIface,.nilIface,.nilIface,.nilIface,.nilIface,.nilIface,.nilIface,.nilIface,.slice none 0 0] 189)=w1 from Hw1.out.symm]
 refine Q02 w1 9 (by kernel_rfl) (by kernel_rfl) (Below.refl _ _) ?_;simp only [List.take_succ_cons,List.take_zero,List.take_nil]
 iterate 6 (refine Q01 (by rfl) (fun K hK=>?_);go_simp;first|(refine hK _ ?_;clear hK K)|(apply Exists.intro;refine ⟨fun _=>?_,hK _ ?_⟩;exact run5 _;clear hK K))
 refine Q07 28 (NvT (Q0o r (clN t))) rfl (of_decide_eq_true rfl) (NvT.mono _) (fun w6 hw6=>?_) ?_
 ·simp only [relOf,List.filter_nil,Q00]
  refine ⟨rfl,?_⟩
  go_simp
  refine (Cb.out w6 (Below.then hbel hw6)).mono ?_
  rintro e w7 ⟨t7,rfl,b7,i7,c7⟩
  exact ⟨_,rfl,⟨t7,rfl,i7,c7⟩,b7⟩
 iterate 2 (refine Q01 (by rfl) (fun K hK=>?_);go_simp;refine hK _ ?_;clear hK K)
 refine Q09 ?_
 intro y hy v28 h28
 change wpList _ _ _ [_] _ _
 simp only [Act.put,Qzs]
 obtain ⟨t7,rfl,i7,c7⟩:=h28
 have by1:=Below.then hbel hy
 have hy3:=hz3.kept hy
 have hy6:=hz6.kept hy
 have hs3:=hy3.set x.toNat (nv t7)
 have gc:y.grownBy (y.setCell ⟨w.heap.size,x.toNat,none⟩ (nv t7)) (some w.heap.size):=Q0r x.toNat _
 have hs6:=hy6.grown gc (by simp)
 have hb2:Below w.heap.size w (y.setCell ⟨w.heap.size,x.toNat,none⟩ (nv t7)):=by1.grown gc by1.size (fun k hk=>by cases hk;exact Nat.le_refl _)
 have i8:=i7.off hy3 Q9c gc
 obtain ⟨xc,hxc⟩:=hy3.has x.toNat (by rw [Qey];omega)
 have hfc:=hy3.free x.toNat
 have hl:(zFork.set x.toNat (nv t7)).length=17:=by rw [List.length_set];rfl
 have h1:∀ z∈zFork.set x.toNat (nv t7),z.oneCell'=true:=by
  intro z hz
  rcases List.mem_or_eq_of_mem_set hz with hz|rfl
  ·exact Q9b z hz
  ·rcases Q4c t7 with h|⟨_,_,h⟩<;>rw [h]<;>rfl
 obtain ⟨ZC,hZC⟩:∃ ZC,ZC=zFork.set x.toNat (nv t7):=⟨_,rfl⟩
 rw [←hZC] at hs3 hl h1
 have hZ2:ZC=nvL ((List.replicate 16 nilN).set x.toNat t7)++[Value.slice none 0 0]:=by rw [hZC];exact Qex _ hx t7
 have HZ2:=Qhd hZ2
 have I8:=Qhd i8
 clear hZ2 hZC hy3 hy6 gc k1 i7 i8
 have hfin:∀ w7:World,Blk 189 w7 (w.heap.size+1) ZC→Below w.heap.size w w7→(y.setCell ⟨w.heap.size,x.toNat,none⟩ (nv t7)).grownBy w7 (some (w.heap.size+1))→FkPost [] ((List.replicate 16 nP).set x.toNat (Q0o r (clN t))) w (.returned (.agg ZC.toArray)) w7:=fun w7 h7 b7 g7 =>
  ⟨(List.replicate 16 nilN).set x.toNat t7,none,0,0,by rw [HZ2.out],b7,by simp,RowOf.nil b8 1 _,fun k hk=>by
   rcases List.mem_or_eq_of_mem_set hk with hk|rfl
   ·rw [List.eq_of_mem_replicate hk];exact IsNv.nil _
   ·exact I8.out.off hs6 Q9c g7,by rw [Q91,Qdl,c7]⟩
 have Hfin:=Qhd hfin
 clear hfin
 rcases Q4c t7 with hV7|⟨ty,X7,hV7⟩
 all_goals
  rw [hV7] at hs3 hs6 hb2 Hfin ⊢
  clear hV7
  go_wp2_with (first
   |((with_reducible refine Qgl 31 ?_);refine Qla 189 3 w.heap.size Q1e hs3 hl ?_)
   |((with_reducible refine Qgs 31 ?_);refine Qsa 189 6 31 (w.heap.size+1) ZC Q1e hs6 hl (by rfl) h1 hb2 (by omega) ?_;intro w7 h7 b7 g7))
  exact bodyPost_ret (Q0b rfl _ _ (w.heap.size+1) Q1e h7 hl rfl) rfl (Hfin.out w7 h7 b7 g7)
theorem fk_len (ks:List Nd)(v:Value)(h:ks.length=16):(nvL ks++[v]).length=17:=by rw [Q17];simp [h]
theorem fk_one (ks:List Nd)(a:Option Addr)(n c:Nat):∀ x∈nvL ks++[Value.slice a n c],x.oneCell'=true:=by
 intro x hx
 rcases List.mem_append.1 hx with hx|hx
 ·exact Qbd ks x hx
 ·rw [List.mem_singleton] at hx;subst hx;rfl
theorem fk_no8 (ks:List Nd)(a:Option Addr)(n c:Nat):∀ x∈nvL ks++[Value.slice a n c],∀ k,x≠.int .u8 k:=by
 intro x hx k
 rcases List.mem_append.1 hx with hx|hx
 ·rw [Q17] at hx
  obtain ⟨t,_,rfl⟩:=List.mem_map.1 hx
  exact nv_no8 t k
 ·rw [List.mem_singleton] at hx;subst hx;simp
theorem Qi0 (ks:List Nd)(h:ks.length=16)(u v:Value):(nvL ks++[u]).set 16 v=nvL ks++[v]:=by
 rw [List.set_append_right _ _ (by rw [Q17];simp [h]),Q17]
 simp [h]
theorem fk_set (ks:List Nd)(h:ks.length=16)(i:Nat)(hi:i<16)(t:Nd)(u:Value):(nvL ks++[u]).set i (nv t)=nvL (ks.set i t)++[u]:=by
 rw [Qgw,List.set_append_left _ _ (by rw [Q17];simpa [h] using hi)]
theorem Qcw (na:Option Addr)(nn nc:Nat)(q:List UInt8)(c:Nat)(hnl:q.length=nn)(hn1:nn≤1000000000)(hcq:c≤q.length)(x:World)(hq:Bytes x (.slice na nn nc) q)(ks:List Nd)(hks:ks.length=16)(a:Option Addr)(n d:Nat)(v:List UInt8)(hv:Bytes x (.slice a n d) v)(hk:∀ k∈ks,IsNv x k) :
  ∃ (a5:Option Addr) (c5:Nat),(∀ (k:IntKind) (u:World),(Instr.slice 25 (.slice na nn nc) none (some (.int k (c:Int))) none).run Tryz.prog u=.ok (.slice a5 c c5) u) ∧
   ∀ u,Below x.heap.size x u→Calls Tryz.prog 158 #[.slice a5 c c5,.iface 189 (.agg (nvL ks++[Value.slice a n d]).toArray)] u (NvPost (Q0o (q.take c) (.mk 3 [] v (clNL ks))) u):=by
 obtain ⟨a5,c5,r5,row5⟩:=RowOf.to elU8 hq c (by omega) (c:Int) rfl
 refine ⟨a5,c5,r5,fun u hu=>?_⟩
 exact Q3r a5 c c5 (q.take c) (by rw [List.length_take];omega) (by omega) (.mk 3 (.slice none 0 0) [] (.slice a n d) v (.slice none 0 0) ks) (show ([]:List UInt8).length≤1000000000 from by simp) u (row5.below hu) (.fork _ _ _ _ _ _ (hv.below hu) hks (fun k hk2=>(hk k hk2).kept hu))
theorem Qc6 (pa:Option Addr)(pn pc:Nat)(r:List UInt8)(hpn:r.length=pn)(hp1:pn≤1000000000)(hx:nibs r)(t:Nd)(ht1:t.path.length≤1000000000)(h0:r=[]→t.kd=1)(w:World)(hp:Bytes w (.slice pa pn pc) r)(ht:IsNv w t) :
  Calls Tryz.prog 168 #[.agg #[.nilIface,.nilIface,.nilIface,.nilIface,.nilIface,.nilIface,.nilIface,.nilIface,.nilIface,.nilIface,.nilIface,.nilIface,.nilIface,.nilIface,.nilIface,.nilIface,.slice none 0 0],.slice pa pn pc,nv t] w (FkPost (withQ r (clN t)).1 (withQ r (clN t)).2 w):=by
 cases r with
 | nil =>
  simp only [List.length_nil] at hpn
  subst hpn
  have hk:=h0 rfl
  cases ht with
  | none=>simp [Nd.kd] at hk
  | road=>simp [Nd.kd] at hk
  | fork=>simp [Nd.kd] at hk
  | leaf qv q vv u kv ks hq hv =>
   obtain ⟨qa,qc,rfl,_⟩:=hq.form
   obtain ⟨va,vc,rfl,_⟩:=hv.form
   exact Qiv pa qa va pc _ qc _ vc q u w hv
 | cons x r =>
  exact Qf7 pa pn pc x r hpn hp1 (hx x List.mem_cons_self) t ht1 w hp ht
theorem Qgj (na ka va:Option Addr)(nn nc kn kc vn vc:Nat)(q p v:List UInt8)(t:Nd)(c:Nat)(hnl:q.length=nn)(hkl:p.length=kn)(hvl:v.length=vn)(hn1:nn≤1000000000)(hk1:kn≤1000000000)(hc:c=com q p)(hq:nibs q)(hp:nibs p)(ht1:t.path.length≤1000000000)(h0:c=nn→t.kd=1)(hcp:kn=c)(w:World)(hnb:Bytes w (.slice na nn nc) q)(hkb:Bytes w (.slice ka kn kc) p)(hvb:Bytes w (.slice va vn vc) v)(ht:IsNv w t) :
  Calls Tryz.prog 157 #[.int .i64 (c:Int),.slice na nn nc,nv t,.slice ka kn kc,.slice va vn vc] w (NvPost (partQ c q (clN t) p v) w):=by
 have hcl:=com_le q p
 rw [←hc] at hcl
 obtain ⟨a5,c5,r5,row5⟩:=RowOf.from elU8 hnb c (by omega) (c:Int) rfl
 have cw:=fun (u:World) (hu:Below w.heap.size w u)=>Qc6 a5 (nn - c) c5 (q.drop c) (by rw [List.length_drop];omega) (by omega) (fun x hx=>hq x (List.mem_of_mem_drop hx)) t ht1 (fun e=>h0 (by have:=List.drop_eq_nil_iff.1 e;omega)) u (row5.below hu) (ht.kept hu)
 obtain ⟨VT,hVT⟩:∃ VT,VT=nv t:=⟨_,rfl⟩
 simp only [←hVT] at cw ⊢
 have hcn:(c:Int)≤(nn:Int):=by omega
 have hck:(c:Int)≤(kn:Int):=by omega
 have hkk:(kn:Int)≤1000000000:=by omega
 have Cw:=Qhd cw
 have Hnb:=Qhd hnb
 have Hvb:=Qhd hvb
 have hpart:partQ c q (clN t) p v=Q0o (q.take c) (.mk 3 [] v (withQ (q.drop c) (clN t)).2):=by unfold partQ;rw [if_pos (by omega),if_pos (by omega)]
 have Hpart:=Qhd hpart
 have Hnl:=Qhd hnl
 subst hcp
 clear hpart hnl cw hVT hc hq hp ht1 h0 hnb hkb hvb ht row5 hkl hvl
 go_enter Tryz.func157,Tryz.ntmps157
 go_wp2_with (first
  |(go_at_call 168;(with_reducible refine (Cw.out _ (Below.refl _ _)).mono ?_);rintro e w2 ⟨ks,a,n,d,rfl,bw2,hks,hv2,hk2,hcl2⟩;have hFl:=fk_len ks (.slice a n d) hks;have hF1:=fk_one ks a n d;have Hcl2:=Qhd hcl2;have Hks:=Qhd hks;obtain ⟨FC,hFC⟩:∃ FC,FC=nvL ks++[Value.slice a n d]:=⟨_,rfl⟩;rw [←hFC] at hFl hF1;rw [←hFC];have HFC:=Qhd hFC;clear hFC hcl2 hks)
  |((with_reducible refine Qgs 17 ?_);refine Qsa 189 11 17 w2.heap.size FC Q1e (Blk.new w2 189 zFork) hFl (by rfl) hF1 (Qba w2 _) (Nat.le_refl _) ?_;intro w3 h3 b3 _;obtain ⟨x16,hx16⟩:=h3.has 16 (by rw [hFl];omega);have hf16:=h3.free 16;have bw3:=Below.then bw2 b3))
 have hFD:FC.set 16 (.slice va vn vc)=nvL ks++[Value.slice va vn vc]:=by rw [HFC.out];exact Qi0 ks Hks.out _ _
 have gc:w3.grownBy (w3.setCell ⟨w2.heap.size,16,none⟩ (.slice va vn vc)) (some w2.heap.size):=Q0r 16 _
 have hs:=h3.set 16 (.slice va vn vc)
 have by0:Below w.heap.size w (w3.setCell ⟨w2.heap.size,16,none⟩ (.slice va vn vc)):=bw3.grown gc bw3.size (fun k hk=>by cases hk;exact bw2.size)
 have hno:∀ x∈FC,∀ k,x≠.int .u8 k:=by rw [HFC.out];exact fk_no8 ks a n d
 have HKI:Hid (∀ k∈ks,IsNv (w3.setCell ⟨w2.heap.size,16,none⟩ (.slice va vn vc)) k):=Qhd (fun k hk=>((hk2 k hk).kept b3).off h3 hno gc)
 have HVV:Hid (Bytes (w3.setCell ⟨w2.heap.size,16,none⟩ (.slice va vn vc)) (.slice va vn vc) v):=Qhd (Hvb.out.below by0)
 obtain ⟨y,hy⟩:∃ y,y=w3.setCell ⟨w2.heap.size,16,none⟩ (.slice va vn vc):=⟨_,rfl⟩
 rw [←hy] at hs by0 HKI HVV
 have HY:=Qhd hy
 obtain ⟨FD,hFD2⟩:∃ FD,FD=FC.set 16 (.slice va vn vc):=⟨_,rfl⟩
 rw [←hFD2] at hs hFD
 have HFD:=Qhd hFD
 have HK2:=Hks
 have HT:Hid (Q0o (q.take kn) (.mk 3 [] v (clNL ks))=partQ kn q (clN t) p v):=Qhd (by rw [Hpart.out,Hcl2.out])
 clear hFD hFD2 hy gc hno hx16 hf16 h3 hF1 hFl
 have hF2l:FD.length=17:=by rw [HFD.out];exact fk_len _ _ HK2.out
 have r1:=hs.all0
 obtain ⟨a7,c7,r7,cb⟩:=Qcw na nn nc q kn Hnl.out hn1 (by omega) y (Hnb.out.below by0) ks HK2.out va vn vc v HVV.out HKI.out
 rw [←HFD.out] at cb
 have Cb:=Qhd cb
 clear cb
 rw [show w3.setCell ⟨w2.heap.size,16,none⟩ (.slice va vn vc)=y from HY.out.symm]
 refine Q02 y 6 (by kernel_rfl) (by kernel_rfl) (Below.refl _ _) ?_;simp only [List.take_succ_cons,List.take_zero,List.take_nil]
 iterate 3 (refine Q01 (by rfl) (fun K hK=>?_);go_simp;first|(refine hK _ ?_;clear hK K)|(apply Exists.intro;refine ⟨fun _=>?_,hK _ ?_⟩;exact r7 _ _;clear hK K))
 (refine Q01 (by rfl) (fun K hK=>?_);rw [if_pos (by rfl)];refine ⟨_,fun u=>Q08 _ (.tmp 11) (by rfl) _ _ (by rfl) Q1e hF2l (rangeAt.ext r1 u),hK _ ?_⟩;clear hK K;simp only [Act.put,Qzs])
 (refine Q01 (by rfl) (fun K hK=>?_);go_simp;refine hK _ ?_;clear hK K)
 refine Q07 42 (NvT (partQ kn q (clN t) p v)) rfl (of_decide_eq_true rfl) (NvT.mono _) (fun w6 hw6=>?_) ?_
 ·simp only [relOf,List.filter_nil,Q00]
  refine ⟨rfl,?_⟩
  go_simp
  refine (Cb.out w6 hw6).mono ?_
  rintro e w7 ⟨t7,rfl,b7,i7,c7'⟩
  exact ⟨_,rfl,⟨t7,rfl,i7,c7'.trans HT.out⟩,b7⟩
 refine Q09 ?_
 intro u5 hu5 v42 h42
 change wpList _ _ _ [_] _ _
 simp only [Act.put,Qzs]
 obtain ⟨t7,rfl,i7,c7'⟩:=h42
 obtain ⟨V7,hV7⟩:∃ V,V=nv t7:=⟨_,rfl⟩
 rw [←hV7]
 have HV7:=Qhd hV7
 clear hV7
 go_wp2_with fail
 go_ret
 exact ⟨t7,by rw [←HV7.out];rfl,Below.then by0 hu5,i7,c7'⟩
theorem Qgk (na ka va:Option Addr)(nn nc kn kc vn vc:Nat)(q p v:List UInt8)(t:Nd)(c:Nat)(hnl:q.length=nn)(hkl:p.length=kn)(hvl:v.length=vn)(hn1:nn≤1000000000)(hk1:kn≤1000000000)(hc:c=com q p)(hq:nibs q)(hp:nibs p)(ht1:t.path.length≤1000000000)(h0:c=nn→t.kd=1)(hcp:c<kn)(w:World)(hnb:Bytes w (.slice na nn nc) q)(hkb:Bytes w (.slice ka kn kc) p)(hvb:Bytes w (.slice va vn vc) v)(ht:IsNv w t) :
  Calls Tryz.prog 157 #[.int .i64 (c:Int),.slice na nn nc,nv t,.slice ka kn kc,.slice va vn vc] w (NvPost (partQ c q (clN t) p v) w):=by
 have hcl:=com_le q p
 rw [←hc] at hcl
 obtain ⟨a5,c5,r5,row5⟩:=RowOf.from elU8 hnb c (by omega) (c:Int) rfl
 have cw:=fun (u:World) (hu:Below w.heap.size w u)=>Qc6 a5 (nn - c) c5 (q.drop c) (by rw [List.length_drop];omega) (by omega) (fun x hx=>hq x (List.mem_of_mem_drop hx)) t ht1 (fun e=>h0 (by have:=List.drop_eq_nil_iff.1 e;omega)) u (row5.below hu) (ht.kept hu)
 obtain ⟨VT,hVT⟩:∃ VT,VT=nv t:=⟨_,rfl⟩
 simp only [←hVT] at cw ⊢
 have hcn:(c:Int)≤(nn:Int):=by omega
 have hck:(c:Int)≤(kn:Int):=by omega
 have hkk:(kn:Int)≤1000000000:=by omega
 have Cw:=Qhd cw
 have Hnb:=Qhd hnb
 have Hvb:=Qhd hvb
 have hpcl:c<p.length:=by omega
 obtain ⟨x,hx⟩:∃ x,x=p[c]:=⟨_,rfl⟩
 have hx16:x.toNat<16:=by rw [hx];exact hp _ (List.getElem_mem _)
 have hpart:partQ c q (clN t) p v=Q0o (q.take c) (.mk 3 [] (withQ (q.drop c) (clN t)).1 ((withQ (q.drop c) (clN t)).2.set x.toNat (.mk 1 (p.drop (c+1)) v []))):=by unfold partQ;rw [if_neg (by omega),if_neg (by omega),List.getElem?_eq_getElem hpcl,Option.getD_some,←hx]
 obtain ⟨a6,c6,r6,row6⟩:=RowOf.from elU8 hkb (c+1) (by omega) ((c:Int)+1) (by omega)
 obtain ⟨kb,ko,rfl,hkc⟩:=Bytes.at hkb c hpcl
 rw [←hx] at hkc
 have hwc:IntKind.i64.wrap ((c:Int)+1)=(c:Int)+1:=by rw [IntWalk.i64_in _ (by omega)]
 have hzk:((kn:Int)==(c:Int))=false:=beq_eq_false_iff_ne.2 (by omega)
 have hclt:(c:Int)<(kn:Int):=by omega
 have hxi:(x.toNat:Int)<16:=by omega
 have Hpart:=Qhd hpart
 have Hnl:=Qhd hnl
 have HR6:=Qhd row6
 have Hx16:=Qhd hx16
 clear hpart hnl cw hVT hc hq hp ht1 h0 hnb hkb hvb ht row5 hkl hvl row6 hpcl hx hcp hx16
 go_enter Tryz.func157,Tryz.ntmps157
 go_wp2_with (first
  |(go_at_call 168;(with_reducible refine (Cw.out _ (Below.refl _ _)).mono ?_);rintro e w2 ⟨ks,a,n,d,rfl,bw2,hks,hv2,hk2,hcl2⟩;have hFl:=fk_len ks (.slice a n d) hks;have hF1:=fk_one ks a n d;have Hcl2:=Qhd hcl2;have Hks:=Qhd hks;obtain ⟨FC,hFC⟩:∃ FC,FC=nvL ks++[Value.slice a n d]:=⟨_,rfl⟩;rw [←hFC] at hFl hF1;rw [←hFC];have HFC:=Qhd hFC;clear hFC hcl2 hks)
  |((with_reducible refine Qgs 17 ?_);refine Qsa 189 11 17 w2.heap.size FC Q1e (Blk.new w2 189 zFork) hFl (by rfl) hF1 (Qba w2 _) (Nat.le_refl _) ?_;intro w3 h3 b3 _;obtain ⟨x16,hx16⟩:=h3.has 16 (by rw [hFl];omega);have hf16:=h3.free 16;have bw3:=Below.then bw2 b3))
 have k1:=fun u:Ext w3=>u.cell (show w3.cell? ⟨kb,ko+c,none⟩=some (.int .u8 (x.toNat:Int)) from by rw [bw3.cell (World.block_lt_of_cell? w _ hkc)];exact hkc)
 refine Q02 w3 13 (by kernel_rfl) (by kernel_rfl) (Below.refl _ _) ?_;simp only [List.take_succ_cons,List.take_zero,List.take_nil]
 iterate 13 (refine Q01 (by rfl) (fun K hK=>?_);go_simp;first|(refine hK _ ?_;clear hK K)|(apply Exists.intro;refine ⟨fun _=>?_,hK _ ?_⟩;exact r6 _ _;clear hK K))
 refine Q09 ?_
 intro y2 hy2
 change wpList _ _ _ [_] _ _
 try simp only [Act.put,Qzs]
 have hy3:=h3.kept hy2
 obtain ⟨xx,hxx⟩:=hy3.has x.toNat (by rw [hFl];have:=Hx16.out;omega)
 have hfx:=hy3.free x.toNat
 go_wp2_with fail
 have by2:=Below.then bw3 hy2
 have hFD:FC.set x.toNat (.iface 182 (.agg #[.slice a6 (kn - (c+1)) c6,.slice va vn vc]))=nvL (ks.set x.toNat (.mk 1 (.slice a6 (kn - (c+1)) c6) (p.drop (c+1)) (.slice va vn vc) v (.slice none 0 0) []))++[Value.slice a n d]:=by rw [HFC.out];exact fk_set ks Hks.out x.toNat Hx16.out (.mk 1 (.slice a6 (kn - (c+1)) c6) (p.drop (c+1)) (.slice va vn vc) v (.slice none 0 0) []) _
 have gc:y2.grownBy (y2.setCell ⟨w2.heap.size,x.toNat,none⟩ (.iface 182 (.agg #[.slice a6 (kn - (c+1)) c6,.slice va vn vc]))) (some w2.heap.size):=Q0r x.toNat _
 have hs:=hy3.set x.toNat (.iface 182 (.agg #[.slice a6 (kn - (c+1)) c6,.slice va vn vc]))
 have by0:Below w.heap.size w (y2.setCell ⟨w2.heap.size,x.toNat,none⟩ (.iface 182 (.agg #[.slice a6 (kn - (c+1)) c6,.slice va vn vc]))):=by2.grown gc by2.size (fun k hk=>by cases hk;exact bw2.size)
 have hno:∀ x∈FC,∀ k,x≠.int .u8 k:=by rw [HFC.out];exact fk_no8 ks a n d
 have HKI:Hid (∀ k∈ks.set x.toNat (.mk 1 (.slice a6 (kn - (c+1)) c6) (p.drop (c+1)) (.slice va vn vc) v (.slice none 0 0) []),IsNv (y2.setCell ⟨w2.heap.size,x.toNat,none⟩ (.iface 182 (.agg #[.slice a6 (kn - (c+1)) c6,.slice va vn vc]))) k):=Qhd (fun k hk=>by
  rcases List.mem_or_eq_of_mem_set hk with hk|rfl
  ·exact (((hk2 k hk).kept b3).kept hy2).off hy3 hno gc
  ·exact .leaf _ _ _ _ _ _ (HR6.out.below by0) (Hvb.out.below by0))
 have HVV:Hid (Bytes (y2.setCell ⟨w2.heap.size,x.toNat,none⟩ (.iface 182 (.agg #[.slice a6 (kn - (c+1)) c6,.slice va vn vc]))) (.slice a n d) (withQ (q.drop c) (clN t)).1):=Qhd (Bytes.off_v ((hv2.below b3).below hy2) hy3 hno gc)
 obtain ⟨y,hy⟩:∃ y,y=y2.setCell ⟨w2.heap.size,x.toNat,none⟩ (.iface 182 (.agg #[.slice a6 (kn - (c+1)) c6,.slice va vn vc])):=⟨_,rfl⟩
 rw [←hy] at hs by0 HKI HVV
 have HY:=Qhd hy
 obtain ⟨FD,hFD2⟩:∃ FD,FD=FC.set x.toNat (.iface 182 (.agg #[.slice a6 (kn - (c+1)) c6,.slice va vn vc])):=⟨_,rfl⟩
 rw [←hFD2] at hs hFD
 have HFD:=Qhd hFD
 have HK2:Hid ((ks.set x.toNat (.mk 1 (.slice a6 (kn - (c+1)) c6) (p.drop (c+1)) (.slice va vn vc) v (.slice none 0 0) [])).length=16):=Qhd (by rw [List.length_set];exact Hks.out)
 have HT:Hid (Q0o (q.take c) (.mk 3 [] (withQ (q.drop c) (clN t)).1 (clNL (ks.set x.toNat (.mk 1 (.slice a6 (kn - (c+1)) c6) (p.drop (c+1)) (.slice va vn vc) v (.slice none 0 0) []))))=partQ c q (clN t) p v):=Qhd (by rw [Hpart.out,Q91,Hcl2.out];rfl)
 clear hFD hFD2 hy gc hno hxx hfx hy3 hf16 hx16 h3 hF1 hFl k1
 have hF2l:FD.length=17:=by rw [HFD.out];exact fk_len _ _ HK2.out
 have r1:=hs.all0
 obtain ⟨a7,c7,r7,cb⟩:=Qcw na nn nc q c Hnl.out hn1 (by omega) y (Hnb.out.below by0) (ks.set x.toNat (.mk 1 (.slice a6 (kn - (c+1)) c6) (p.drop (c+1)) (.slice va vn vc) v (.slice none 0 0) [])) HK2.out a n d (withQ (q.drop c) (clN t)).1 HVV.out HKI.out
 rw [←HFD.out] at cb
 have Cb:=Qhd cb
 clear cb
 rw [show y2.setCell ⟨w2.heap.size,x.toNat,none⟩ (.iface 182 (.agg #[.slice a6 (kn - (c+1)) c6,.slice va vn vc]))=y from HY.out.symm]
 refine Q02 y 6 (by kernel_rfl) (by kernel_rfl) (Below.refl _ _) ?_;simp only [List.take_succ_cons,List.take_zero,List.take_nil]
 iterate 3 (refine Q01 (by rfl) (fun K hK=>?_);go_simp;first|(refine hK _ ?_;clear hK K)|(apply Exists.intro;refine ⟨fun _=>?_,hK _ ?_⟩;exact r7 _ _;clear hK K))
 (refine Q01 (by rfl) (fun K hK=>?_);rw [if_pos (by rfl)];refine ⟨_,fun u=>Q08 _ (.tmp 11) (by rfl) _ _ (by rfl) Q1e hF2l (rangeAt.ext r1 u),hK _ ?_⟩;clear hK K;simp only [Act.put,Qzs])
 (refine Q01 (by rfl) (fun K hK=>?_);go_simp;refine hK _ ?_;clear hK K)
 refine Q07 42 (NvT (partQ c q (clN t) p v)) rfl (of_decide_eq_true rfl) (NvT.mono _) (fun w6 hw6=>?_) ?_
 ·simp only [relOf,List.filter_nil,Q00]
  refine ⟨rfl,?_⟩
  go_simp
  refine (Cb.out w6 hw6).mono ?_
  rintro e w7 ⟨t7,rfl,b7,i7,c7'⟩
  exact ⟨_,rfl,⟨t7,rfl,i7,c7'.trans HT.out⟩,b7⟩
 refine Q09 ?_
 intro u5 hu5 v42 h42
 change wpList _ _ _ [_] _ _
 simp only [Act.put,Qzs]
 obtain ⟨t7,rfl,i7,c7'⟩:=h42
 obtain ⟨V7,hV7⟩:∃ V,V=nv t7:=⟨_,rfl⟩
 rw [←hV7]
 have HV7:=Qhd hV7
 clear hV7
 go_wp2_with fail
 go_ret
 exact ⟨t7,by rw [←HV7.out];rfl,Below.then by0 hu5,i7,c7'⟩
theorem Qcx (na ka va:Option Addr)(nn nc kn kc vn vc:Nat)(q p v:List UInt8)(t:Nd)(c:Nat)(hnl:q.length=nn)(hkl:p.length=kn)(hvl:v.length=vn)(hn1:nn≤1000000000)(hk1:kn≤1000000000)(hc:c=com q p)(hq:nibs q)(hp:nibs p)(ht1:t.path.length≤1000000000)(h0:c=nn→t.kd=1)(hcp:c<nn∨c<kn)(w:World)(hnb:Bytes w (.slice na nn nc) q)(hkb:Bytes w (.slice ka kn kc) p)(hvb:Bytes w (.slice va vn vc) v)(ht:IsNv w t) :
  Calls Tryz.prog 157 #[.int .i64 (c:Int),.slice na nn nc,nv t,.slice ka kn kc,.slice va vn vc] w (NvPost (partQ c q (clN t) p v) w):=by
 have hcl:=com_le q p
 by_cases h:c<kn
 ·exact Qgk na ka va nn nc kn kc vn vc q p v t c hnl hkl hvl hn1 hk1 hc hq hp ht1 h0 h w hnb hkb hvb ht
 ·exact Qgj na ka va nn nc kn kc vn vc q p v t c hnl hkl hvl hn1 hk1 hc hq hp ht1 h0 (by omega) w hnb hkb hvb ht
theorem as0_3 (W:World):(Instr.typeAssert .nilIface 143 189 true).run Tryz.prog W=.ok (.tuple #[.agg (List.replicate 16 Value.nilIface++[Value.slice none 0 0]).toArray,.bool false]) W:=by kernel_rfl
theorem Q2a {l:List Rt}{T:Pn}(h:Grows l T)(B:Nat)(hB:∀ r∈l,r.1.length≤B):T.pth.length≤B:=by
 cases h with
 | none=>exact Nat.zero_le _
 | leaf p v hv hp=>exact hB (p,v) (List.mem_singleton.2 rfl)
 | road p l k hp hn h hk =>
  obtain ⟨r,hr⟩:=List.exists_mem_of_ne_nil l (h.ne (by omega))
  have:=hB _ (Q2x (p:=p) hr)
  simp only [List.length_append] at this
  show p.length≤B
  omega
 | fork v ls ks hl hk h hm=>exact Nat.zero_le _
theorem Qgb (ka va:Option Addr)(kn kc vn vc:Nat)(p v:List UInt8)(hvl:v.length=vn)(w:World)(hkb:Bytes w (.slice ka kn kc) p)(hvb:Bytes w (.slice va vn vc) v) :
  Calls Tryz.prog 105 #[.nilIface,.slice ka kn kc,.slice va vn vc] w (NvPost (putQ nP p v) w):=by
 have z1:=as0_1
 have z2:=as0_2
 have z3:=as0_3
 have hput:putQ nP p v=if v=[] then nP else .mk 1 p v []:=by simp [putQ,nP]
 by_cases hv:v=[]
 ·subst hv
  simp only [List.length_nil] at hvl
  subst hvl
  rw [hput,if_pos rfl]
  go_enter Tryz.func105,Tryz.ntmps105
  go_wp2_with fail
  go_ret
  exact ⟨nilN,rfl,Below.refl _ _,IsNv.nil _,rfl⟩
 ·rw [hput,if_neg hv]
  have hz:((vn:Int)==0)=false:=by
   rw [beq_eq_false_iff_ne]
   have:0<v.length:=List.length_pos_iff.2 hv
   omega
  clear hput hv hvl
  go_enter Tryz.func105,Tryz.ntmps105
  go_wp2_with fail
  go_ret
  exact ⟨.mk 1 (.slice ka kn kc) p (.slice va vn vc) v (.slice none 0 0) [],rfl,Below.refl _ _,.leaf _ _ _ _ _ _ hkb hvb,rfl⟩
theorem Qc2:Agg Tryz.prog 182 2:=⟨_,Tryz.underlying182,rfl,by kernel_rfl⟩
theorem Qb7 (na ua ka va:Option Addr)(nn nc un uc kn kc vn vc:Nat)(q u p v:List UInt8)(hnl:q.length=nn)(hkl:p.length=kn)(hvl:v.length=vn)(hn1:nn≤1000000000)(hk1:kn≤1000000000)(hq:nibs q)(hp:nibs p)(w:World)(hnb:Bytes w (.slice na nn nc) q)(hub:Bytes w (.slice ua un uc) u)(hkb:Bytes w (.slice ka kn kc) p)(hvb:Bytes w (.slice va vn vc) v) :
  Calls Tryz.prog 131 #[.agg #[.slice na nn nc,.slice ua un uc],.slice ka kn kc,.slice va vn vc] w (NvPost (putQ (.mk 1 q u []) p v) w):=by
 have hput:putQ (.mk 1 q u []) p v=if com q p=kn∧com q p=nn then (if v=[] then nP else .mk 1 p v []) else if v=[] then .mk 1 q u [] else partQ (com q p) q (.mk 1 [] u []) p v:=by simp only [putQ,if_true,hnl,hkl]
 have hcl:=com_le q p
 obtain ⟨w1,hw1⟩:∃ w1,w1=w.alloc (.cells #[.slice na nn nc,.slice ua un uc] 182):=⟨_,rfl⟩
 have hz:Blk 182 w1 w.heap.size [.slice na nn nc,.slice ua un uc]:=by rw [hw1];exact Blk.new w _ _
 have hbel:Below w.heap.size w w1:=by rw [hw1];exact Qba _ _
 have cc:=fun x (hx:Below w.heap.size w x)=>Q4z na ka nc kc q p x (by rw [hnl];exact hnb.below hx) (by rw [hkl];exact hkb.below hx)
 rw [hnl,hkl] at cc
 have cp:=fun (x:World) (hx:Below w.heap.size w x) (hcp:com q p<nn∨com q p<kn)=>Qcx na ka va nn nc kn kc vn vc q p v (.mk 1 (.slice none 0 0) [] (.slice ua un uc) u (.slice none 0 0) []) (com q p) hnl hkl hvl hn1 hk1 rfl hq hp (show ([]:List UInt8).length≤1000000000 from by simp) (fun _=>rfl) hcp x (hnb.below hx) (hkb.below hx) (hvb.below hx) (.leaf _ _ _ _ _ _ (RowOf.nil b8 1 _) (hub.below hx))
 have cn:=fun (x:World) (hx:Below w.heap.size w x)=>Qgb ka va kn kc vn vc p v hvl x (hkb.below hx) (hvb.below hx)
 have Cn:=Qhd cn
 have Cp:=Qhd cp
 have Cc:=Qhd cc
 have Hput:=Qhd hput
 have Hnb:=Qhd hnb
 have Hub:=Qhd hub
 obtain ⟨C,hC⟩:∃ C,C=com q p:=⟨_,rfl⟩
 have m0:=(hz.cell 0).trans (show _=some (Value.slice na nn nc) from rfl)
 rw [hw1] at m0
 have Hw1:=Qhd hw1
 have HC:=Qhd hC
 rw [←hC] at hcl
 rw [hnl,hkl] at hcl
 simp only [←hC] at Cc Cp Hput
 clear hw1 cc cp cn hput hC hnb hub hkb hvb hnl hkl hq hp
 have z1:=as0_1
 by_cases h1:C=kn∧C=nn
 ·obtain ⟨e1,e2⟩:=h1
  have hR:putQ (.mk 1 q u []) p v=putQ nP p v:=by rw [Hput.out,if_pos ⟨e1,e2⟩];simp [putQ,nP]
  rw [hR]
  have hz1:((C:Int)==(kn:Int))=true:=beq_iff_eq.2 (by omega)
  have hz2:((C:Int)==(nn:Int))=true:=beq_iff_eq.2 (by omega)
  clear hR e1 e2
  go_enter Tryz.func131,Tryz.ntmps131
  go_wp2_with (first
   |(go_at_call 91;(with_reducible refine (Cc.out _ (by rw [←Hw1.out];exact hbel)).mono ?_);rintro e w2 ⟨rfl,mm,rfl⟩;rw [←Hw1.out];have b2:Below w.heap.size w (w1.drewN mm):=Q11 hbel mm;have m1:=((hz.kept (Q11 (Below.refl _ _) mm)).cell 0).trans (show _=some (Value.slice na nn nc) from rfl))
   |(go_at_call 105;(with_reducible refine (Cn.out _ b2).mono ?_);rintro e w3 ⟨t,rfl,b3,it,ct⟩;obtain ⟨VT,hVT⟩:∃ x,x=nv t:=⟨_,rfl⟩;rw [←hVT];have HVT:=Qhd hVT;clear hVT))
  go_ret
  exact ⟨t,by rw [←HVT.out];rfl,Below.then b2 b3,it,ct⟩
 ·have hcp:C<nn∨C<kn:=by omega
  by_cases hv:v=[]
  ·subst hv
   simp only [List.length_nil] at hvl
   subst hvl
   have hR:putQ (.mk 1 q u []) p []=.mk 1 q u []:=by rw [Hput.out,if_neg h1,if_pos rfl]
   rw [hR]
   have hzz:¬ (((C:Int)==(kn:Int))=true∧((C:Int)==(nn:Int))=true):=by rw [beq_iff_eq,beq_iff_eq];omega
   clear hR
   have hfin:∀ y:World,Below w.heap.size w y→NvPost (.mk 1 q u []) w (.returned (.iface 182 (.agg #[.slice na nn nc,.slice ua un uc]))) y:=fun y hy=>⟨.mk 1 (.slice na nn nc) q (.slice ua un uc) u (.slice none 0 0) [],rfl,hy,.leaf _ _ _ _ _ _ (Hnb.out.below hy) (Hub.out.below hy),rfl⟩
   have Hfin:=Qhd hfin
   clear hfin
   rcases (by omega:¬ C=kn∨(C=kn∧¬ C=nn)) with h2|⟨h2,h3⟩
   ·have hz1:((C:Int)==(kn:Int))=false:=beq_eq_false_iff_ne.2 (by omega)
    clear h1 h2 hcp hzz
    go_enter Tryz.func131,Tryz.ntmps131
    go_wp2_with (first
     |(go_at_call 91;(with_reducible refine (Cc.out _ (by rw [←Hw1.out];exact hbel)).mono ?_);rintro e w2 ⟨rfl,mm,rfl⟩;rw [←Hw1.out];have b2:Below w.heap.size w (w1.drewN mm):=Q11 hbel mm;have zz:=hz.kept (Q11 (Below.refl _ _) mm);have m1:=(zz.cell 0).trans (show _=some (Value.slice na nn nc) from rfl);have rr:=zz.all0)
     |((with_reducible refine Qgl 31 ?_);refine Qla 182 3 w.heap.size Qc2 zz (by rfl) ?_))
    go_ret
    exact Hfin.out _ b2
   ·have hz1:((C:Int)==(kn:Int))=true:=beq_iff_eq.2 (by omega)
    have hz2:((C:Int)==(nn:Int))=false:=beq_eq_false_iff_ne.2 (by omega)
    clear h1 h2 h3 hcp hzz
    go_enter Tryz.func131,Tryz.ntmps131
    go_wp2_with (first
     |(go_at_call 91;(with_reducible refine (Cc.out _ (by rw [←Hw1.out];exact hbel)).mono ?_);rintro e w2 ⟨rfl,mm,rfl⟩;rw [←Hw1.out];have b2:Below w.heap.size w (w1.drewN mm):=Q11 hbel mm;have zz:=hz.kept (Q11 (Below.refl _ _) mm);have m1:=(zz.cell 0).trans (show _=some (Value.slice na nn nc) from rfl);have rr:=zz.all0)
     |((with_reducible refine Qgl 31 ?_);refine Qla 182 3 w.heap.size Qc2 zz (by rfl) ?_))
    go_ret
    exact Hfin.out _ b2
  ·have hR:putQ (.mk 1 q u []) p v=partQ C q (.mk 1 [] u []) p v:=by rw [Hput.out,if_neg h1,if_neg hv]
   rw [hR]
   have hvz:((vn:Int)==0)=false:=by
    rw [beq_eq_false_iff_ne]
    have:0<v.length:=List.length_pos_iff.2 hv
    omega
   have CP:Hid (∀ x,Below w.heap.size w x→Calls Tryz.prog 157 #[.int .i64 (C:Int),.slice na nn nc,.iface 182 (.agg #[.slice none 0 0,.slice ua un uc]),.slice ka kn kc,.slice va vn vc] x (NvPost (partQ C q (.mk 1 [] u []) p v) x)):=Qhd (fun x hx=>Cp.out x hx hcp)
   clear hR hv
   rcases (by omega:¬ C=kn∨(C=kn∧¬ C=nn)) with h2|⟨h2,h3⟩
   ·have hz1:((C:Int)==(kn:Int))=false:=beq_eq_false_iff_ne.2 (by omega)
    clear h1 h2 hcp
    go_enter Tryz.func131,Tryz.ntmps131
    go_wp2_with (first
     |(go_at_call 91;(with_reducible refine (Cc.out _ (by rw [←Hw1.out];exact hbel)).mono ?_);rintro e w2 ⟨rfl,mm,rfl⟩;rw [←Hw1.out];have b2:Below w.heap.size w (w1.drewN mm):=Q11 hbel mm;have zz:=hz.kept (Q11 (Below.refl _ _) mm);have m1:=(zz.cell 0).trans (show _=some (Value.slice na nn nc) from rfl);have m2:=(zz.cell 1).trans (show _=some (Value.slice ua un uc) from rfl))
     |(go_at_call 157;(with_reducible refine (CP.out _ b2).mono ?_);rintro e w3 ⟨t,rfl,b3,it,ct⟩;obtain ⟨VT,hVT⟩:∃ x,x=nv t:=⟨_,rfl⟩;rw [←hVT];have HVT:=Qhd hVT;clear hVT))
    go_ret
    exact ⟨t,by rw [←HVT.out];rfl,Below.then b2 b3,it,ct⟩
   ·have hz1:((C:Int)==(kn:Int))=true:=beq_iff_eq.2 (by omega)
    have hz2:((C:Int)==(nn:Int))=false:=beq_eq_false_iff_ne.2 (by omega)
    clear h1 h2 h3 hcp
    go_enter Tryz.func131,Tryz.ntmps131
    go_wp2_with (first
     |(go_at_call 91;(with_reducible refine (Cc.out _ (by rw [←Hw1.out];exact hbel)).mono ?_);rintro e w2 ⟨rfl,mm,rfl⟩;rw [←Hw1.out];have b2:Below w.heap.size w (w1.drewN mm):=Q11 hbel mm;have zz:=hz.kept (Q11 (Below.refl _ _) mm);have m1:=(zz.cell 0).trans (show _=some (Value.slice na nn nc) from rfl);have m2:=(zz.cell 1).trans (show _=some (Value.slice ua un uc) from rfl))
     |(go_at_call 157;(with_reducible refine (CP.out _ b2).mono ?_);rintro e w3 ⟨t,rfl,b3,it,ct⟩;obtain ⟨VT,hVT⟩:∃ x,x=nv t:=⟨_,rfl⟩;rw [←hVT];have HVT:=Qhd hVT;clear hVT))
    go_ret
    exact ⟨t,by rw [←HVT.out];rfl,Below.then b2 b3,it,ct⟩
end Go.Proofs.YtbdmkfjgnjfjbaaGreat
