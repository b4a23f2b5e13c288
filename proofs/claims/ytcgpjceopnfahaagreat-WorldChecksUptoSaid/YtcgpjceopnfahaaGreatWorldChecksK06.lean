/- Nodes of a call's own; sixteen of them in a row; contracts' parts for grown. | The reference's grown: nothing, one route, a road. | The reference's grown: a roa -/
import Derived.Test.YtcgpjceopnfahaaGreatWorldChecksK04
import Derived.Test.YtcgpjceopnfahaaGreatWorldChecksK02
import Derived.Test.YtcgpjceopnfahaaGreatWorldChecksK05
import Derived.Lib.Bytealg
import Derived.Sort.Statements
import Derived.Test.YtcgpjceopnfahaaGreatWorldChecksK03
set_option linter.unusedSimpArgs false
set_option linter.unusedVariables false
set_option maxHeartbeats 4000000
set_option maxRecDepth 100000
namespace Go.Proofs.YtcgpjceopnfahaaGreat
open Go.RowKit
def TxO (B:Nat)(t:List UInt8):Ty:=fun v w=>Bytes w v t∧∀ k,v.ownBlock=some k→B≤k
theorem RowOf.offV {α:Type}{f:α→List Value}{size:Nat}{w w':World}{v:Value}{g:Nat}{l:List α}(h:RowOf f size w v l)(hg:w.grownBy w' (some g))(hne:∀ x,v.ownBlock=some x→x≠g):RowOf f size w' v l:=by
 obtain ⟨a,c,rfl,_⟩:=h.form
 cases a with
 | none =>
  obtain ⟨h0,a,c',hv,h1,h2,h3⟩:=h
  simp only [Value.slice.injEq] at hv
  obtain ⟨rfl,_,rfl⟩:=hv
  refine ⟨h0,none,_,rfl,h1,h2,.inl ?_⟩
  rcases h3 with h3|⟨_,_,_,he,_⟩
  ·exact h3
  ·simp at he
 | some p =>
  obtain ⟨b,off,s⟩:=p
  exact h.grownNe hg (hne b rfl)
inductive OwnNd (w:World)(B:Nat):Nd→Prop where
 | mk (kd:Int) (pv:Value) (p:List UInt8) (vv:Value) (v:List UInt8) (kv:Value) (ks:List Nd) (hp:Bytes w pv p) (op:∀ k,pv.ownBlock=some k→B≤k) (hv:Bytes w vv v) (ov:∀ k,vv.ownBlock=some k→B≤k)
   (hk:RowOf ndcells 4 w kv ks) (ok:∀ k,kv.ownBlock=some k→B≤k) (h:∀ k∈ks,OwnNd w B k):OwnNd w B (.mk kd pv p vv v kv ks)
theorem OwnNd.is {w:World}{B:Nat}{x:Nd}(h:OwnNd w B x):IsNd w x:=by
 induction h with
 | mk kd pv p vv v kv ks hp _ hv _ hk _ _ ih=>exact .mk kd pv p vv v kv ks hp hv hk ih
def zN:Nd:=.mk 0 (.slice none 0 0) [] (.slice none 0 0) [] (.slice none 0 0) []
theorem OwnNd.zero (w:World)(B:Nat):OwnNd w B zN:=.mk 0 _ [] _ [] _ [] (RowOf.nil b8 1 w) (by intro k e;cases e) (RowOf.nil b8 1 w) (by intro k e;cases e) (RowOf.nil ndcells 4 w) (by intro k e;cases e) (by simp)
mutual
def erN:Nd→Pn
 | .mk kd _ p _ v _ ks=>.mk kd p v (erNL ks)
def erNL:List Nd→List Pn
 | []=>[]
 | k::ks=>erN k::erNL ks
end
theorem erNL_map (ks:List Nd):erNL ks=ks.map erN:=by
 induction ks with
 | nil=>rfl
 | cons k ks ih=>simp [erNL,ih]
def GrwPost (x:Pn)(w:World)(e:Ending)(w':World):Prop:=∃ t:Nd,e=.returned (.agg (ndcells t).toArray)∧OwnNd w' w.heap.size t∧erN t=x∧Below w.heap.size w w'
theorem zcells:ndcells zN=[.int .i64 0,.slice none 0 0,.slice none 0 0,.slice none 0 0]:=rfl
def nilV:Value:=.slice none 0 0
def fcells (vv:Value)(R:Nat):List Value:=[.int .i64 3,.slice none 0 0,vv,.slice (some ⟨R,0,none⟩) 16 16]
structure FkN (w:World)(R F:Nat)(vv:Value)(v:List UInt8)(kids:List Nd)(u:World):Prop where
 hb:Below w.heap.size w u
 hz:Blk 70 u w.heap.size (ndcells zN)
 hR:Blk 70 u R (kids.flatMap ndcells)
 hF:Blk 70 u F (fcells vv R)
 hRF:R<F
 hv:TxO (R+1) v vv u
 hk:∀ k∈kids,OwnNd u (R+1) k
 hl:kids.length=16
 hlt:w.heap.size<R
theorem FkN.val {w:World}{R F:Nat}{vv:Value}{v:List UInt8}{u:World}(h:FkN w R F nilV [] (List.replicate 16 zN) u)(hv:TxO (F+1) v vv u):FkN w R F vv v (List.replicate 16 zN) (u.setCell ⟨F,2,none⟩ vv):=by
 have hg:u.grownBy (u.setCell ⟨F,2,none⟩ vv) (some F):=grown_set ⟨rfl,rfl,rfl,Nat.le_refl _,fun _ _ _=>rfl⟩ 2 vv
 have hlt:=h.hlt
 have hRF:=h.hRF
 refine FkN.mk (h.hb.grown hg h.hb.size (fun k e=>by cases e;omega)) (h.hz.grown hg (fun e=>by simp at e;omega)) (h.hR.grown hg (fun e=>by simp at e;omega)) (h.hF.set 2 vv) hRF ⟨hv.1.offV hg (fun k e=>by have:=hv.2 k e;omega),fun k e=>by have:=hv.2 k e;omega⟩ (fun k hk=>by rw [List.eq_of_mem_replicate hk];exact OwnNd.zero _ _) (by simp) hlt
def nP:Pn:=.mk 0 [] [] []
def Pn.kd:Pn→Int
 | .mk kd _ _ _=>kd
def Pn.val:Pn→List UInt8
 | .mk _ _ v _=>v
def nibs (p:List UInt8):Prop:=∀ x∈p,x.toNat<16
def behindQ (p:List UInt8):Pn→Pn
 | .mk kd q u ks=>if p=[] then .mk kd q u ks
  else if kd=1 then .mk 1 (p++q) u []
  else if kd=2 then .mk 2 (p++q) [] ks
  else if kd=3 then .mk 2 p [] [.mk kd q u ks]
  else nP
def cntQ:List Pn→Nat
 | []=>0
 | k::ks=>(if k.kd=0 then 0 else 1)+cntQ ks
def lastQ:List Pn→Nat→Nat→Nat
 | [],_,a=>a
 | k::ks,i,a=>lastQ ks (i+1) (if k.kd=0 then a else i)
def tidyQ (v:List UInt8)(ks:List Pn):Pn :=
 if 2≤min v.length 1+cntQ ks then .mk 3 [] v ks
 else if min v.length 1+cntQ ks=0 then nP
 else if 0<v.length then .mk 1 [] v []
 else behindQ [UInt8.ofNat (lastQ ks 0 0)] (ks[lastQ ks 0 0]?.getD nP)
def withQ (p:List UInt8)(a:Pn):List UInt8 × List Pn:=match p with
 | []=>(if a.kd=1 then a.val else [],List.replicate 16 nP)
 | x::r=>([],(List.replicate 16 nP).set x.toNat (behindQ r a))
def partQ (c:Nat)(q:List UInt8)(a:Pn)(p v:List UInt8):Pn :=
 behindQ (q.take c) (.mk 3 [] (if p.length=c then v else (withQ (q.drop c) a).1) (if p.length=c then (withQ (q.drop c) a).2 else (withQ (q.drop c) a).2.set (p[c]?.getD 0).toNat (.mk 1 (p.drop (c+1)) v [])))
mutual
def putQ:Pn→List UInt8→List UInt8→Pn
 | .mk kd q u ks,p,v =>
  if kd=1 then
   if com q p=p.length∧com q p=q.length then (if v=[] then nP else .mk 1 p v [])
   else if v=[] then .mk 1 q u []
   else partQ (com q p) q (.mk 1 [] u []) p v
  else if kd=2 then
   if com q p=q.length then behindQ q ((putQL ks 0 (p.drop (com q p)) v)[0]?.getD nP)
   else if v=[] then .mk 2 q [] ks
   else partQ (com q p) q (ks[0]?.getD nP) p v
  else if kd=3 then (match p with
   | []=>tidyQ v ks
   | x::p=>tidyQ u (putQL ks x.toNat p v))
  else if v=[] then nP else .mk 1 p v []
def putQL:List Pn→Nat→List UInt8→List UInt8→List Pn
 | [],_,_,_=>[]
 | k::ks,0,p,v=>putQ k p v::ks
 | k::ks,i+1,p,v=>k::putQL ks i p v
end
inductive Grows:List Rt→Pn→Prop where
 | none:Grows [] nP
 | leaf (p v:List UInt8) (hv:v≠[]) (hp:nibs p):Grows [(p,v)] (.mk 1 p v [])
 | road (p:List UInt8) (l:List Rt) (k:Pn) (hp:p≠[]) (hn:nibs p) (h:Grows l k) (hk:k.kd=3):Grows (pre p l) (.mk 2 p [] [k])
 | fork (v:List UInt8) (ls:List (List Rt)) (ks:List Pn) (hl:ls.length=16) (hk:ks.length=16) (h:∀ (i:Nat) (l:List Rt) (k:Pn),ls[i]?=some l→ks[i]?=some k→Grows l k) (hm:2≤min v.length 1+cntQ ks):Grows (bdP v ls) (.mk 3 [] v ks)
theorem cnt_one {ks:List Pn}(h:1≤cntQ ks):∃ (j:Nat) (k:Pn),ks[j]?=some k∧k.kd≠0:=by
 induction ks with
 | nil=>simp [cntQ] at h
 | cons k ks ih =>
  by_cases hk:k.kd=0
  ·simp only [cntQ,if_pos hk,Nat.zero_add] at h
   obtain ⟨j,a,h1,h2⟩:=ih h
   exact ⟨j+1,a,h1,h2⟩
  ·exact ⟨0,k,rfl,hk⟩
theorem cat_ne {ls:List (List Rt)}{j:Nat}{l:List Rt}(h:ls[j]?=some l)(hl:l≠[]):∀ i,cat i ls≠[]:=fun i e=>hl ((cat_nil_iff ls i).1 e l (List.mem_of_getElem? h))
theorem bd_ne {v:List UInt8}{ls:List (List Rt)}(h:v≠[]∨cat 0 ls≠[]):bdP v ls≠[]:=by
 unfold bdP
 rcases h with h|h
 ·rw [if_neg h];simp
 ·simp [h]
theorem Grows.kd {l:List Rt}{t:Pn}(h:Grows l t):(t.kd=0→l=[])∧(l=[]→t=nP)∧(t.kd=0∨t.kd=1∨t.kd=2∨t.kd=3):=by
 induction h with
 | none=>exact ⟨fun _=>rfl,fun _=>rfl,.inl rfl⟩
 | leaf p v hv hp=>exact ⟨fun h=>by simp [Pn.kd] at h,fun h=>by simp at h,.inr (.inl rfl)⟩
 | road p l k hp hn h hk ih =>
  refine ⟨fun h=>by simp [Pn.kd] at h,fun e=>?_,.inr (.inr (.inl rfl))⟩
  have hl:l=[]:=by
   cases l with
   | nil=>rfl
   | cons r l=>simp [pre] at e
  have:=ih.2.1 hl
  rw [this] at hk;simp [nP,Pn.kd] at hk
 | fork v ls ks hl hk h hm ih =>
  refine ⟨fun h=>by simp [Pn.kd] at h,fun e=>?_,.inr (.inr (.inr rfl))⟩
  exfalso
  refine bd_ne (v:=v) (ls:=ls) ?_ e
  by_cases hv:v=[]
  ·subst hv
   obtain ⟨j,k,h1,h2⟩:=cnt_one (ks:=ks) (by simp at hm;omega)
   have hj:j<16:=by have:=(List.getElem?_eq_some_iff.1 h1).1;omega
   have hlj:ls[j]?=some (ls[j]'(by omega)):=List.getElem?_eq_getElem _
   refine .inr (cat_ne hlj (fun e=>h2 ?_) 0)
   rw [(ih j _ k hlj h1).2.1 e];rfl
  ·exact .inl hv
instance decLt:∀ p q:List UInt8,Decidable (ltP p q)
 | [],[]=>isFalse (fun h=>h)
 | [],_::_=>isTrue trivial
 | _::_,[]=>isFalse (fun h=>h)
 | x::p,y::q=>by
  have:=decLt p q
  unfold ltP
  infer_instance
mutual
def clN:Nd→Pn
 | .mk kd _ p _ v _ ks=>if kd=1 then .mk 1 p v [] else if kd=2 then .mk 2 p [] (clNL ks) else if kd=3 then .mk 3 [] v (clNL ks) else nP
def clNL:List Nd→List Pn
 | []=>[]
 | k::ks=>clN k::clNL ks
end
mutual
def blkP:Pn→Nat
 | .mk _ p v ks=>1+p.length+v.length+blkPL ks
def blkPL:List Pn→Nat
 | []=>0
 | k::ks=>blkP k+blkPL ks
end
mutual
theorem blkP_er:∀ t:Nd,blkP (erN t)=bulkN t
 | .mk kd pv p vv v kv ks=>by simp only [erN,blkP,bulkN,blkP_erL ks]
theorem blkP_erL:∀ ks:List Nd,blkPL (erNL ks)=bulkNL ks
 | []=>rfl
 | k::ks=>by simp only [erNL,blkPL,bulkNL,blkP_er k,blkP_erL ks]
end
mutual
theorem sameN_er:∀ t:Nd,sameP t (erN t)=true
 | .mk kd pv p vv v kv ks=>by
  have:=sameN_erL ks
  simp only [erN,sameP,this]
  simp
theorem sameN_erL:∀ ks:List Nd,sameL ks (erNL ks)=true
 | []=>rfl
 | k::ks=>by simp only [erNL,sameL,sameN_er k,sameN_erL ks];rfl
end
mutual
def getP:Nd→List UInt8→List UInt8
 | .mk kd _ p _ v _ ks,q =>
  if kd=1 then (if p=q then v else [])
  else if kd=2 then (if com p q=p.length then getL ks 0 (q.drop p.length) else [])
  else if kd=3 then (match q with
   | []=>v
   | x::q=>getL ks x.toNat q)
  else []
def getL:List Nd→Nat→List UInt8→List UInt8
 | [],_,_=>[]
 | k::_,0,q=>getP k q
 | _::ks,i+1,q=>getL ks i q
end
mutual
def nv:Nd→Value
 | .mk kd pv _ vv _ _ ks=>if kd=1 then .iface 182 (.agg #[pv,vv]) else if kd=2 then .iface 185 (.agg #[pv,(nvL ks).headD .nilIface]) else if kd=3 then .iface 189 (.agg (nvL ks++[vv]).toArray) else .nilIface
def nvL:List Nd→List Value
 | []=>[]
 | k::ks=>nv k::nvL ks
end
section
variable (pa va ka:Option Addr) (pn pc vn vc kn kc:Nat) (p v:List UInt8) (ks:List Nd) (w:World)
end
section
variable (pa va qa:Option Addr) (pn pc vn vc qn qc:Nat) (p v q:List UInt8) (w:World)
end
section
variable (pa va qa:Option Addr) (pn pc vn vc qn qc:Nat) (p v q:List UInt8) (w:World)
end
inductive IsNv (w:World):Nd→Prop where
 | none (pv:Value) (p:List UInt8) (vv:Value) (v:List UInt8) (kv:Value) (ks:List Nd):IsNv w (.mk 0 pv p vv v kv ks)
 | leaf (pv:Value) (p:List UInt8) (vv:Value) (v:List UInt8) (kv:Value) (ks:List Nd) (hp:Bytes w pv p) (hv:Bytes w vv v):IsNv w (.mk 1 pv p vv v kv ks)
 | road (pv:Value) (p:List UInt8) (vv:Value) (v:List UInt8) (kv:Value) (k:Nd) (hp:Bytes w pv p) (hk:k.kd=3) (h:IsNv w k):IsNv w (.mk 2 pv p vv v kv [k])
 | fork (pv:Value) (p:List UInt8) (vv:Value) (v:List UInt8) (kv:Value) (ks:List Nd) (hv:Bytes w vv v) (hl:ks.length=16) (h:∀ k∈ks,IsNv w k):IsNv w (.mk 3 pv p vv v kv ks)
theorem IsNv.val {w:World}{t:Nd}(h:IsNv w t):(t.kd=0∧nv t=.nilIface)∨(t.kd≠0∧∃ ty x,nv t=.iface ty x):=by
 cases h with
 | none pv p vv v kv ks=>exact .inl ⟨rfl,rfl⟩
 | leaf pv p vv v kv ks hp hv=>exact .inr ⟨by simp [Nd.kd],_,_,rfl⟩
 | road pv p vv v kv k hp hk h=>exact .inr ⟨by simp [Nd.kd],_,_,rfl⟩
 | fork pv p vv v kv ks hv hl h=>exact .inr ⟨by simp [Nd.kd],_,_,rfl⟩
section
variable (va:Option Addr) (vn vc:Nat) (u:List UInt8) (ks:List Nd) (w:World)
end
end Go.Proofs.YtcgpjceopnfahaaGreat
