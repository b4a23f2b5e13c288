/- Putting into a tree of routes: plain Lean. | Putting into a tree is putting into its routes: plain Lean. | Routes in order: what sorting a put one gives. Plain  -/
import Derived.Test.YtbdmkfjgnjfjbaaGreatBlockListsK02
import Derived.Lib.Bytealg
import Derived.Sort.Statements
import Derived.Test.YtbdmkfjgnjfjbaaGreatBlockListsK06
import Derived.Test.YtbdmkfjgnjfjbaaGreatBlockListsK03
set_option linter.unusedSimpArgs false
set_option linter.unusedVariables false
set_option maxHeartbeats 4000000
set_option maxRecDepth 100000
open List (append_nil drop_eq_nil_iff filter_append getElem?_cons_zero getElem?_eq_getElem getElem?_set_ne length_append length_cons length_nil length_pos_iff mem_cons mem_cons_of_mem mem_cons_self mem_singleton nil_append pairwise_cons)
namespace Go.Proofs.YtbdmkfjgnjfjbaaGreat
open Go.RowKit
def nP:Pn:=.mk 0 [] [] []
def Pn.kd:Pn->Int
 | .mk kd _ _ _=>kd
def Pn.val:Pn->List UInt8
 | .mk _ _ v _=>v
def nibs (p:List UInt8):Prop:=∀ x∈p,x.toNat<16
def Q0z (p:List UInt8):Pn->Pn
 | .mk kd q u ks=>if p=[] then .mk kd q u ks
  else if kd=1 then .mk 1 (p++q) u []
  else if kd=2 then .mk 2 (p++q) [] ks
  else if kd=3 then .mk 2 p [] [.mk kd q u ks]
  else nP
def cntQ:List Pn->Nat
 | []=>0
 | k::ks=>(if k.kd=0 then 0 else 1)+cntQ ks
def Q5r:List Pn->Nat->Nat->Nat
 | [],_,a=>a
 | k::ks,i,a=>Q5r ks (i+1) (if k.kd=0 then a else i)
def Q7u (v:List UInt8)(ks:List Pn):Pn :=
 if 2<=min v.length 1+cntQ ks then .mk 3 [] v ks
 else if min v.length 1+cntQ ks=0 then nP
 else if 0<v.length then .mk 1 [] v []
 else Q0z [UInt8.ofNat (Q5r ks 0 0)] (ks[Q5r ks 0 0]?.getD nP)
def Q6d (p:List UInt8)(a:Pn):List UInt8 × List Pn:=match p with
 | []=>(if a.kd=1 then a.val else [],List.replicate 16 nP)
 | x::r=>([],(List.replicate 16 nP).set x.toNat (Q0z r a))
def Q45 (c:Nat)(q:List UInt8)(a:Pn)(p v:List UInt8):Pn :=
 Q0z (q.take c) (.mk 3 [] (if p.length=c then v else (Q6d (q.drop c) a).1) (if p.length=c then (Q6d (q.drop c) a).2 else (Q6d (q.drop c) a).2.set (p[c]?.getD 0).toNat (.mk 1 (p.drop (c+1)) v [])))
mutual
def putQ:Pn->List UInt8->List UInt8->Pn
 | .mk kd q u ks,p,v =>
  if kd=1 then
   if com q p=p.length/\com q p=q.length then (if v=[] then nP else .mk 1 p v [])
   else if v=[] then .mk 1 q u []
   else Q45 (com q p) q (.mk 1 [] u []) p v
  else if kd=2 then
   if com q p=q.length then Q0z q ((Qbx ks 0 (p.drop (com q p)) v)[0]?.getD nP)
   else if v=[] then .mk 2 q [] ks
   else Q45 (com q p) q (ks[0]?.getD nP) p v
  else if kd=3 then (match p with
   | []=>Q7u v ks
   | x::p=>Q7u u (Qbx ks x.toNat p v))
  else if v=[] then nP else .mk 1 p v []
def Qbx:List Pn->Nat->List UInt8->List UInt8->List Pn
 | [],_,_,_=>[]
 | k::ks,0,p,v=>putQ k p v::ks
 | k::ks,i+1,p,v=>k::Qbx ks i p v
end
theorem Q4x:∀ (ks:List Pn)(i:Nat)(p v:List UInt8),Qbx ks i p v=ks.set i (putQ (ks[i]?.getD nP) p v)
 | [],i,p,v=>by simp [Qbx]
 | k::ks,0,p,v=>by simp [Qbx]
 | k::ks,i+1,p,v=>by simp only [Qbx,Q4x ks i p v];rfl
inductive Q1c:List Rt->Pn->Prop where
 | none:Q1c [] nP
 | leaf (p v:List UInt8) (hv:v≠[]) (hp:nibs p):Q1c [(p,v)] (.mk 1 p v [])
 | road (p:List UInt8) (l:List Rt) (k:Pn) (hp:p≠[]) (hn:nibs p) (h:Q1c l k) (hk:k.kd=3):Q1c (pre p l) (.mk 2 p [] [k])
 | fork (v:List UInt8) (ls:List (List Rt)) (ks:List Pn) (hl:ls.length=16) (hk:ks.length=16) (h:∀ (i:Nat) (l:List Rt) (k:Pn),ls[i]?=some l->ks[i]?=some k->Q1c l k) (hm:2<=min v.length 1+cntQ ks):Q1c (bdP v ls) (.mk 3 [] v ks)
theorem Qgd {ks:List Pn}(h:1<=cntQ ks):∃ (j:Nat) (k:Pn),ks[j]?=some k/\k.kd≠0:=by
 induction ks with
 | nil=>simp [cntQ] at h
 | cons k ks ih =>
  by_cases hk:k.kd=0
  ·simp only [cntQ,if_pos hk,Nat.zero_add] at h;obtain ⟨j,a,y,z⟩:=ih h;exact ⟨j+1,a,y,z⟩
  exact ⟨0,k,rfl,hk⟩
theorem Qss {ks:List Pn}(h:2<=cntQ ks):∃ (i j:Nat) (a b:Pn),i<j/\ks[i]?=some a/\a.kd≠0/\ks[j]?=some b/\b.kd≠0:=by
 induction ks with
 | nil=>simp [cntQ] at h
 | cons k ks ih =>
  by_cases hk:k.kd=0
  ·simp only [cntQ,if_pos hk,Nat.zero_add] at h;obtain ⟨i,j,a,b,z,y,D,E,G⟩:=ih h;exact ⟨i+1,j+1,a,b,by omega,y,D,E,G⟩
  simp only [cntQ,if_neg hk] at h;obtain ⟨j,b,z,y⟩:=Qgd (ks:=ks) (by omega);exact ⟨0,j+1,k,b,by omega,rfl,hk,z,y⟩
theorem Qd0 {ks:List Pn}(h:cntQ ks=0):∀ (i:Nat) (k:Pn),ks[i]?=some k->k.kd=0:=by
 induction ks with
 | nil=>intro i k h;simp at h
 | cons a ks ih =>
  simp only [cntQ] at h;intro i k y;cases i with
  | zero =>
   simp only [getElem?_cons_zero,Option.some.injEq] at y;subst y;by_cases h0:a.kd=0
   ·exact h0
   rw [if_neg h0] at h;omega
  | succ i=>exact ih (by omega) i k y
theorem Qd1 {ks:List Pn}{i:Nat}{a k:Pn}(h:ks[i]?=some a)(y:a.kd=0)(z:k.kd≠0):cntQ (ks.set i k)=cntQ ks+1:=by
 induction ks generalizing i with
 | nil=>simp at h
 | cons x ks ih =>
  cases i with
  | zero =>
   simp only [getElem?_cons_zero,Option.some.injEq] at h;subst h;simp only [List.set_cons_zero,cntQ,if_neg z,if_pos y];omega
  | succ i =>
   simp only [List.set_cons_succ,cntQ];rw [ih h];omega
theorem Qgc (n:Nat):cntQ (List.replicate n nP)=0:=by
 induction n with
 | zero=>rfl
 | succ n ih=>rw [List.replicate_succ,cntQ,ih];rfl
theorem Qst (n i:Nat):cat i (List.replicate n [])=[]:=by
 induction n generalizing i with
 | zero=>rfl
 | succ n ih=>rw [List.replicate_succ,cat,ih];rfl
theorem Qub {ls:List (List Rt)}{j:Nat}{l:List Rt}(h:ls[j]?=some l)(y:l≠[]):∀ i,cat i ls≠[]:=fun i e=>y ((Q3h ls i).1 e l (List.mem_of_getElem? h))
theorem Quo {v:List UInt8}{ls:List (List Rt)}(h:v≠[]∨cat 0 ls≠[]):bdP v ls≠[]:=by
 unfold bdP;rcases h with h|h
 ·rw [if_neg h];simp
 simp [h]
theorem Q1c.kd {l:List Rt}{t:Pn}(h:Q1c l t):(t.kd=0->l=[])/\(l=[]->t=nP)/\(t.kd=0∨t.kd=1∨t.kd=2∨t.kd=3):=by
 induction h with
 | none=>exact ⟨fun _=>rfl,fun _=>rfl,.inl rfl⟩
 | leaf p v hv hp=>exact ⟨fun h=>by simp [Pn.kd] at h,fun h=>by simp at h,.inr (.inl rfl)⟩
 | road p l k hp hn h hk ih =>
  refine ⟨fun h=>by simp [Pn.kd] at h,fun e=>?_,.inr (.inr (.inl rfl))⟩;have z:l=[]:=by
   cases l with
   | nil=>rfl
   | cons r l=>simp [pre] at e
  have:=ih.2.1 z;rw [this] at hk;simp [nP,Pn.kd] at hk
 | fork v ls ks z hk h hm ih =>
  refine ⟨fun h=>by simp [Pn.kd] at h,fun e=>?_,.inr (.inr (.inr rfl))⟩;exfalso;refine Quo (v:=v) (ls:=ls) ?_ e;by_cases hv:v=[]
  ·subst hv;obtain ⟨j,k,y,E⟩:=Qgd (ks:=ks) (by simp at hm;omega);have G:j<16:=by have:=(List.getElem?_eq_some_iff.1 y).1;omega
   have D:ls[j]?=some (ls[j]'(by omega)):=getElem?_eq_getElem _;refine .inr (Qub D (fun e=>E ?_) 0);rw [(ih j _ k D y).2.1 e];rfl
  exact .inl hv
theorem Q1c.ne {l:List Rt}{t:Pn}(h:Q1c l t)(y:t.kd≠0):l≠[]:=fun e=>y (by rw [h.kd.2.1 e];rfl)
theorem Q1c.kd0 {l:List Rt}{t:Pn}(h:Q1c l t)(y:l≠[]):t.kd≠0:=fun e=>y (h.kd.1 e)
theorem Qhz {p q:List UInt8}:nibs (p++q)↔nibs p/\nibs q:=by
 unfold nibs;constructor
 ·exact fun h=>⟨fun x y=>h x (List.mem_append_left _ y),fun x y=>h x (List.mem_append_right _ y)⟩
 rintro ⟨z,D⟩ x y;rcases List.mem_append.1 y with y|y
 ·exact z x y
 exact D x y
theorem Q1c.behind {l:List Rt}{t:Pn}(h:Q1c l t){p:List UInt8}(y:nibs p):Q1c (pre p l) (Q0z p t):=by
 by_cases h0:p=[]
 ·subst h0;obtain ⟨kd,q,u,ks⟩:=t;rw [Qfr];simp only [Q0z];rw [if_pos trivial];exact h
 cases h with
 | none=>simp only [Q0z,nP];rw [if_neg h0];exact .none
 | leaf q v hv hq=>simp only [Q0z];rw [if_neg h0,if_pos trivial];exact .leaf _ _ hv (Qhz.2 ⟨y,hq⟩)
 | road q l k hq hn h hk =>
  simp only [Q0z];rw [if_neg h0,if_neg (by decide),if_pos trivial,Q7a];exact .road _ _ _ (by simp [h0]) (Qhz.2 ⟨y,hn⟩) h hk
 | fork v ls ks hl hk h hm =>
  simp only [Q0z];rw [if_neg h0,if_neg (by decide),if_neg (by decide),if_pos trivial];exact .road _ _ _ h0 y (.fork v ls ks hl hk h hm) rfl
theorem Qn0:∀ (ks:List Pn)(i a:Nat),cntQ ks=0->Q5r ks i a=a
 | [],i,a,_=>rfl
 | k::ks,i,a,h=>by
  simp only [cntQ] at h;have y:k.kd=0:=by
   by_cases h0:k.kd=0
   ·exact h0
   rw [if_neg h0] at h;omega
  simp only [Q5r,if_pos y];exact Qn0 ks (i+1) a (by omega)
theorem Qi3:∀ (ks:List Pn)(i a:Nat),cntQ ks=1->∃ j k,Q5r ks i a=i+j/\ks[j]?=some k/\k.kd≠0/\∀ (m:Nat) (b:Pn),m≠j->ks[m]?=some b->b.kd=0
 | [],i,a,h=>by simp [cntQ] at h
 | k::ks,i,a,h=>by
  simp only [cntQ] at h;by_cases h0:k.kd=0
  ·rw [if_pos h0] at h;obtain ⟨j,b,D,E,G,H⟩:=Qi3 ks (i+1) a (by omega);refine ⟨j+1,b,by simp only [Q5r,if_pos h0];rw [D];omega,E,G,fun m c z y=>?_⟩;cases m with
   | zero=>simp only [getElem?_cons_zero,Option.some.injEq] at y;subst y;exact h0
   | succ m=>exact H m c (by omega) y
  rw [if_neg h0] at h;refine ⟨0,k,by simp only [Q5r,if_neg h0];rw [Qn0 ks _ _ (by omega)];rfl,rfl,h0,fun m c z y=>?_⟩;cases m with
  | zero=>exact absurd rfl z
  | succ m=>exact Qd0 (by omega) m c y
theorem Qge:∀ (ls:List (List Rt))(i j:Nat)(l:List Rt),ls[j]?=some l->(∀ (m:Nat) (b:List Rt),m≠j->ls[m]?=some b->b=[])->cat i ls=pre [UInt8.ofNat (i+j)] l
 | [],i,j,l,h,_=>by simp at h
 | a::ls,i,0,l,h,hz=>by
  simp only [getElem?_cons_zero,Option.some.injEq] at h;subst h;have:cat (i+1) ls=[]:=(Q3h ls _).2 (fun b y=>by
   obtain ⟨m,z,rfl⟩:=List.mem_iff_getElem.1 y;exact hz (m+1) _ (by omega) (by simp [z]))
  rw [cat,this,append_nil];rfl
 | a::ls,i,j+1,l,h,hz=>by
  have D:a=[]:=hz 0 a (by omega) rfl;subst D;have:=Qge ls (i+1) j l h (fun m b z y=>hz (m+1) b (by omega) y);rw [cat,this,show i+1+j=i+(j+1) by omega];rfl
theorem Qao {v:List UInt8}{ls:List (List Rt)}{ks:List Pn}(U:ls.length=16)(T:ks.length=16)(h:∀ (i:Nat) (l:List Rt) (k:Pn),ls[i]?=some l->ks[i]?=some k->Q1c l k):Q1c (bdP v ls) (Q7u v ks):=by
 have E:∀ i (J:i<16),ls[i]?=some (ls[i]'(by omega)):=fun i J=>getElem?_eq_getElem _;have D:∀ i (J:i<16),ks[i]?=some (ks[i]'(by omega)):=fun i J=>getElem?_eq_getElem _;unfold Q7u;by_cases h2:2<=min v.length 1+cntQ ks
 ·rw [if_pos h2];exact .fork v ls ks U T h h2
 rw [if_neg h2];by_cases h0:min v.length 1+cntQ ks=0
 ·rw [if_pos h0];have z:v=[]:=by
   cases v with
   | nil=>rfl
   | cons _ _=>simp at h0
  have I:=Qd0 (ks:=ks) (by omega);have:bdP v ls=[]:=by
   unfold bdP;rw [if_pos z,nil_append];refine (Q3h ls 0).2 (fun b y=>?_);obtain ⟨m,L,rfl⟩:=List.mem_iff_getElem.1 y;exact (h m _ _ (E m (by omega)) (D m (by omega))).kd.1 (I m _ (D m (by omega)))
  rw [this];exact .none
 rw [if_neg h0];by_cases z:0<v.length
 ·rw [if_pos z];have N:v≠[]:=fun e=>by rw [e] at z;simp at z
  have I:=Qd0 (ks:=ks) (by omega);have:bdP v ls=[([],v)]:=by
   unfold bdP;rw [if_neg N,(Q3h ls 0).2 (fun b y=>by
    obtain ⟨m,L,rfl⟩:=List.mem_iff_getElem.1 y;exact (h m _ _ (E m (by omega)) (D m (by omega))).kd.1 (I m _ (D m (by omega))))]
   rfl
  rw [this];exact .leaf [] v N (by intro x G;simp at G)
 rw [if_neg z];have V:v=[]:=List.eq_nil_of_length_eq_zero (by omega);obtain ⟨j,k,O,H,W,S⟩:=Qi3 ks 0 0 (by omega);rw [O,Nat.zero_add,H];have K:j<16:=by have:=(List.getElem?_eq_some_iff.1 H).1;omega
 have y:bdP v ls=pre [UInt8.ofNat j] (ls[j]'(by omega)):=by
  unfold bdP;rw [if_pos V,nil_append,Qge ls 0 j _ (E j K) (fun m b L y=>?_),Nat.zero_add];have M:m<16:=by have:=(List.getElem?_eq_some_iff.1 y).1;omega
  exact (h m b _ y (D m M)).kd.1 (S m _ L (D m M))
 rw [y];refine (h j _ k (E j K) H).behind ?_;intro x G;rw [mem_singleton] at G;subst G;rw [Q1o (by omega)];exact K
instance decLt:∀ p q:List UInt8,Decidable (ltP p q)
 | [],[]=>isFalse (fun h=>h)
 | [],_::_=>isTrue trivial
 | _::_,[]=>isFalse (fun h=>h)
 | x::p,y::q=>by
  have:=decLt p q;unfold ltP
  infer_instance
def insR (r:Rt):List Rt->List Rt
 | []=>[r]
 | s::l=>if ltP r.1 s.1 then r::s::l else s::insR r l
def Q1k (l:List Rt)(p v:List UInt8):List Rt:=if v=[] then l.filter (fun r=>decide (r.1≠p)) else insR (p,v) (l.filter (fun r=>decide (r.1≠p)))
theorem Qmw (a p q:List UInt8):ltP (a++p) (a++q)↔ltP p q:=by
 induction a with
 | nil=>exact Iff.rfl
 | cons x a ih =>
  refine ⟨fun h=>?_,fun h=>.inr ⟨rfl,ih.2 h⟩⟩;rcases h with h|h
  ·omega
  exact ih.1 h.2
theorem Qb8 (a:List UInt8)(l:List Rt)(p:List UInt8):(pre a l).filter (fun r=>decide (r.1≠a++p))=pre a (l.filter (fun r=>decide (r.1≠p))):=by
 unfold pre;rw [List.filter_map];congr 1;refine List.filter_congr (fun r _=>?_);simp
theorem Qfz (a p v:List UInt8):∀ l:List Rt,insR (a++p,v) (pre a l)=pre a (insR (p,v) l)
 | []=>rfl
 | s::l=>by
  show (if ltP (a++p) (a++s.1) then _ else _)=_;rw [insR];by_cases h:ltP p s.1
  ·rw [if_pos ((Qmw a p s.1).2 h),if_pos h];rfl
  rw [if_neg (fun e=>h ((Qmw a p s.1).1 e)),if_neg h];show _::insR (a++p,v) (pre a l)=_;rw [Qfz a p v l];rfl
theorem Qhe (a:List UInt8)(l:List Rt)(p v:List UInt8):Q1k (pre a l) (a++p) v=pre a (Q1k l p v):=by
 unfold Q1k;rw [Qb8];split
 ·rfl
 rw [Qfz]
theorem Qcm {r:Rt}:∀ {A B:List Rt},(∀ s∈B,ltP r.1 s.1)->insR r (A++B)=insR r A++B
 | [],[],_=>rfl
 | [],s::B,h=>by
  show (if ltP r.1 s.1 then _ else _)=_;rw [if_pos (h s mem_cons_self)];rfl
 | a::A,B,h=>by
  show (if ltP r.1 a.1 then _ else _)=(if ltP r.1 a.1 then _ else _)++B;split
  ·rfl
  show a::insR r (A++B)=_;rw [Qcm h];rfl
theorem Q9g {r:Rt}:∀ {A B:List Rt},(∀ s∈A,¬ ltP r.1 s.1)->insR r (A++B)=A++insR r B
 | [],B,_=>rfl
 | a::A,B,h=>by
  show (if ltP r.1 a.1 then _ else _)=_;rw [if_neg (h a mem_cons_self)];show a::insR r (A++B)=_;rw [Q9g (fun s y=>h s (mem_cons_of_mem _ y))];rfl
theorem Q47 {l:List Rt}{p:List UInt8}(h:∀ r∈l,r.1≠p):l.filter (fun r=>decide (r.1≠p))=l:=by
 rw [List.filter_eq_self];intro r y;simpa using h r y
theorem Qht {i:Nat}{x:UInt8}(y:i<256)(h:i≠x.toNat):UInt8.ofNat i≠x:=fun e=>h (by rw [<-e,Q1o y])
theorem Qhg:∀ (ls:List (List Rt))(i:Nat)(x:UInt8)(p v:List UInt8),i<=x.toNat->x.toNat<i+ls.length->i+ls.length<=256->Q1k (cat i ls) (x::p) v=cat i (ls.set (x.toNat - i) (Q1k (ls[x.toNat - i]?.getD []) p v))
 | [],i,x,p,v,h1,h2,_=>by simp at h2;omega
 | l::ls,i,x,p,v,h1,h2,h3=>by
  simp only [length_cons] at h2 h3;by_cases hi:i=x.toNat
  ·have M:UInt8.ofNat i=x:=by rw [hi];simp
   have D:x.toNat - i=0:=by omega
   have I:∀ s∈cat (i+1) ls,ltP (x::p) s.1:=fun s z=>by
    obtain ⟨j,m,_,O,_,rfl⟩:=Q3i z;have N:j<ls.length:=(List.getElem?_eq_some_iff.1 (by assumption)).1;refine .inl ?_;rw [Q1o (by omega)];omega
   have K:(cat (i+1) ls).filter (fun r=>decide (r.1≠x::p))=cat (i+1) ls:=Q47 (fun r E e=>by
    have:=I r E;rw [e] at this;have L:∀ q:List UInt8,¬ ltP q q:=fun q=>by
     induction q with
     | nil=>exact fun h=>h
     | cons y q G =>
      intro h;rcases h with h|h
      ·omega
      exact G h.2
    exact L _ this)
   rw [D,List.set_cons_zero,getElem?_cons_zero,Option.getD_some,cat,cat,M];unfold Q1k;rw [filter_append,K];have J:=Qb8 [x] l p;simp only [List.singleton_append] at J;rw [J];split
   ·rfl
   rw [Qcm I];have:=Qfz [x] p v (l.filter (fun r=>decide (r.1≠p)));simp only [List.singleton_append] at this;rw [this]
  have D:x.toNat - i=(x.toNat - (i+1))+1:=by omega
  have G:=Qhg ls (i+1) x p v (by omega) (by omega) (by omega);rw [D,List.set_cons_succ,List.getElem?_cons_succ,cat,cat,<-G];have H:∀ s∈pre [UInt8.ofNat i] l,¬ ltP (x::p) s.1/\s.1≠x::p:=fun s z=>by
   obtain ⟨r,_,rfl⟩:=Q91 z;refine ⟨fun h=>?_,fun e=>?_⟩
   ·rcases h with h|h
    ·rw [Q1o (by omega)] at h;omega
    exact Qht (by omega) hi h.1.symm
   exact Qht (by omega) hi (List.cons.inj e).1
  unfold Q1k;rw [filter_append,Q47 (fun r E=>(H r E).2)];split
  ·rfl
  rw [Q9g (fun s z=>(H s z).1)]
theorem Q8x (u v:List UInt8)(ls:List (List Rt)):Q1k (bdP u ls) [] v=bdP v ls:=by
 have z:∀ s∈cat 0 ls,s.1≠[]/\ltP [] s.1:=fun s y=>by
  obtain ⟨j,m,_,G,_,rfl⟩:=Q3i y;exact ⟨by simp,trivial⟩
 have D:(bdP u ls).filter (fun r=>decide (r.1≠[]))=cat 0 ls:=by
  unfold bdP;rw [filter_append,Q47 (fun r E=>(z r E).1)];split
  ·rfl
  simp
 unfold Q1k;rw [D];split
 ·rename_i h;unfold bdP;rw [if_pos h];rfl
 rename_i h;have:=Qcm (r:=([],v)) (A:=[]) (B:=cat 0 ls) (fun s y=>(z s y).2);rw [nil_append] at this;rw [this];unfold bdP;rw [if_neg h];rfl
theorem Q4v (u v:List UInt8)(ls:List (List Rt))(G:ls.length=16)(x:UInt8)(H:x.toNat<16)(p:List UInt8):Q1k (bdP u ls) (x::p) v=bdP u (ls.set x.toNat (Q1k (ls[x.toNat]?.getD []) p v)):=by
 have y:=Qhg ls 0 x p v (by omega) (by omega) (by omega);rw [Nat.sub_zero] at y;unfold bdP;rw [<-y];by_cases hu:u=[]
 ·rw [if_pos hu,nil_append,nil_append]
 rw [if_neg hu];unfold Q1k;rw [filter_append];have E:([([],u)]:List Rt).filter (fun r=>decide (r.1≠x::p))=[([],u)]:=Q47 (fun r z=>by rw [mem_singleton] at z;subst z;simp);rw [E];split
 ·rfl
 rw [Q9g (fun s D=>by rw [mem_singleton] at D;subst D;exact fun h=>h)]
theorem Qtn (y:UInt8)(D:y.toNat<16)(q:List UInt8)(l:List Rt):pre (y::q) l=bdP [] ((List.replicate 16 []).set y.toNat (pre q l)):=by
 unfold bdP;rw [if_pos rfl,nil_append,Qge _ 0 y.toNat (pre q l) (by rw [List.getElem?_set_self (by simpa using D)]) (fun m b z h=>by
  rw [getElem?_set_ne (fun e=>z e.symm)] at h;exact (List.eq_of_mem_replicate (List.mem_of_getElem? h))),Q7a]
 simp
theorem Qqy {α:Type}{n i:Nat}{a b:α}(h:(List.replicate n a)[i]?=some b):b=a:=List.eq_of_mem_replicate (List.mem_of_getElem? h)
theorem Q8w (p v:List UInt8)(h:v≠[]):Q1k [] p v=[(p,v)]:=by
 unfold Q1k;rw [if_neg h];rfl
theorem Qeq {q p:List UInt8}{c:Nat}(E:c=com q p):q=q.take c++q.drop c/\p=q.take c++p.drop c/\com (q.drop c) (p.drop c)=0:=by
 have z:=Q8b (p:=q) (q:=p) (c:=c) (by omega);have h:q=q.take c++q.drop c:=(List.take_append_drop c q).symm;have y:p=q.take c++p.drop c:=by rw [<-z.1];exact (List.take_append_drop c p).symm
 refine ⟨h,y,?_⟩;have D:=Qcy (q.take c) (q.drop c) (p.drop c);rw [<-h,<-y,List.length_take,<-E] at D;have:=z.2.1;omega
theorem Qau {H:List Rt}{a:Pn}(ha:Q1c H a)(aa:a.kd≠0){q p v:List UInt8}(hq:nibs q)(hp:nibs p)(J:v≠[])(c:Nat)(hc:c=com q p)(ad:c<q.length∨(c=q.length/\c<p.length/\∃ u,a=.mk 1 [] u []/\H=[([],u)]/\u≠[])) :
  Q1c (Q1k (pre q H) p v) (Q45 c q a p v):=by
 obtain ⟨e1,e2,Z⟩:=Qeq hc;have ae:=Q8b (p:=q) (q:=p) (c:=c) (by omega);have hh:nibs (q.take c):=fun x E=>hq x (List.mem_of_mem_take E);have a5:nibs (q.drop c):=fun x E=>hq x (List.mem_of_mem_drop E);have L:nibs (p.drop c):=fun x E=>hp x (List.mem_of_mem_drop E);have ai:H≠[]:=ha.ne aa;have ak:Q1k (pre q H) p v=pre (q.take c) (Q1k (pre (q.drop c) H) (p.drop c) v):=by
  rw [<-Qhe,Q7a,<-e1,<-e2]
 rw [ak];unfold Q45;refine Q1c.behind ?_ hh;have a6:∀ (i:Nat) (l:List Rt) (k:Pn),(List.replicate 16 ([]:List Rt))[i]?=some l->(List.replicate 16 nP)[i]?=some k->Q1c l k:=fun i l k D G=>by
  rw [Qqy D,Qqy G];exact .none
 have T:∀ {ls:List (List Rt)} {ks:List Pn} {j:Nat} {W:List Rt} {V:Pn},(∀ (i:Nat) (l:List Rt) (k:Pn),ls[i]?=some l->ks[i]?=some k->Q1c l k)->Q1c W V->∀ (i:Nat) (l:List Rt) (k:Pn),(ls.set j W)[i]?=some l->(ks.set j V)[i]?=some k->Q1c l k:=by
  intro ls ks j W V h hk i l k D G;by_cases hij:i=j
  ·subst hij;rw [List.getElem?_set] at D G;simp only [if_true] at D G;split at D
   ·split at G
    ·cases D;cases G;exact hk
    cases G
   cases D
  rw [getElem?_set_ne (fun e=>hij e.symm)] at D G;exact h i l k D G
 have M:∀ {i:Nat},i<16->(List.replicate 16 nP)[i]?=some nP:=fun hi=>by rw [List.getElem?_replicate,if_pos hi]
 cases hqc:q.drop c with
 | nil =>
  have ao:q.length<=c:=by rw [<-drop_eq_nil_iff];exact hqc
  obtain ⟨_,an,u,rfl,rfl,hu⟩:=ad.resolve_left (by omega);cases hpc:p.drop c with
  | nil =>
   have:p.length<=c:=by rw [<-drop_eq_nil_iff];exact hpc
   omega
  | cons x r =>
   have E:x.toNat<16:=L x (by rw [hpc];exact mem_cons_self);have O:p[c]?=some x:=by
    have:=congrArg (fun l=>l[0]?) hpc;simpa using this
   have N:p.drop (c+1)=r:=by rw [<-List.drop_drop,hpc];rfl
   have S:nibs r:=fun y K=>L y (by rw [hpc];exact mem_cons_of_mem _ K);rw [if_neg (by omega),if_neg (by omega),Qfr,O,N];simp only [Q6d,Pn.kd,if_pos,Pn.val,Option.getD_some];have hb:([([],u)]:List Rt)=bdP u (List.replicate 16 []):=by unfold bdP;rw [if_neg hu,Qst];rfl
   rw [hb,Q4v u v _ (by simp) x E r];refine .fork u _ _ (by simp) (by simp) ?_ ?_
   ·have D:(List.replicate 16 ([]:List Rt))[x.toNat]?.getD []=[]:=by rw [List.getElem?_replicate,if_pos E];rfl
    rw [D,Q8w r v J];exact T a6 (.leaf r v J S)
   rw [Qd1 (M E) rfl (by simp [Pn.kd]),Qgc];have:0<u.length:=length_pos_iff.2 hu;omega
 | cons y q2 =>
  have K:y.toNat<16:=a5 y (by rw [hqc];exact mem_cons_self);have al:nibs q2:=fun z U=>a5 z (by rw [hqc];exact mem_cons_of_mem _ U);have a1:=ha.behind al;have a2:(Q0z q2 a).kd≠0:=a1.kd0 (fun e=>ai (by cases H with|nil=>rfl|cons _ _=>simp [pre] at e));rw [Qtn y K q2 H];have a3:=T (j:=y.toNat) a6 a1;cases hpc:p.drop c with
  | nil =>
   have I:p.length=c:=by
    have D:p.length<=c:=by rw [<-drop_eq_nil_iff];exact hpc
    have:=ae.2.2;omega
   rw [if_pos I,if_pos I];simp only [Q6d];rw [Q8x];refine .fork v _ _ (by simp) (by simp) a3 ?_;rw [Qd1 (M K) rfl a2,Qgc];have:0<v.length:=length_pos_iff.2 J;omega
  | cons x r =>
   have E:x.toNat<16:=L x (by rw [hpc];exact mem_cons_self);have O:p[c]?=some x:=by
    have:=congrArg (fun l=>l[0]?) hpc;simpa using this
   have N:p.drop (c+1)=r:=by rw [<-List.drop_drop,hpc];rfl
   have S:nibs r:=fun z U=>L z (by rw [hpc];exact mem_cons_of_mem _ U);have I:¬ p.length=c:=fun e=>by
    have:p.drop c=[]:=by rw [drop_eq_nil_iff];omega
    rw [this] at hpc;cases hpc
   have am:y≠x:=fun e=>by
    rw [hqc,hpc,e] at Z;simp [com] at Z
   have a8:x.toNat≠y.toNat:=fun e=>am (UInt8.toNat_inj.1 e.symm);rw [if_neg I,if_neg I,O,N];simp only [Q6d,Option.getD_some];rw [Q4v [] v _ (by simp) x E r];refine .fork [] _ _ (by simp) (by simp) ?_ ?_
   ·have D:((List.replicate 16 ([]:List Rt)).set y.toNat (pre q2 H))[x.toNat]?.getD []=[]:=by rw [getElem?_set_ne (fun e=>a8 e.symm),List.getElem?_replicate,if_pos E];rfl
    rw [D,Q8w r v J];exact T a3 (.leaf r v J S)
   rw [Qd1 (a:=nP) (by rw [getElem?_set_ne (fun e=>a8 e.symm)];exact M E) rfl (by simp [Pn.kd]),Qd1 (M K) rfl a2,Qgc];simp
theorem Qep {q p:List UInt8}(h:com q p=q.length):p=q++p.drop q.length:=by
 have:=Qeq (q:=q) (p:=p) (c:=q.length) h.symm;have e:=this.2.1;rw [List.take_length] at e;exact e
theorem Qdx {l:List Rt}{t:Pn}(h:Q1c l t):∀ (p v:List UInt8),nibs p->Q1c (Q1k l p v) (putQ t p v):=by
 have M:∀ {q p:List UInt8} {l:List Rt},com q p<q.length->(pre q l).filter (fun r=>decide (r.1≠p))=pre q l:=fun {q p l} hc=>Q47 (fun r T e=>by
  obtain ⟨s,_,rfl⟩:=Q91 T;have D:=Qcy q [] s.1;dsimp only at e;rw [append_nil,e,Q9v] at D;omega)
 induction h with
 | none =>
  intro p v z;simp only [nP,putQ];by_cases hv:v=[]
  ·subst hv;exact .none
  rw [Q8w p v hv];simp only [if_neg hv];exact .leaf p v hv z
 | leaf q u hu hq =>
  intro p v z;simp only [putQ,if_true];have G:[(q,u)]=pre q [([],u)]:=by simp [pre]
  by_cases he:com q p=p.length/\com q p=q.length
  ·rw [if_pos he];have S:p=q:=by
    have D:=Qep he.2;have E:p.drop q.length=[]:=by rw [drop_eq_nil_iff];omega
    rw [E,append_nil] at D;exact D
   subst S;by_cases hv:v=[]
   ·subst hv;have:Q1k [(p,u)] p []=[]:=by unfold Q1k;simp
    rw [if_pos rfl,this];exact .none
   have:Q1k [(p,u)] p v=[(p,v)]:=by unfold Q1k;simp [hv,insR]
   rw [if_neg hv,this];exact .leaf p v hv z
  rw [if_neg he];have N:q≠p:=fun e=>he (by subst e;have:=Qcy q [] [];simp only [append_nil,Q9v] at this;exact ⟨by omega,by omega⟩);have L:=Q30 q p;by_cases hv:v=[]
  ·subst hv;have:Q1k [(q,u)] p []=[(q,u)]:=by unfold Q1k;simp [N]
   rw [if_pos rfl,this];exact .leaf q u hu hq
  rw [if_neg hv,G];refine Qau (.leaf [] u hu (by intro x H;simp at H)) (by simp [Pn.kd]) hq z hv _ rfl ?_;by_cases hc:com q p<q.length
  ·exact .inl hc
  exact .inr ⟨by omega,by omega,u,rfl,rfl,hu⟩
 | road q l k hq0 hq h hk ih =>
  intro p v z;simp only [putQ];have L:=Q30 q p;by_cases hc:com q p=q.length
  ·rw [if_neg (by decide),if_pos trivial,if_pos hc,Q4x];have e:=Qep hc;have K:nibs (p.drop q.length):=fun x H=>z x (List.mem_of_mem_drop H);have E:=(ih (p.drop q.length) v K).behind hq;rw [hc];rw [<-Qhe,<-e] at E;simpa using E
  rw [if_neg (by decide),if_pos trivial,if_neg hc];by_cases hv:v=[]
  ·subst hv;have:Q1k (pre q l) p []=pre q l:=by unfold Q1k;rw [if_pos rfl,M (by omega)]
   rw [if_pos rfl,this];exact .road q l k hq0 hq h hk
  rw [if_neg hv];exact Qau (a:=k) h (by omega) hq z hv _ rfl (.inl (by omega))
 | fork u ls ks G hk h hm ih =>
  intro p v z;simp only [putQ];rw [if_neg (by decide),if_neg (by decide),if_pos trivial];cases p with
  | nil=>rw [Q8x];exact Qao G hk h
  | cons x p =>
   have H:x.toNat<16:=z x mem_cons_self;have O:nibs p:=fun y U=>z y (mem_cons_of_mem _ U);dsimp only;rw [Q4v u v ls G x H p,Q4x];refine Qao (by simp [G]) (by simp [hk]) (fun i l k D E=>?_);by_cases hi:i=x.toNat
   ·subst hi;rw [List.getElem?_set_self (by omega)] at D E;cases D;cases E;have I:ls[x.toNat]?=some (ls[x.toNat]'(by omega)):=getElem?_eq_getElem _;have J:ks[x.toNat]?=some (ks[x.toNat]'(by omega)):=getElem?_eq_getElem _;rw [I,J];exact ih _ _ _ I J p v O
   rw [getElem?_set_ne (fun e=>hi e.symm)] at D E;exact h i l k D E
theorem Q9d:∀ a:List UInt8,¬ ltP a a
 | []=>fun h=>h
 | x::a=>fun h=>by rcases h with h|⟨_,h⟩;exact Nat.lt_irrefl _ h;exact Q9d a h
theorem Qcc:∀ a b:List UInt8,ltP a b∨a=b∨ltP b a
 | [],[]=>.inr (.inl rfl)
 | [],_::_=>.inl trivial
 | _::_,[]=>.inr (.inr trivial)
 | x::a,y::b=>by
  rcases Nat.lt_trichotomy x.toNat y.toNat with h|h|h
  ·exact .inl (.inl h)
  ·have z:x=y:=UInt8.toNat_inj.1 h;subst z;rcases Qcc a b with h|h|h
   ·exact .inl (.inr ⟨rfl,h⟩)
   ·exact .inr (.inl (by rw [h]))
   exact .inr (.inr (.inr ⟨rfl,h⟩))
  exact .inr (.inr (.inl h))
theorem Qo0:∀ a b:List UInt8,Lib.compareBytes a b<0↔ltP a b
 | [],[]=>by simp [Lib.compareBytes,ltP]
 | [],_::_=>by simp [Lib.compareBytes,ltP]
 | _::_,[]=>by simp [Lib.compareBytes,ltP]
 | x::a,y::b=>by
  unfold Lib.compareBytes ltP;by_cases h1:x<y
  ·rw [if_pos h1];exact ⟨fun _=>.inl h1,fun _=>by omega⟩
  rw [if_neg h1];have D:¬ x.toNat<y.toNat:=h1;by_cases h2:y<x
  ·rw [if_pos h2];have z:y.toNat<x.toNat:=h2;constructor
   ·intro h;omega
   rintro (h|⟨h,_⟩)
   ·omega
   subst h;omega
  rw [if_neg h2,Qo0 a b];have z:¬ y.toNat<x.toNat:=h2;constructor
  ·intro h;exact .inr ⟨UInt8.toNat_inj.1 (by omega),h⟩
  rintro (h|⟨_,h⟩)
  ·omega
  exact h
def rtLt (x y:Rt):Bool:=decide (Lib.compareBytes x.1 y.1<0)
theorem Q82 (x y:Rt):rtLt x y=true↔ltP x.1 y.1:=by unfold rtLt;rw [decide_eq_true_iff,Qo0]
theorem Qbt (x y:Rt):rtLt x y=false↔¬ ltP x.1 y.1:=by rw [<-Q82];simp
theorem Qtg:Sort.SWO rtLt where
 irrefl x:=(Qbt _ _).2 (Q9d _)
 trans x y z h1 h2:=(Q82 _ _).2 (Q4z ((Q82 _ _).1 h1) ((Q82 _ _).1 h2))
 ntrans x y z h1 h2:=by
  rw [Qbt] at h1 h2 |-;intro h;rcases Qcc y.1 z.1 with D|D|D
  ·exact h2 D
  ·rw [<-D] at h;exact h1 h
  exact h1 (Q4z h D)
theorem Q88 (r:Rt):∀ l:List Rt,(insR r l).Perm (r::l)
 | []=>List.Perm.refl _
 | s::l=>by
  unfold insR;split
  ·exact List.Perm.refl _
  exact ((Q88 r l).cons s).trans (List.Perm.swap _ _ _)
theorem Qnd {r:Rt}:∀ {l:List Rt},Ord l->(∀ s∈l,s.1≠r.1)->Ord (insR r l)
 | [],_,_=>List.pairwise_singleton _ _
 | s::l,h,hn=>by
  have D:=pairwise_cons.1 h;unfold insR;split
  ·rename_i z;refine pairwise_cons.2 ⟨fun t y=>?_,h⟩;rcases mem_cons.1 y with rfl|y
   ·exact z
   exact Q4z z (D.1 t y)
  rename_i z;refine pairwise_cons.2 ⟨fun t y=>?_,Qnd D.2 (fun t y=>hn t (mem_cons_of_mem _ y))⟩;rcases mem_cons.1 ((Q88 r l).mem_iff.1 y) with rfl|y
  ·rcases Qcc s.1 t.1 with h|h|h
   ·exact h
   ·exact absurd h (hn s mem_cons_self)
   exact absurd h z
  exact D.1 t y
theorem Qhr {l:List Rt}(h:Ord l)(p v:List UInt8):Ord (Q1k l p v):=by
 unfold Q1k;have y:Ord (l.filter (fun r=>decide (r.1≠p))):=h.filter _;split
 ·exact y
 exact Qnd y (fun s z=>by simpa using (List.mem_filter.1 z).2)
theorem Qs4 {l m:List Rt}(I:Ord l)(S:m.Pairwise fun r s=>¬ ltP s.1 r.1)(J:m.Perm l):m=l:=by
 refine List.Perm.eq_of_pairwise (le:=fun r s=>¬ ltP s.1 r.1) ?_ S (I.imp fun h E=>Q9d _ (Q4z h E)) J;intro a b M O K E;have H:a.1=b.1:=by
  rcases Qcc a.1 b.1 with h|h|h
  ·exact absurd h E
  ·exact h
  exact absurd h K
 have N:=J.mem_iff.1 M;by_cases e:a=b
 ·exact e
 have T:∀ (l:List Rt),Ord l->a∈l->b∈l->False:=by
  intro l;induction l with
  | nil=>intro _ h;simp at h
  | cons s l ih =>
   intro h L G;have D:=pairwise_cons.1 h;rcases mem_cons.1 L with z|z
   ·rcases mem_cons.1 G with y|y
    ·exact e (z.trans y.symm)
    have:=D.1 b y;rw [<-z,H] at this;exact Q9d _ this
   rcases mem_cons.1 G with y|y
   ·have:=D.1 a z;rw [<-y,H] at this;exact Q9d _ this
   exact ih D.2 z y
 exact (T l I N O).elim
theorem Qf8 {d:Array Rt}(h:Sort.SortedIn rtLt 0 d.size d):d.toList.Pairwise fun r s=>¬ ltP s.1 r.1:=by
 rw [List.pairwise_iff_getElem];intro i j z y D;have:=h i j (Nat.zero_le _) D (by simpa using y);rw [Qbt,getElem!_pos d j (by simpa using y),getElem!_pos d i (by simpa using z)] at this;simpa using this
theorem Ql2 {l:List Rt}(h:Ord l)(p v:List UInt8){d y:Array Rt}(H:d.toList=l.filter (fun r=>decide (r.1≠p))++(if v=[] then [] else [(p,v)]))(z:Sort.PermIn 0 d.size d y)(D:Sort.SortedIn rtLt 0 d.size y):y.toList=Q1k l p v:=by
 have E:=z.1;rw [<-E] at D;refine Qs4 (Qhr h p v) (Qf8 D) ?_;have G:y.toList.Perm d.toList:=by
  have:=z.2.2;rw [Array.extract_size,<-E,Array.extract_size] at this;exact this
 refine G.trans ?_;rw [H];unfold Q1k;split
 ·rw [append_nil]
 exact List.perm_append_comm.trans (Q88 _ _).symm
mutual
def clN:Nd->Pn
 | .mk kd _ p _ v _ ks=>if kd=1 then .mk 1 p v [] else if kd=2 then .mk 2 p [] (clNL ks) else if kd=3 then .mk 3 [] v (clNL ks) else nP
def clNL:List Nd->List Pn
 | []=>[]
 | k::ks=>clN k::clNL ks
end
theorem Q1x (ks:List Nd):clNL ks=ks.map clN:=by
 induction ks with
 | nil=>rfl
 | cons k ks ih=>simp [clNL,ih]
theorem Qct (v:List UInt8)(ls:List (List Rt))(ks:List Pn)(M:ls.length=16)(hk:ks.length=16)(h:∀ (i:Nat) (l:List Rt) (k:Pn),ls[i]?=some l->ks[i]?=some k->Q1c l k)(hm:2<=min v.length 1+cntQ ks):2<=(bdP v ls).length/\fl (bdP v ls)=0:=by
 have kid:∀ (j:Nat) (k:Pn),ks[j]?=some k->k.kd≠0->∃ l,ls[j]?=some l/\l≠[]:=fun j k L a0=>by
  have a4:j<16:=by have:=(List.getElem?_eq_some_iff.1 L).1;omega
  have H:ls[j]?=some (ls[j]'(by omega)):=getElem?_eq_getElem _;exact ⟨_,H,(h j _ k H L).ne a0⟩
 have len:∀ (l:List Rt),l≠[]->1<=l.length:=fun l M=>length_pos_iff.2 M;have I:∀ (ls:List (List Rt)) (i j:Nat) (l:List Rt),ls[j]?=some l->l.length<=(cat i ls).length:=by
  intro ls;induction ls with
  | nil=>intro i j l h;simp at h
  | cons a ls ih =>
   intro i j l h;rw [cat,length_append,Q2b];cases j with
   | zero=>simp only [getElem?_cons_zero,Option.some.injEq] at h;subst h;omega
   | succ j=>have:=ih (i+1) j l h;omega
 have U:∀ (ls:List (List Rt)) (i j k:Nat) (l y:List Rt),j<k->ls[j]?=some l->ls[k]?=some y->l.length+y.length<=(cat i ls).length:=by
  intro ls;induction ls with
  | nil=>intro i j k l y _ h;simp at h
  | cons a ls ih =>
   intro i j k l y a5 h J;rw [cat,length_append,Q2b];cases k with
   | zero=>omega
   | succ k =>
    cases j with
    | zero =>
     simp only [getElem?_cons_zero,Option.some.injEq] at h;subst h;have:=I ls (i+1) k y J;omega
    | succ j=>have:=ih (i+1) j k l y (by omega) h J;omega
 by_cases hv:v=[]
 ·subst hv;obtain ⟨i,j,a,b,K,E,G,V,W⟩:=Qss (ks:=ks) (by simpa using hm);obtain ⟨S,z,D⟩:=kid i a E G;obtain ⟨T,N,O⟩:=kid j b V W;have hc:=U ls 0 i j S T K z N;have:=len S D;have:=len T O;have Z:bdP [] ls=cat 0 ls:=by unfold bdP;rw [if_pos rfl,nil_append]
  rw [Z];exact ⟨by omega,Qr9 (by omega) K z D N O⟩
 refine ⟨?_,Qu6 hv⟩;have a7:min v.length 1=1:=by have:0<v.length:=length_pos_iff.2 hv;omega
 obtain ⟨j,k,E,G⟩:=Qgd (ks:=ks) (by omega);obtain ⟨l,z,D⟩:=kid j k E G;have:=I ls 0 j l z;have:=len l D;unfold bdP;rw [if_neg hv,length_append,List.length_singleton];omega
theorem Qnk {l:List Rt}{t:Pn}(h:Q1c l t):∀ m,(∀ r∈l,r.1.length<m)->grw m l=t:=by
 induction h with
 | none=>intro m _;exact Q9m m
 | leaf p v hv hp =>
  intro m y;have:=y (p,v) (mem_singleton.2 rfl);cases m with
  | zero=>simp at this
  | succ m=>rfl
 | road p l k hp hn h hk ih =>
  intro m y;cases h with
  | none=>simp [nP,Pn.kd] at hk
  | leaf q u hu hq=>simp [Pn.kd] at hk
  | road q l2 k2 hq hn2 E hk2=>simp [Pn.kd] at hk
  | fork v ls ks hl hk3 h3 hm2 =>
   have D:bdP v ls≠[]:=(Q1c.fork v ls ks hl hk3 h3 hm2).ne (by simp [Pn.kd]);obtain ⟨E,H⟩:=Qct v ls ks hl hk3 h3 hm2;have S:0<p.length:=length_pos_iff.2 hp;cases m with
   | zero =>
    obtain ⟨r,z⟩:=List.exists_mem_of_ne_nil _ D;have:=y _ (Q4d z);omega
   | succ m =>
    have M:fl (pre p (bdP v ls))=p.length:=by rw [Qnq p _ D,H,Nat.add_zero]
    rw [Q4j m _ (by rw [Q2b];exact E),M,if_pos S,Q4b];have N:(hdP (pre p (bdP v ls))).1.take p.length=p:=by
     cases hb:bdP v ls with
     | nil=>exact absurd hb D
     | cons r l=>simp [pre,hdP]
    rw [N,ih m (fun r z=>by
     have:=y _ (Q4d (p:=p) z);simp only [length_append] at this;omega)]
 | fork v ls ks hl hk h y ih =>
  intro m J;have D:bdP v ls≠[]:=(Q1c.fork v ls ks hl hk h y).ne (by simp [Pn.kd]);obtain ⟨E,H⟩:=Qct v ls ks hl hk h y;cases m with
  | zero =>
   obtain ⟨r,z⟩:=List.exists_mem_of_ne_nil _ D;have:=J _ z;omega
  | succ m =>
   obtain ⟨K,L⟩:=Qo9 D;rw [Q4j m _ E,H,if_neg (by omega),K,L];congr 1;refine List.ext_getElem? fun i=>?_;by_cases hi:i<16
   ·have G:ls[i]?=some (ls[i]'(by omega)):=getElem?_eq_getElem _;have I:ks[i]?=some (ks[i]'(by omega)):=getElem?_eq_getElem _;rw [List.getElem?_map,List.getElem?_range hi,Option.map_some,Qfu hl,G,I,Option.getD_some,ih i _ _ G I m (fun r z=>?_)];have O:=Q4e (i:=0) G z;have:=J (UInt8.ofNat (0+i)::r.1,r.2) (by unfold bdP;exact List.mem_append_right _ O);simp only [length_cons] at this;omega
   rw [List.getElem?_eq_none (by simp;omega),List.getElem?_eq_none (by omega)]
mutual
def blkP:Pn->Nat
 | .mk _ p v ks=>1+p.length+v.length+Qad ks
def Qad:List Pn->Nat
 | []=>0
 | k::ks=>blkP k+Qad ks
end
mutual
theorem Qd7:∀ t:Nd,blkP (erN t)=Q15 t
 | .mk kd pv p vv v kv ks=>by simp only [erN,blkP,Q15,Qij ks]
theorem Qij:∀ ks:List Nd,Qad (erNL ks)=Q0v ks
 | []=>rfl
 | k::ks=>by simp only [erNL,Qad,Q0v,Qd7 k,Qij ks]
end
mutual
theorem Qp7:∀ t:Nd,Q20 t (erN t)=true
 | .mk kd pv p vv v kv ks=>by
  have:=Qdq ks;simp only [erN,Q20,this];simp
theorem Qdq:∀ ks:List Nd,Q3o ks (erNL ks)=true
 | []=>rfl
 | k::ks=>by simp only [erNL,Q3o,Qp7 k,Qdq ks];rfl
end
def wtR:List Rt->Nat
 | []=>0
 | r::l=>17+18*r.1.length+r.2.length+wtR l
theorem Qrj (l m:List Rt):wtR (l++m)=wtR l+wtR m:=by
 induction l with
 | nil=>simp [wtR]
 | cons r l ih=>simp only [List.cons_append,wtR,ih];omega
theorem Qka (p:List UInt8)(l:List Rt):wtR (pre p l)=wtR l+18*p.length*l.length:=by
 induction l with
 | nil=>simp [wtR,pre]
 | cons r l ih =>
  have:pre p (r::l)=(p++r.1,r.2)::pre p l:=rfl;rw [this];simp only [wtR,ih,length_append,length_cons,Nat.mul_add];omega
theorem Qkb:∀ (ls:List (List Rt))(ks:List Pn)(i:Nat),ls.length=ks.length->(∀ (i:Nat) (l:List Rt) (k:Pn),ls[i]?=some l->ks[i]?=some k->blkP k<=1+wtR l)->Qad ks+18*(cat i ls).length<=ks.length+wtR (cat i ls)
 | [],[],i,_,_=>by simp [Qad,cat,wtR]
 | [],k::ks,i,h,_=>by simp at h
 | l::ls,[],i,h,_=>by simp at h
 | l::ls,k::ks,i,h,hh=>by
  have G:=hh 0 l k rfl rfl;have H:=Qkb ls ks (i+1) (by simpa using h) (fun j E D y z=>hh (j+1) E D (by simpa using y) (by simpa using z));simp only [cat,Qad,Qrj,Qka,length_append,length_cons,Q2b,length_nil];omega
theorem Qnl {l:List Rt}{T:Pn}(h:Q1c l T):blkP T<=1+wtR l:=by
 induction h with
 | none=>simp [nP,blkP,Qad,wtR]
 | leaf p v hv hp=>simp only [blkP,Qad,wtR];omega
 | road p l k hp hn h hk ih =>
  have z:0<l.length:=length_pos_iff.2 (h.ne (by omega));have y:0<p.length:=length_pos_iff.2 hp;simp only [blkP,Qad,Qka,length_nil];have D:18*p.length<=18*p.length*l.length:=Nat.le_mul_of_pos_right _ z;omega
 | fork v ls ks hl hk h hm ih =>
  have z:=Qkb ls ks 0 (by omega) ih;have y:=(Qct v ls ks hl hk h hm).1;simp only [blkP,length_nil];unfold bdP at y |-;by_cases hv:v=[]
  ·subst hv;rw [if_pos rfl,nil_append] at y |-;simp only [length_nil];omega
  rw [if_neg hv] at y |-;simp only [List.singleton_append,wtR,length_nil,length_cons] at y |-;omega
theorem Qt3 {l:List Rt}(h:∀ r∈l,r.1.length<=64/\r.2.length<=1024):wtR l<=2200*l.length:=by
 induction l with
 | nil=>simp [wtR]
 | cons r l ih =>
  have z:=h r mem_cons_self;have D:=ih (fun s y=>h s (mem_cons_of_mem _ y));simp only [wtR,length_cons];omega
mutual
def getP:Nd->List UInt8->List UInt8
 | .mk kd _ p _ v _ ks,q =>
  if kd=1 then (if p=q then v else [])
  else if kd=2 then (if com p q=p.length then getL ks 0 (q.drop p.length) else [])
  else if kd=3 then (match q with
   | []=>v
   | x::q=>getL ks x.toNat q)
  else []
def getL:List Nd->Nat->List UInt8->List UInt8
 | [],_,_=>[]
 | k::_,0,q=>getP k q
 | _::ks,i+1,q=>getL ks i q
end
mutual
def nv:Nd->Value
 | .mk kd pv _ vv _ _ ks=>if kd=1 then .iface 182 (.agg #[pv,vv]) else if kd=2 then .iface 185 (.agg #[pv,(nvL ks).headD .nilIface]) else if kd=3 then .iface 189 (.agg (nvL ks++[vv]).toArray) else .nilIface
def nvL:List Nd->List Value
 | []=>[]
 | k::ks=>nv k::nvL ks
end
theorem Q1s (ks:List Nd):nvL ks=ks.map nv:=by
 induction ks with
 | nil=>rfl
 | cons k ks ih=>simp [nvL,ih]
theorem Q6m (t:Nd):nv t=.nilIface∨∃ ty x,nv t=.iface ty x:=by
 obtain ⟨kd,y,p,z,v,h,ks⟩:=t;unfold nv;split
 ·exact .inr ⟨_,_,rfl⟩
 split
 ·exact .inr ⟨_,_,rfl⟩
 split
 ·exact .inr ⟨_,_,rfl⟩
 exact .inl rfl
theorem Qc5 {t:Nd}(h:t.kd=3):∃ x,nv t=.iface 189 x:=by
 obtain ⟨kd,z,p,D,v,y,ks⟩:=t;change kd=3 at h;subst h;exact ⟨_,by unfold nv;rfl⟩
theorem Q23:Agg Tryz.prog 189 17:=⟨_,Tryz.underlying189,rfl,by kernel_rfl⟩
theorem Qsy (x:Value)(W:World):(Instr.typeAssert (.iface 182 x) 143 182 true).run Tryz.prog W=.ok (.tuple #[x,.bool true]) W:=by kernel_rfl
theorem Que (x:Value)(W:World):(Instr.typeAssert (.iface 185 x) 143 182 true).run Tryz.prog W=.ok (.tuple #[.agg #[.slice none 0 0,.slice none 0 0],.bool false]) W:=by kernel_rfl
theorem Qsx (x:Value)(W:World):(Instr.typeAssert (.iface 189 x) 143 182 true).run Tryz.prog W=.ok (.tuple #[.agg #[.slice none 0 0,.slice none 0 0],.bool false]) W:=by kernel_rfl
theorem Qsz (W:World):(Instr.typeAssert .nilIface 143 182 true).run Tryz.prog W=.ok (.tuple #[.agg #[.slice none 0 0,.slice none 0 0],.bool false]) W:=by kernel_rfl
theorem Qud (x:Value)(W:World):(Instr.typeAssert (.iface 185 x) 143 185 true).run Tryz.prog W=.ok (.tuple #[x,.bool true]) W:=by kernel_rfl
theorem Qsw (x:Value)(W:World):(Instr.typeAssert (.iface 189 x) 143 185 true).run Tryz.prog W=.ok (.tuple #[.agg #[.slice none 0 0,.nilIface],.bool false]) W:=by kernel_rfl
theorem Quf (W:World):(Instr.typeAssert .nilIface 143 185 true).run Tryz.prog W=.ok (.tuple #[.agg #[.slice none 0 0,.nilIface],.bool false]) W:=by kernel_rfl
theorem Qsv (x:Value)(W:World):(Instr.typeAssert (.iface 189 x) 143 189 true).run Tryz.prog W=.ok (.tuple #[x,.bool true]) W:=by kernel_rfl
def SlG (l:List UInt8):Ty:=fun v w=>∃ (a:Option Addr) (n c:Nat),v=.slice a n c/\Q02 w (.slice a n c) l
theorem SlG.mono (l:List UInt8):Mono (SlG l):=fun _ _ _ ⟨a,n,c,h,h2⟩ hb=>⟨a,n,c,h,h2.below hb⟩
theorem Q1m {B:Nat}{a w:World}(h:Below B a w)(n:Nat):Below B a (w.drewN n):=h.trans ⟨rfl,rfl,rfl,Nat.le_refl _,fun _ _=>rfl⟩
end Go.Proofs.YtbdmkfjgnjfjbaaGreat
