/- Putting into a tree of routes: plain Lean. | Putting into a tree is putting into its routes: plain Lean. | Routes in order: what sorting a put one gives. Plain  -/
import Derived.Test.YtbdmkfjgnjfjbaaGreatLazyServesK03
import Derived.Lib.Bytealg
import Derived.Sort.Statements
import Derived.Test.YtbdmkfjgnjfjbaaGreatLazyServesK09
set_option linter.unusedSimpArgs false
set_option linter.unusedVariables false
set_option maxHeartbeats 4000000
set_option maxRecDepth 100000
namespace Go.Proofs.YtbdmkfjgnjfjbaaGreat
open Go.RowKit
def nP:Pn:=.mk 0 [] [] []
def Pn.kd:Pn→Int
 | .mk kd _ _ _=>kd
def Pn.val:Pn→List UInt8
 | .mk _ _ v _=>v
def nibs (p:List UInt8):Prop:=∀ x∈p,x.toNat<16
def Q0o (p:List UInt8):Pn→Pn
 | .mk kd q u ks=>if p=[] then .mk kd q u ks
  else if kd=1 then .mk 1 (p++q) u []
  else if kd=2 then .mk 2 (p++q) [] ks
  else if kd=3 then .mk 2 p [] [.mk kd q u ks]
  else nP
def cntQ:List Pn→Nat
 | []=>0
 | k::ks=>(if k.kd=0 then 0 else 1)+cntQ ks
def lastQ:List Pn→Nat→Nat→Nat
 | [],_,a=>a
 | k::ks,i,a=>lastQ ks (i+1) (if k.kd=0 then a else i)
def tidyQ (v:List UInt8)(ks:List Pn):Pn :=
 if 2≤min v.length 1+cntQ ks then .mk 3 [] v ks
 else if min v.length 1+cntQ ks=0 then nP
 else if 0<v.length then .mk 1 [] v []
 else Q0o [UInt8.ofNat (lastQ ks 0 0)] (ks[lastQ ks 0 0]?.getD nP)
def withQ (p:List UInt8)(a:Pn):List UInt8 × List Pn:=match p with
 | []=>(if a.kd=1 then a.val else [],List.replicate 16 nP)
 | x::r=>([],(List.replicate 16 nP).set x.toNat (Q0o r a))
def partQ (c:Nat)(q:List UInt8)(a:Pn)(p v:List UInt8):Pn :=
 Q0o (q.take c) (.mk 3 [] (if p.length=c then v else (withQ (q.drop c) a).1) (if p.length=c then (withQ (q.drop c) a).2 else (withQ (q.drop c) a).2.set (p[c]?.getD 0).toNat (.mk 1 (p.drop (c+1)) v [])))
mutual
def putQ:Pn→List UInt8→List UInt8→Pn
 | .mk kd q u ks,p,v =>
  if kd=1 then
   if com q p=p.length∧com q p=q.length then (if v=[] then nP else .mk 1 p v [])
   else if v=[] then .mk 1 q u []
   else partQ (com q p) q (.mk 1 [] u []) p v
  else if kd=2 then
   if com q p=q.length then Q0o q ((putQL ks 0 (p.drop (com q p)) v)[0]?.getD nP)
   else if v=[] then .mk 2 q [] ks
   else partQ (com q p) q (ks[0]?.getD nP) p v
  else if kd=3 then (match p with
   | []=>tidyQ v ks
   | x::p=>tidyQ u (putQL ks x.toNat p v))
  else if v=[] then nP else .mk 1 p v []
def putQL:List Pn→Nat→List UInt8→List UInt8→List Pn
 | [],_,_,_=>[]
 | k::ks,0,p,v=>putQ k p v::ks
 | k::ks,i+1,p,v=>k::putQL ks i p v
end
theorem Q3b:∀ (ks:List Pn)(i:Nat)(p v:List UInt8),putQL ks i p v=ks.set i (putQ (ks[i]?.getD nP) p v)
 | [],i,p,v=>by simp [putQL]
 | k::ks,0,p,v=>by simp [putQL]
 | k::ks,i+1,p,v=>by simp only [putQL,Q3b ks i p v];rfl
inductive Grows:List Rt→Pn→Prop where
 | none:Grows [] nP
 | leaf (p v:List UInt8) (hv:v≠[]) (hp:nibs p):Grows [(p,v)] (.mk 1 p v [])
 | road (p:List UInt8) (l:List Rt) (k:Pn) (hp:p≠[]) (hn:nibs p) (h:Grows l k) (hk:k.kd=3):Grows (pre p l) (.mk 2 p [] [k])
 | fork (v:List UInt8) (ls:List (List Rt)) (ks:List Pn) (hl:ls.length=16) (hk:ks.length=16) (h:∀ (i:Nat) (l:List Rt) (k:Pn),ls[i]?=some l→ks[i]?=some k→Grows l k) (hm:2≤min v.length 1+cntQ ks):Grows (bdP v ls) (.mk 3 [] v ks)
theorem Qbu {ks:List Pn}(h:1≤cntQ ks):∃ (j:Nat) (k:Pn),ks[j]?=some k∧k.kd≠0:=by
 induction ks with
 | nil=>simp [cntQ] at h
 | cons k ks ih =>
  by_cases hk:k.kd=0
  ·simp only [cntQ,if_pos hk,Nat.zero_add] at h
   obtain ⟨j,a,h1,h2⟩:=ih h
   exact ⟨j+1,a,h1,h2⟩
  ·exact ⟨0,k,rfl,hk⟩
theorem Qlx {ks:List Pn}(h:2≤cntQ ks):∃ (i j:Nat) (a b:Pn),i<j∧ks[i]?=some a∧a.kd≠0∧ks[j]?=some b∧b.kd≠0:=by
 induction ks with
 | nil=>simp [cntQ] at h
 | cons k ks ih =>
  by_cases hk:k.kd=0
  ·simp only [cntQ,if_pos hk,Nat.zero_add] at h
   obtain ⟨i,j,a,b,h1,h2,h3,h4,h5⟩:=ih h
   exact ⟨i+1,j+1,a,b,by omega,h2,h3,h4,h5⟩
  ·simp only [cntQ,if_neg hk] at h
   obtain ⟨j,b,h1,h2⟩:=Qbu (ks:=ks) (by omega)
   exact ⟨0,j+1,k,b,by omega,rfl,hk,h1,h2⟩
theorem Q8z {ks:List Pn}(h:cntQ ks=0):∀ (i:Nat) (k:Pn),ks[i]?=some k→k.kd=0:=by
 induction ks with
 | nil=>intro i k h;simp at h
 | cons a ks ih =>
  simp only [cntQ] at h
  intro i k hk
  cases i with
  | zero =>
   simp only [List.getElem?_cons_zero,Option.some.injEq] at hk
   subst hk
   by_cases h0:a.kd=0
   ·exact h0
   ·rw [if_neg h0] at h;omega
  | succ i=>exact ih (by omega) i k hk
theorem Q90 {ks:List Pn}{i:Nat}{a k:Pn}(h:ks[i]?=some a)(ha:a.kd=0)(hk:k.kd≠0):cntQ (ks.set i k)=cntQ ks+1:=by
 induction ks generalizing i with
 | nil=>simp at h
 | cons x ks ih =>
  cases i with
  | zero =>
   simp only [List.getElem?_cons_zero,Option.some.injEq] at h
   subst h
   simp only [List.set_cons_zero,cntQ,if_neg hk,if_pos ha];omega
  | succ i =>
   simp only [List.set_cons_succ,cntQ]
   rw [ih h];omega
theorem Qbt (n:Nat):cntQ (List.replicate n nP)=0:=by
 induction n with
 | zero=>rfl
 | succ n ih=>rw [List.replicate_succ,cntQ,ih];rfl
theorem Qm0 (n i:Nat):cat i (List.replicate n [])=[]:=by
 induction n generalizing i with
 | zero=>rfl
 | succ n ih=>rw [List.replicate_succ,cat,ih];rfl
theorem cat_ne {ls:List (List Rt)}{j:Nat}{l:List Rt}(h:ls[j]?=some l)(hl:l≠[]):∀ i,cat i ls≠[]:=fun i e=>hl ((Q2f ls i).1 e l (List.mem_of_getElem? h))
theorem bd_ne {v:List UInt8}{ls:List (List Rt)}(h:v≠[]∨cat 0 ls≠[]):bdP v ls≠[]:=by
 unfold bdP
 rcases h with h|h
 ·rw [if_neg h];simp
 ·simp [h]
theorem Grows.kd {l:List Rt}{t:Pn}(h:Grows l t):(t.kd=0→l=[])∧(l=[]→t=nP)∧(t.kd=0∨t.kd=1∨t.kd=2∨t.kd=3):=by
 induction h with
 | none=>exact ⟨fun _=>rfl,fun _=>rfl,.inl rfl⟩
 | leaf p v hv hp=>exact ⟨fun h=>by simp [Pn.kd] at h,fun h=>by simp at h,.inr (.inl rfl)⟩
 | road p l k hp hn h hk ih =>
  refine ⟨fun h=>by simp [Pn.kd] at h,fun e=>?_,.inr (.inr (.inl rfl))⟩
  have hl:l=[]:=by
   cases l with
   | nil=>rfl
   | cons r l=>simp [pre] at e
  have:=ih.2.1 hl
  rw [this] at hk;simp [nP,Pn.kd] at hk
 | fork v ls ks hl hk h hm ih =>
  refine ⟨fun h=>by simp [Pn.kd] at h,fun e=>?_,.inr (.inr (.inr rfl))⟩
  exfalso
  refine bd_ne (v:=v) (ls:=ls) ?_ e
  by_cases hv:v=[]
  ·subst hv
   obtain ⟨j,k,h1,h2⟩:=Qbu (ks:=ks) (by simp at hm;omega)
   have hj:j<16:=by have:=(List.getElem?_eq_some_iff.1 h1).1;omega
   have hlj:ls[j]?=some (ls[j]'(by omega)):=List.getElem?_eq_getElem _
   refine .inr (cat_ne hlj (fun e=>h2 ?_) 0)
   rw [(ih j _ k hlj h1).2.1 e];rfl
  ·exact .inl hv
theorem Grows.ne {l:List Rt}{t:Pn}(h:Grows l t)(hk:t.kd≠0):l≠[]:=fun e=>hk (by rw [h.kd.2.1 e];rfl)
theorem Grows.kd0 {l:List Rt}{t:Pn}(h:Grows l t)(hl:l≠[]):t.kd≠0:=fun e=>hl (h.kd.1 e)
theorem Qd5 {p q:List UInt8}:nibs (p++q)↔nibs p∧nibs q:=by
 unfold nibs
 constructor
 ·exact fun h=>⟨fun x hx=>h x (List.mem_append_left _ hx),fun x hx=>h x (List.mem_append_right _ hx)⟩
 ·rintro ⟨h1,h2⟩ x hx
  rcases List.mem_append.1 hx with hx|hx
  ·exact h1 x hx
  ·exact h2 x hx
theorem Grows.behind {l:List Rt}{t:Pn}(h:Grows l t){p:List UInt8}(hp:nibs p):Grows (pre p l) (Q0o p t):=by
 by_cases h0:p=[]
 ·subst h0
  obtain ⟨kd,q,u,ks⟩:=t
  rw [Qb8]
  simp only [Q0o]
  rw [if_pos trivial];exact h
 ·cases h with
  | none=>simp only [Q0o,nP];rw [if_neg h0];exact .none
  | leaf q v hv hq=>simp only [Q0o];rw [if_neg h0,if_pos trivial];exact .leaf _ _ hv (Qd5.2 ⟨hp,hq⟩)
  | road q l k hq hn h hk =>
   simp only [Q0o]
   rw [if_neg h0,if_neg (by decide),if_pos trivial,Q4s]
   exact .road _ _ _ (by simp [h0]) (Qd5.2 ⟨hp,hn⟩) h hk
  | fork v ls ks hl hk h hm =>
   simp only [Q0o]
   rw [if_neg h0,if_neg (by decide),if_neg (by decide),if_pos trivial]
   exact .road _ _ _ h0 hp (.fork v ls ks hl hk h hm) rfl
theorem Qhb:∀ (ks:List Pn)(i a:Nat),cntQ ks=0→lastQ ks i a=a
 | [],i,a,_=>rfl
 | k::ks,i,a,h=>by
  simp only [cntQ] at h
  have hk:k.kd=0:=by
   by_cases h0:k.kd=0
   ·exact h0
   ·rw [if_neg h0] at h;omega
  simp only [lastQ,if_pos hk]
  exact Qhb ks (i+1) a (by omega)
theorem Qda:∀ (ks:List Pn)(i a:Nat),cntQ ks=1→∃ j k,lastQ ks i a=i+j∧ks[j]?=some k∧k.kd≠0∧∀ (m:Nat) (b:Pn),m≠j→ks[m]?=some b→b.kd=0
 | [],i,a,h=>by simp [cntQ] at h
 | k::ks,i,a,h=>by
  simp only [cntQ] at h
  by_cases h0:k.kd=0
  ·rw [if_pos h0] at h
   obtain ⟨j,b,h1,h2,h3,h4⟩:=Qda ks (i+1) a (by omega)
   refine ⟨j+1,b,by simp only [lastQ,if_pos h0];rw [h1];omega,h2,h3,fun m c hm hc=>?_⟩
   cases m with
   | zero=>simp only [List.getElem?_cons_zero,Option.some.injEq] at hc;subst hc;exact h0
   | succ m=>exact h4 m c (by omega) hc
  ·rw [if_neg h0] at h
   refine ⟨0,k,by simp only [lastQ,if_neg h0];rw [Qhb ks _ _ (by omega)];rfl,rfl,h0,fun m c hm hc=>?_⟩
   cases m with
   | zero=>exact absurd rfl hm
   | succ m=>exact Q8z (by omega) m c hc
theorem Qbv:∀ (ls:List (List Rt))(i j:Nat)(l:List Rt),ls[j]?=some l→(∀ (m:Nat) (b:List Rt),m≠j→ls[m]?=some b→b=[])→cat i ls=pre [UInt8.ofNat (i+j)] l
 | [],i,j,l,h,_=>by simp at h
 | a::ls,i,0,l,h,hz=>by
  simp only [List.getElem?_cons_zero,Option.some.injEq] at h
  subst h
  have:cat (i+1) ls=[]:=(Q2f ls _).2 (fun b hb=>by
   obtain ⟨m,hm,rfl⟩:=List.mem_iff_getElem.1 hb
   exact hz (m+1) _ (by omega) (by simp [hm]))
  rw [cat,this,List.append_nil];rfl
 | a::ls,i,j+1,l,h,hz=>by
  have ha:a=[]:=hz 0 a (by omega) rfl
  subst ha
  have:=Qbv ls (i+1) j l h (fun m b hm hb=>hz (m+1) b (by omega) hb)
  rw [cat,this,show i+1+j=i+(j+1) by omega];rfl
theorem Q78 {v:List UInt8}{ls:List (List Rt)}{ks:List Pn}(hl:ls.length=16)(hk:ks.length=16)(h:∀ (i:Nat) (l:List Rt) (k:Pn),ls[i]?=some l→ks[i]?=some k→Grows l k):Grows (bdP v ls) (tidyQ v ks):=by
 have hat:∀ i (hi:i<16),ls[i]?=some (ls[i]'(by omega)):=fun i hi=>List.getElem?_eq_getElem _
 have kat:∀ i (hi:i<16),ks[i]?=some (ks[i]'(by omega)):=fun i hi=>List.getElem?_eq_getElem _
 unfold tidyQ
 by_cases h2:2≤min v.length 1+cntQ ks
 ·rw [if_pos h2];exact .fork v ls ks hl hk h h2
 ·rw [if_neg h2]
  by_cases h0:min v.length 1+cntQ ks=0
  ·rw [if_pos h0]
   have hv:v=[]:=by
    cases v with
    | nil=>rfl
    | cons _ _=>simp at h0
   have hc:=Q8z (ks:=ks) (by omega)
   have:bdP v ls=[]:=by
    unfold bdP
    rw [if_pos hv,List.nil_append]
    refine (Q2f ls 0).2 (fun b hb=>?_)
    obtain ⟨m,hm,rfl⟩:=List.mem_iff_getElem.1 hb
    exact (h m _ _ (hat m (by omega)) (kat m (by omega))).kd.1 (hc m _ (kat m (by omega)))
   rw [this];exact .none
  ·rw [if_neg h0]
   by_cases hv:0<v.length
   ·rw [if_pos hv]
    have hvn:v≠[]:=fun e=>by rw [e] at hv;simp at hv
    have hc:=Q8z (ks:=ks) (by omega)
    have:bdP v ls=[([],v)]:=by
     unfold bdP
     rw [if_neg hvn,(Q2f ls 0).2 (fun b hb=>by
      obtain ⟨m,hm,rfl⟩:=List.mem_iff_getElem.1 hb
      exact (h m _ _ (hat m (by omega)) (kat m (by omega))).kd.1 (hc m _ (kat m (by omega))))]
     rfl
    rw [this];exact .leaf [] v hvn (by intro x hx;simp at hx)
   ·rw [if_neg hv]
    have hv0:v=[]:=List.eq_nil_of_length_eq_zero (by omega)
    obtain ⟨j,k,h1,h3,h4,h5⟩:=Qda ks 0 0 (by omega)
    rw [h1,Nat.zero_add,h3]
    have hj:j<16:=by have:=(List.getElem?_eq_some_iff.1 h3).1;omega
    have hb:bdP v ls=pre [UInt8.ofNat j] (ls[j]'(by omega)):=by
     unfold bdP
     rw [if_pos hv0,List.nil_append,Qbv ls 0 j _ (hat j hj) (fun m b hm hb=>?_),Nat.zero_add]
     have hm16:m<16:=by have:=(List.getElem?_eq_some_iff.1 hb).1;omega
     exact (h m b _ hb (kat m hm16)).kd.1 (h5 m _ hm (kat m hm16))
    rw [hb]
    refine (h j _ k (hat j hj) h3).behind ?_
    intro x hx
    rw [List.mem_singleton] at hx
    subst hx
    rw [Q12 (by omega)];exact hj
instance decLt:∀ p q:List UInt8,Decidable (ltP p q)
 | [],[]=>isFalse (fun h=>h)
 | [],_::_=>isTrue trivial
 | _::_,[]=>isFalse (fun h=>h)
 | x::p,y::q=>by
  have:=decLt p q
  unfold ltP
  infer_instance
def insR (r:Rt):List Rt→List Rt
 | []=>[r]
 | s::l=>if ltP r.1 s.1 then r::s::l else s::insR r l
def rputP (l:List Rt)(p v:List UInt8):List Rt:=if v=[] then l.filter (fun r=>decide (r.1≠p)) else insR (p,v) (l.filter (fun r=>decide (r.1≠p)))
theorem Qh7 (a p q:List UInt8):ltP (a++p) (a++q)↔ltP p q:=by
 induction a with
 | nil=>exact Iff.rfl
 | cons x a ih =>
  refine ⟨fun h=>?_,fun h=>.inr ⟨rfl,ih.2 h⟩⟩
  rcases h with h|h
  ·omega
  ·exact ih.1 h.2
theorem Q7q (a:List UInt8)(l:List Rt)(p:List UInt8):(pre a l).filter (fun r=>decide (r.1≠a++p))=pre a (l.filter (fun r=>decide (r.1≠p))):=by
 unfold pre
 rw [List.filter_map]
 congr 1
 refine List.filter_congr (fun r _=>?_)
 simp
theorem Qbj (a p v:List UInt8):∀ l:List Rt,insR (a++p,v) (pre a l)=pre a (insR (p,v) l)
 | []=>rfl
 | s::l=>by
  show (if ltP (a++p) (a++s.1) then _ else _)=_
  rw [insR]
  by_cases h:ltP p s.1
  ·rw [if_pos ((Qh7 a p s.1).2 h),if_pos h];rfl
  ·rw [if_neg (fun e=>h ((Qh7 a p s.1).1 e)),if_neg h]
   show _::insR (a++p,v) (pre a l)=_
   rw [Qbj a p v l];rfl
theorem Qcn (a:List UInt8)(l:List Rt)(p v:List UInt8):rputP (pre a l) (a++p) v=pre a (rputP l p v):=by
 unfold rputP
 rw [Q7q]
 split
 ·rfl
 ·rw [Qbj]
theorem Q8r {r:Rt}:∀ {A B:List Rt},(∀ s∈B,ltP r.1 s.1)→insR r (A++B)=insR r A++B
 | [],[],_=>rfl
 | [],s::B,h=>by
  show (if ltP r.1 s.1 then _ else _)=_
  rw [if_pos (h s List.mem_cons_self)];rfl
 | a::A,B,h=>by
  show (if ltP r.1 a.1 then _ else _)=(if ltP r.1 a.1 then _ else _)++B
  split
  ·rfl
  ·show a::insR r (A++B)=_
   rw [Q8r h];rfl
theorem Q6b {r:Rt}:∀ {A B:List Rt},(∀ s∈A,¬ ltP r.1 s.1)→insR r (A++B)=A++insR r B
 | [],B,_=>rfl
 | a::A,B,h=>by
  show (if ltP r.1 a.1 then _ else _)=_
  rw [if_neg (h a List.mem_cons_self)]
  show a::insR r (A++B)=_
  rw [Q6b (fun s hs=>h s (List.mem_cons_of_mem _ hs))];rfl
theorem Q2s {l:List Rt}{p:List UInt8}(h:∀ r∈l,r.1≠p):l.filter (fun r=>decide (r.1≠p))=l:=by
 rw [List.filter_eq_self]
 intro r hr
 simpa using h r hr
theorem Qd1 {i:Nat}{x:UInt8}(hi:i<256)(h:i≠x.toNat):UInt8.ofNat i≠x:=fun e=>h (by rw [←e,Q12 hi])
theorem Qcp:∀ (ls:List (List Rt))(i:Nat)(x:UInt8)(p v:List UInt8),i≤x.toNat→x.toNat<i+ls.length→i+ls.length≤256→rputP (cat i ls) (x::p) v=cat i (ls.set (x.toNat - i) (rputP (ls[x.toNat - i]?.getD []) p v))
 | [],i,x,p,v,h1,h2,_=>by simp at h2;omega
 | l::ls,i,x,p,v,h1,h2,h3=>by
  simp only [List.length_cons] at h2 h3
  by_cases hi:i=x.toNat
  ·have hx:UInt8.ofNat i=x:=by rw [hi];simp
   have h0:x.toNat - i=0:=by omega
   have hB:∀ s∈cat (i+1) ls,ltP (x::p) s.1:=fun s hs=>by
    obtain ⟨j,m,_,s',_,rfl⟩:=Q2g hs
    have hj:j<ls.length:=(List.getElem?_eq_some_iff.1 (by assumption)).1
    refine .inl ?_
    rw [Q12 (by omega)];omega
   have hF:(cat (i+1) ls).filter (fun r=>decide (r.1≠x::p))=cat (i+1) ls:=Q2s (fun r hr e=>by
    have:=hB r hr
    rw [e] at this
    have hirr:∀ q:List UInt8,¬ ltP q q:=fun q=>by
     induction q with
     | nil=>exact fun h=>h
     | cons y q ih =>
      intro h
      rcases h with h|h
      ·omega
      ·exact ih h.2
    exact hirr _ this)
   rw [h0,List.set_cons_zero,List.getElem?_cons_zero,Option.getD_some,cat,cat,hx]
   unfold rputP
   rw [List.filter_append,hF]
   have hfp:=Q7q [x] l p
   simp only [List.singleton_append] at hfp
   rw [hfp]
   split
   ·rfl
   ·rw [Q8r hB]
    have:=Qbj [x] p v (l.filter (fun r=>decide (r.1≠p)))
    simp only [List.singleton_append] at this
    rw [this]
  ·have h0:x.toNat - i=(x.toNat - (i+1))+1:=by omega
   have ih:=Qcp ls (i+1) x p v (by omega) (by omega) (by omega)
   rw [h0,List.set_cons_succ,List.getElem?_cons_succ,cat,cat,←ih]
   have hA:∀ s∈pre [UInt8.ofNat i] l,¬ ltP (x::p) s.1∧s.1≠x::p:=fun s hs=>by
    obtain ⟨r,_,rfl⟩:=Q60 hs
    refine ⟨fun h=>?_,fun e=>?_⟩
    ·rcases h with h|h
     ·rw [Q12 (by omega)] at h;omega
     ·exact Qd1 (by omega) hi h.1.symm
    ·exact Qd1 (by omega) hi (List.cons.inj e).1
   unfold rputP
   rw [List.filter_append,Q2s (fun r hr=>(hA r hr).2)]
   split
   ·rfl
   ·rw [Q6b (fun s hs=>(hA s hs).1)]
theorem Q5x (u v:List UInt8)(ls:List (List Rt)):rputP (bdP u ls) [] v=bdP v ls:=by
 have hne:∀ s∈cat 0 ls,s.1≠[]∧ltP [] s.1:=fun s hs=>by
  obtain ⟨j,m,_,s',_,rfl⟩:=Q2g hs
  exact ⟨by simp,trivial⟩
 have hf:(bdP u ls).filter (fun r=>decide (r.1≠[]))=cat 0 ls:=by
  unfold bdP
  rw [List.filter_append,Q2s (fun r hr=>(hne r hr).1)]
  split
  ·rfl
  ·simp
 unfold rputP
 rw [hf]
 split
 ·rename_i h
  unfold bdP
  rw [if_pos h];rfl
 ·rename_i h
  have:=Q8r (r:=([],v)) (A:=[]) (B:=cat 0 ls) (fun s hs=>(hne s hs).2)
  rw [List.nil_append] at this
  rw [this]
  unfold bdP
  rw [if_neg h];rfl
theorem Q3a (u v:List UInt8)(ls:List (List Rt))(hl:ls.length=16)(x:UInt8)(hx:x.toNat<16)(p:List UInt8):rputP (bdP u ls) (x::p) v=bdP u (ls.set x.toNat (rputP (ls[x.toNat]?.getD []) p v)):=by
 have hc:=Qcp ls 0 x p v (by omega) (by omega) (by omega)
 rw [Nat.sub_zero] at hc
 unfold bdP
 rw [←hc]
 by_cases hu:u=[]
 ·rw [if_pos hu,List.nil_append,List.nil_append]
 ·rw [if_neg hu]
  unfold rputP
  rw [List.filter_append]
  have h1:([([],u)]:List Rt).filter (fun r=>decide (r.1≠x::p))=[([],u)]:=Q2s (fun r hr=>by rw [List.mem_singleton] at hr;subst hr;simp)
  rw [h1]
  split
  ·rfl
  ·rw [Q6b (fun s hs=>by rw [List.mem_singleton] at hs;subst hs;exact fun h=>h)]
theorem pre_bd (y:UInt8)(hy:y.toNat<16)(q:List UInt8)(l:List Rt):pre (y::q) l=bdP [] ((List.replicate 16 []).set y.toNat (pre q l)):=by
 unfold bdP
 rw [if_pos rfl,List.nil_append,Qbv _ 0 y.toNat (pre q l) (by rw [List.getElem?_set_self (by simpa using hy)]) (fun m b hm hb=>by
  rw [List.getElem?_set_ne (fun e=>hm e.symm)] at hb
  exact (List.eq_of_mem_replicate (List.mem_of_getElem? hb))),Q4s]
 simp
theorem rep_at {α:Type}{n i:Nat}{a b:α}(h:(List.replicate n a)[i]?=some b):b=a:=List.eq_of_mem_replicate (List.mem_of_getElem? h)
theorem Q5w (p v:List UInt8)(hv:v≠[]):rputP [] p v=[(p,v)]:=by
 unfold rputP
 rw [if_neg hv];rfl
theorem Qag {q p:List UInt8}{c:Nat}(hc:c=com q p):q=q.take c++q.drop c∧p=q.take c++p.drop c∧com (q.drop c) (p.drop c)=0:=by
 have h1:=Q5j (p:=q) (q:=p) (c:=c) (by omega)
 have e1:q=q.take c++q.drop c:=(List.take_append_drop c q).symm
 have e2:p=q.take c++p.drop c:=by rw [←h1.1];exact (List.take_append_drop c p).symm
 refine ⟨e1,e2,?_⟩
 have h2:=Q8y (q.take c) (q.drop c) (p.drop c)
 rw [←e1,←e2,List.length_take,←hc] at h2
 have:=h1.2.1
 omega
theorem Q7b {la:List Rt}{a:Pn}(ha:Grows la a)(ha0:a.kd≠0){q p v:List UInt8}(hq:nibs q)(hp:nibs p)(hv:v≠[])(c:Nat)(hc:c=com q p)(hcase:c<q.length∨(c=q.length∧c<p.length∧∃ u,a=.mk 1 [] u []∧la=[([],u)]∧u≠[])) :
  Grows (rputP (pre q la) p v) (partQ c q a p v):=by
 obtain ⟨e1,e2,h0⟩:=Qag hc
 have hcl:=Q5j (p:=q) (q:=p) (c:=c) (by omega)
 have hh:nibs (q.take c):=fun x hx=>hq x (List.mem_of_mem_take hx)
 have hqd:nibs (q.drop c):=fun x hx=>hq x (List.mem_of_mem_drop hx)
 have hpd:nibs (p.drop c):=fun x hx=>hp x (List.mem_of_mem_drop hx)
 have hlap:la≠[]:=ha.ne ha0
 have hpre:rputP (pre q la) p v=pre (q.take c) (rputP (pre (q.drop c) la) (p.drop c) v):=by
  rw [←Qcn,Q4s,←e1,←e2]
 rw [hpre]
 unfold partQ
 refine Grows.behind ?_ hh
 have hrep:∀ (i:Nat) (l:List Rt) (k:Pn),(List.replicate 16 ([]:List Rt))[i]?=some l→(List.replicate 16 nP)[i]?=some k→Grows l k:=fun i l k h1 h2=>by
  rw [rep_at h1,rep_at h2];exact .none
 have hset:∀ {ls:List (List Rt)} {ks:List Pn} {j:Nat} {l0:List Rt} {k0:Pn},(∀ (i:Nat) (l:List Rt) (k:Pn),ls[i]?=some l→ks[i]?=some k→Grows l k)→Grows l0 k0→∀ (i:Nat) (l:List Rt) (k:Pn),(ls.set j l0)[i]?=some l→(ks.set j k0)[i]?=some k→Grows l k:=by
  intro ls ks j l0 k0 h hk i l k h1 h2
  by_cases hij:i=j
  ·subst hij
   rw [List.getElem?_set] at h1 h2
   simp only [if_true] at h1 h2
   split at h1
   ·split at h2
    ·cases h1;cases h2;exact hk
    ·cases h2
   ·cases h1
  ·rw [List.getElem?_set_ne (fun e=>hij e.symm)] at h1 h2
   exact h i l k h1 h2
 have nat16:∀ {i:Nat},i<16→(List.replicate 16 nP)[i]?=some nP:=fun hi=>by rw [List.getElem?_replicate,if_pos hi]
 cases hqc:q.drop c with
 | nil =>
  have hql:q.length≤c:=by rw [←List.drop_eq_nil_iff];exact hqc
  obtain ⟨_,hcp,u,rfl,rfl,hu⟩:=hcase.resolve_left (by omega)
  cases hpc:p.drop c with
  | nil =>
   have:p.length≤c:=by rw [←List.drop_eq_nil_iff];exact hpc
   omega
  | cons x r =>
   have hx:x.toNat<16:=hpd x (by rw [hpc];exact List.mem_cons_self)
   have hpx:p[c]?=some x:=by
    have:=congrArg (fun l=>l[0]?) hpc
    simpa using this
   have hpr:p.drop (c+1)=r:=by rw [←List.drop_drop,hpc];rfl
   have hr:nibs r:=fun y hy=>hpd y (by rw [hpc];exact List.mem_cons_of_mem _ hy)
   rw [if_neg (by omega),if_neg (by omega),Qb8,hpx,hpr]
   simp only [withQ,Pn.kd,if_pos,Pn.val,Option.getD_some]
   have hb:([([],u)]:List Rt)=bdP u (List.replicate 16 []):=by unfold bdP;rw [if_neg hu,Qm0];rfl
   rw [hb,Q3a u v _ (by simp) x hx r]
   refine .fork u _ _ (by simp) (by simp) ?_ ?_
   ·have h1:(List.replicate 16 ([]:List Rt))[x.toNat]?.getD []=[]:=by rw [List.getElem?_replicate,if_pos hx];rfl
    rw [h1,Q5w r v hv]
    exact hset hrep (.leaf r v hv hr)
   ·rw [Q90 (nat16 hx) rfl (by simp [Pn.kd]),Qbt]
    have:0<u.length:=List.length_pos_iff.2 hu
    omega
 | cons y q2 =>
  have hy:y.toNat<16:=hqd y (by rw [hqc];exact List.mem_cons_self)
  have hq2:nibs q2:=fun z hz=>hqd z (by rw [hqc];exact List.mem_cons_of_mem _ hz)
  have hk0:=ha.behind hq2
  have hk0n:(Q0o q2 a).kd≠0:=hk0.kd0 (fun e=>hlap (by cases la with|nil=>rfl|cons _ _=>simp [pre] at e))
  rw [pre_bd y hy q2 la]
  have hkids:=hset (j:=y.toNat) hrep hk0
  cases hpc:p.drop c with
  | nil =>
   have hpl:p.length=c:=by
    have h1:p.length≤c:=by rw [←List.drop_eq_nil_iff];exact hpc
    have:=hcl.2.2
    omega
   rw [if_pos hpl,if_pos hpl]
   simp only [withQ]
   rw [Q5x]
   refine .fork v _ _ (by simp) (by simp) hkids ?_
   rw [Q90 (nat16 hy) rfl hk0n,Qbt]
   have:0<v.length:=List.length_pos_iff.2 hv
   omega
  | cons x r =>
   have hx:x.toNat<16:=hpd x (by rw [hpc];exact List.mem_cons_self)
   have hpx:p[c]?=some x:=by
    have:=congrArg (fun l=>l[0]?) hpc
    simpa using this
   have hpr:p.drop (c+1)=r:=by rw [←List.drop_drop,hpc];rfl
   have hr:nibs r:=fun z hz=>hpd z (by rw [hpc];exact List.mem_cons_of_mem _ hz)
   have hpl:¬ p.length=c:=fun e=>by
    have:p.drop c=[]:=by rw [List.drop_eq_nil_iff];omega
    rw [this] at hpc;cases hpc
   have hxy:y≠x:=fun e=>by
    rw [hqc,hpc,e] at h0
    simp [com] at h0
   have hxyn:x.toNat≠y.toNat:=fun e=>hxy (UInt8.toNat_inj.1 e.symm)
   rw [if_neg hpl,if_neg hpl,hpx,hpr]
   simp only [withQ,Option.getD_some]
   rw [Q3a [] v _ (by simp) x hx r]
   refine .fork [] _ _ (by simp) (by simp) ?_ ?_
   ·have h1:((List.replicate 16 ([]:List Rt)).set y.toNat (pre q2 la))[x.toNat]?.getD []=[]:=by rw [List.getElem?_set_ne (fun e=>hxyn e.symm),List.getElem?_replicate,if_pos hx];rfl
    rw [h1,Q5w r v hv]
    exact hset hkids (.leaf r v hv hr)
   ·rw [Q90 (a:=nP) (by rw [List.getElem?_set_ne (fun e=>hxyn e.symm)];exact nat16 hx) rfl (by simp [Pn.kd]),Q90 (nat16 hy) rfl hk0n,Qbt]
    simp
theorem Qaf {q p:List UInt8}(h:com q p=q.length):p=q++p.drop q.length:=by
 have:=Qag (q:=q) (p:=p) (c:=q.length) h.symm
 have e:=this.2.1
 rw [List.take_length] at e
 exact e
theorem Q9v {l:List Rt}{t:Pn}(h:Grows l t):∀ (p v:List UInt8),nibs p→Grows (rputP l p v) (putQ t p v):=by
 have hmiss:∀ {q p:List UInt8} {l:List Rt},com q p<q.length→(pre q l).filter (fun r=>decide (r.1≠p))=pre q l:=fun {q p l} hc=>Q2s (fun r hr e=>by
  obtain ⟨s,_,rfl⟩:=Q60 hr
  have h1:=Q8y q [] s.1
  dsimp only at e
  rw [List.append_nil,e,Q6p] at h1
  omega)
 induction h with
 | none =>
  intro p v hp
  simp only [nP,putQ]
  by_cases hv:v=[]
  ·subst hv;exact .none
  ·rw [Q5w p v hv]
   simp only [if_neg hv]
   exact .leaf p v hv hp
 | leaf q u hu hq =>
  intro p v hp
  simp only [putQ,if_true]
  have hl:[(q,u)]=pre q [([],u)]:=by simp [pre]
  by_cases he:com q p=p.length∧com q p=q.length
  ·rw [if_pos he]
   have hpq:p=q:=by
    have h1:=Qaf he.2
    have h2:p.drop q.length=[]:=by rw [List.drop_eq_nil_iff];omega
    rw [h2,List.append_nil] at h1;exact h1
   subst hpq
   by_cases hv:v=[]
   ·subst hv
    have:rputP [(p,u)] p []=[]:=by unfold rputP;simp
    rw [if_pos rfl,this];exact .none
   ·have:rputP [(p,u)] p v=[(p,v)]:=by unfold rputP;simp [hv,insR]
    rw [if_neg hv,this];exact .leaf p v hv hp
  ·rw [if_neg he]
   have hne:q≠p:=fun e=>he (by subst e;have:=Q8y q [] [];simp only [List.append_nil,Q6p] at this;exact ⟨by omega,by omega⟩)
   have hle:=com_le q p
   by_cases hv:v=[]
   ·subst hv
    have:rputP [(q,u)] p []=[(q,u)]:=by unfold rputP;simp [hne]
    rw [if_pos rfl,this];exact .leaf q u hu hq
   ·rw [if_neg hv,hl]
    refine Q7b (.leaf [] u hu (by intro x hx;simp at hx)) (by simp [Pn.kd]) hq hp hv _ rfl ?_
    by_cases hc:com q p<q.length
    ·exact .inl hc
    ·exact .inr ⟨by omega,by omega,u,rfl,rfl,hu⟩
 | road q l k hq0 hq h hk ih =>
  intro p v hp
  simp only [putQ]
  have hle:=com_le q p
  by_cases hc:com q p=q.length
  ·rw [if_neg (by decide),if_pos trivial,if_pos hc,Q3b]
   have e:=Qaf hc
   have hd:nibs (p.drop q.length):=fun x hx=>hp x (List.mem_of_mem_drop hx)
   have h2:=(ih (p.drop q.length) v hd).behind hq
   rw [hc]
   rw [←Qcn,←e] at h2
   simpa using h2
  ·rw [if_neg (by decide),if_pos trivial,if_neg hc]
   by_cases hv:v=[]
   ·subst hv
    have:rputP (pre q l) p []=pre q l:=by unfold rputP;rw [if_pos rfl,hmiss (by omega)]
    rw [if_pos rfl,this];exact .road q l k hq0 hq h hk
   ·rw [if_neg hv]
    exact Q7b (a:=k) h (by omega) hq hp hv _ rfl (.inl (by omega))
 | fork u ls ks hl hk h hm ih =>
  intro p v hp
  simp only [putQ]
  rw [if_neg (by decide),if_neg (by decide),if_pos trivial]
  cases p with
  | nil=>rw [Q5x];exact Q78 hl hk h
  | cons x p =>
   have hx:x.toNat<16:=hp x List.mem_cons_self
   have hp2:nibs p:=fun y hy=>hp y (List.mem_cons_of_mem _ hy)
   dsimp only
   rw [Q3a u v ls hl x hx p,Q3b]
   refine Q78 (by simp [hl]) (by simp [hk]) (fun i l k h1 h2=>?_)
   by_cases hi:i=x.toNat
   ·subst hi
    rw [List.getElem?_set_self (by omega)] at h1 h2
    cases h1;cases h2
    have a1:ls[x.toNat]?=some (ls[x.toNat]'(by omega)):=List.getElem?_eq_getElem _
    have a2:ks[x.toNat]?=some (ks[x.toNat]'(by omega)):=List.getElem?_eq_getElem _
    rw [a1,a2]
    exact ih _ _ _ a1 a2 p v hp2
   ·rw [List.getElem?_set_ne (fun e=>hi e.symm)] at h1 h2
    exact h i l k h1 h2
theorem Q69:∀ a:List UInt8,¬ ltP a a
 | []=>fun h=>h
 | x::a=>fun h=>by rcases h with h|⟨_,h⟩;exact Nat.lt_irrefl _ h;exact Q69 a h
theorem Q8m:∀ a b:List UInt8,ltP a b∨a=b∨ltP b a
 | [],[]=>.inr (.inl rfl)
 | [],_::_=>.inl trivial
 | _::_,[]=>.inr (.inr trivial)
 | x::a,y::b=>by
  rcases Nat.lt_trichotomy x.toNat y.toNat with h|h|h
  ·exact .inl (.inl h)
  ·have hxy:x=y:=UInt8.toNat_inj.1 h
   subst hxy
   rcases Q8m a b with h|h|h
   ·exact .inl (.inr ⟨rfl,h⟩)
   ·exact .inr (.inl (by rw [h]))
   ·exact .inr (.inr (.inr ⟨rfl,h⟩))
  ·exact .inr (.inr (.inl h))
theorem Qib:∀ a b:List UInt8,Lib.compareBytes a b<0↔ltP a b
 | [],[]=>by simp [Lib.compareBytes,ltP]
 | [],_::_=>by simp [Lib.compareBytes,ltP]
 | _::_,[]=>by simp [Lib.compareBytes,ltP]
 | x::a,y::b=>by
  unfold Lib.compareBytes ltP
  by_cases h1:x<y
  ·rw [if_pos h1]
   exact ⟨fun _=>.inl h1,fun _=>by omega⟩
  ·rw [if_neg h1]
   have h1':¬ x.toNat<y.toNat:=h1
   by_cases h2:y<x
   ·rw [if_pos h2]
    have h2':y.toNat<x.toNat:=h2
    constructor
    ·intro h;omega
    ·rintro (h|⟨h,_⟩)
     ·omega
     ·subst h;omega
   ·rw [if_neg h2,Qib a b]
    have h2':¬ y.toNat<x.toNat:=h2
    constructor
    ·intro h;exact .inr ⟨UInt8.toNat_inj.1 (by omega),h⟩
    ·rintro (h|⟨_,h⟩)
     ·omega
     ·exact h
def rtLt (x y:Rt):Bool:=decide (Lib.compareBytes x.1 y.1<0)
theorem Q5a (x y:Rt):rtLt x y=true↔ltP x.1 y.1:=by unfold rtLt;rw [decide_eq_true_iff,Qib]
theorem Q8a (x y:Rt):rtLt x y=false↔¬ ltP x.1 y.1:=by rw [←Q5a];simp
theorem rt_swo:Sort.SWO rtLt where
 irrefl x:=(Q8a _ _).2 (Q69 _)
 trans x y z h1 h2:=(Q5a _ _).2 (Q3d ((Q5a _ _).1 h1) ((Q5a _ _).1 h2))
 ntrans x y z h1 h2:=by
  rw [Q8a] at h1 h2 ⊢
  intro h
  rcases Q8m y.1 z.1 with h3|h3|h3
  ·exact h2 h3
  ·rw [←h3] at h;exact h1 h
  ·exact h1 (Q3d h h3)
theorem Q5h (r:Rt):∀ l:List Rt,(insR r l).Perm (r::l)
 | []=>List.Perm.refl _
 | s::l=>by
  unfold insR
  split
  ·exact List.Perm.refl _
  ·exact ((Q5h r l).cons s).trans (List.Perm.swap _ _ _)
theorem Qho {r:Rt}:∀ {l:List Rt},Ord l→(∀ s∈l,s.1≠r.1)→Ord (insR r l)
 | [],_,_=>List.pairwise_singleton _ _
 | s::l,h,hn=>by
  have h':=List.pairwise_cons.1 h
  unfold insR
  split
  ·rename_i hlt
   refine List.pairwise_cons.2 ⟨fun t ht=>?_,h⟩
   rcases List.mem_cons.1 ht with rfl|ht
   ·exact hlt
   ·exact Q3d hlt (h'.1 t ht)
  ·rename_i hlt
   refine List.pairwise_cons.2 ⟨fun t ht=>?_,Qho h'.2 (fun t ht=>hn t (List.mem_cons_of_mem _ ht))⟩
   rcases List.mem_cons.1 ((Q5h r l).mem_iff.1 ht) with rfl|ht
   ·rcases Q8m s.1 t.1 with h|h|h
    ·exact h
    ·exact absurd h (hn s List.mem_cons_self)
    ·exact absurd h hlt
   ·exact h'.1 t ht
theorem Qcz {l:List Rt}(h:Ord l)(p v:List UInt8):Ord (rputP l p v):=by
 unfold rputP
 have hf:Ord (l.filter (fun r=>decide (r.1≠p))):=h.filter _
 split
 ·exact hf
 ·exact Qho hf (fun s hs=>by simpa using (List.mem_filter.1 hs).2)
theorem Ql8 {l m:List Rt}(hl:Ord l)(hm:m.Pairwise fun r s=>¬ ltP s.1 r.1)(hp:m.Perm l):m=l:=by
 refine List.Perm.eq_of_pairwise (le:=fun r s=>¬ ltP s.1 r.1) ?_ hm (hl.imp fun h h2=>Q69 _ (Q3d h h2)) hp
 intro a b ha hb h1 h2
 have hab:a.1=b.1:=by
  rcases Q8m a.1 b.1 with h|h|h
  ·exact absurd h h2
  ·exact h
  ·exact absurd h h1
 have ha':=hp.mem_iff.1 ha
 by_cases e:a=b
 ·exact e
 ·have key:∀ (l:List Rt),Ord l→a∈l→b∈l→False:=by
   intro l
   induction l with
   | nil=>intro _ h;simp at h
   | cons s l ih =>
    intro h h3 h4
    have h':=List.pairwise_cons.1 h
    rcases List.mem_cons.1 h3 with e3|e3
    ·rcases List.mem_cons.1 h4 with e4|e4
     ·exact e (e3.trans e4.symm)
     ·have:=h'.1 b e4;rw [←e3,hab] at this;exact Q69 _ this
    ·rcases List.mem_cons.1 h4 with e4|e4
     ·have:=h'.1 a e3;rw [←e4,hab] at this;exact Q69 _ this
     ·exact ih h'.2 e3 e4
  exact (key l hl ha' hb).elim
theorem Qau {d:Array Rt}(h:Sort.SortedIn rtLt 0 d.size d):d.toList.Pairwise fun r s=>¬ ltP s.1 r.1:=by
 rw [List.pairwise_iff_getElem]
 intro i j hi hj hij
 have:=h i j (Nat.zero_le _) hij (by simpa using hj)
 rw [Q8a,getElem!_pos d j (by simpa using hj),getElem!_pos d i (by simpa using hi)] at this
 simpa using this
theorem Qfo {l:List Rt}(h:Ord l)(p v:List UInt8){d d':Array Rt}(hd:d.toList=l.filter (fun r=>decide (r.1≠p))++(if v=[] then [] else [(p,v)]))(hp:Sort.PermIn 0 d.size d d')(hs:Sort.SortedIn rtLt 0 d.size d'):d'.toList=rputP l p v:=by
 have hsz:=hp.1
 rw [←hsz] at hs
 refine Ql8 (Qcz h p v) (Qau hs) ?_
 have h1:d'.toList.Perm d.toList:=by
  have:=hp.2.2
  rw [Array.extract_size,←hsz,Array.extract_size] at this
  exact this
 refine h1.trans ?_
 rw [hd]
 unfold rputP
 split
 ·rw [List.append_nil]
 ·exact List.perm_append_comm.trans (Q5h _ _).symm
mutual
def clN:Nd→Pn
 | .mk kd _ p _ v _ ks=>if kd=1 then .mk 1 p v [] else if kd=2 then .mk 2 p [] (clNL ks) else if kd=3 then .mk 3 [] v (clNL ks) else nP
def clNL:List Nd→List Pn
 | []=>[]
 | k::ks=>clN k::clNL ks
end
theorem Q1c (ks:List Nd):clNL ks=ks.map clN:=by
 induction ks with
 | nil=>rfl
 | cons k ks ih=>simp [clNL,ih]
theorem Q8w (v:List UInt8)(ls:List (List Rt))(ks:List Pn)(hl:ls.length=16)(hk:ks.length=16)(h:∀ (i:Nat) (l:List Rt) (k:Pn),ls[i]?=some l→ks[i]?=some k→Grows l k)(hm:2≤min v.length 1+cntQ ks):2≤(bdP v ls).length∧fl (bdP v ls)=0:=by
 have kid:∀ (j:Nat) (k:Pn),ks[j]?=some k→k.kd≠0→∃ l,ls[j]?=some l∧l≠[]:=fun j k hj hk0=>by
  have hj16:j<16:=by have:=(List.getElem?_eq_some_iff.1 hj).1;omega
  have a1:ls[j]?=some (ls[j]'(by omega)):=List.getElem?_eq_getElem _
  exact ⟨_,a1,(h j _ k a1 hj).ne hk0⟩
 have len:∀ (l:List Rt),l≠[]→1≤l.length:=fun l hl=>List.length_pos_iff.2 hl
 have catlen:∀ (ls:List (List Rt)) (i j:Nat) (l:List Rt),ls[j]?=some l→l.length≤(cat i ls).length:=by
  intro ls
  induction ls with
  | nil=>intro i j l h;simp at h
  | cons a ls ih =>
   intro i j l h
   rw [cat,List.length_append,Q1h]
   cases j with
   | zero=>simp only [List.getElem?_cons_zero,Option.some.injEq] at h;subst h;omega
   | succ j=>have:=ih (i+1) j l h;omega
 have catlen2:∀ (ls:List (List Rt)) (i j k:Nat) (l l':List Rt),j<k→ls[j]?=some l→ls[k]?=some l'→l.length+l'.length≤(cat i ls).length:=by
  intro ls
  induction ls with
  | nil=>intro i j k l l' _ h;simp at h
  | cons a ls ih =>
   intro i j k l l' hjk h h'
   rw [cat,List.length_append,Q1h]
   cases k with
   | zero=>omega
   | succ k =>
    cases j with
    | zero =>
     simp only [List.getElem?_cons_zero,Option.some.injEq] at h;subst h
     have:=catlen ls (i+1) k l' h'
     omega
    | succ j=>have:=ih (i+1) j k l l' (by omega) h h';omega
 by_cases hv:v=[]
 ·subst hv
  obtain ⟨i,j,a,b,hij,h1,h2,h3,h4⟩:=Qlx (ks:=ks) (by simpa using hm)
  obtain ⟨la,l1,l2⟩:=kid i a h1 h2
  obtain ⟨lb,l3,l4⟩:=kid j b h3 h4
  have hc:=catlen2 ls 0 i j la lb hij l1 l3
  have:=len la l2
  have:=len lb l4
  have hb:bdP [] ls=cat 0 ls:=by unfold bdP;rw [if_pos rfl,List.nil_append]
  rw [hb]
  exact ⟨by omega,cat_fl (by omega) hij l1 l2 l3 l4⟩
 ·refine ⟨?_,fl_bd hv⟩
  have hv1:min v.length 1=1:=by have:0<v.length:=List.length_pos_iff.2 hv;omega
  obtain ⟨j,k,h1,h2⟩:=Qbu (ks:=ks) (by omega)
  obtain ⟨l,l1,l2⟩:=kid j k h1 h2
  have:=catlen ls 0 j l l1
  have:=len l l2
  unfold bdP
  rw [if_neg hv,List.length_append,List.length_singleton]
  omega
theorem Qhv {l:List Rt}{t:Pn}(h:Grows l t):∀ m,(∀ r∈l,r.1.length<m)→grw m l=t:=by
 induction h with
 | none=>intro m _;exact Q6h m
 | leaf p v hv hp =>
  intro m hm
  have:=hm (p,v) (List.mem_singleton.2 rfl)
  cases m with
  | zero=>simp at this
  | succ m=>rfl
 | road p l k hp hn h hk ih =>
  intro m hm
  cases h with
  | none=>simp [nP,Pn.kd] at hk
  | leaf q u hu hq=>simp [Pn.kd] at hk
  | road q l2 k2 hq hn2 h2 hk2=>simp [Pn.kd] at hk
  | fork v ls ks hl hk3 h3 hm2 =>
   have hne:bdP v ls≠[]:=(Grows.fork v ls ks hl hk3 h3 hm2).ne (by simp [Pn.kd])
   obtain ⟨h2,h0⟩:=Q8w v ls ks hl hk3 h3 hm2
   have hpl:0<p.length:=List.length_pos_iff.2 hp
   cases m with
   | zero =>
    obtain ⟨r,hr⟩:=List.exists_mem_of_ne_nil _ hne
    have:=hm _ (Q2x hr)
    omega
   | succ m =>
    have hf:fl (pre p (bdP v ls))=p.length:=by rw [fl_pre p _ hne,h0,Nat.add_zero]
    rw [Q31 m _ (by rw [Q1h];exact h2),hf,if_pos hpl,Q2v]
    have hh:(hdP (pre p (bdP v ls))).1.take p.length=p:=by
     cases hb:bdP v ls with
     | nil=>exact absurd hb hne
     | cons r l=>simp [pre,hdP]
    rw [hh,ih m (fun r hr=>by
     have:=hm _ (Q2x (p:=p) hr)
     simp only [List.length_append] at this
     omega)]
 | fork v ls ks hl hk h hm ih =>
  intro m hlt
  have hne:bdP v ls≠[]:=(Grows.fork v ls ks hl hk h hm).ne (by simp [Pn.kd])
  obtain ⟨h2,h0⟩:=Q8w v ls ks hl hk h hm
  cases m with
  | zero =>
   obtain ⟨r,hr⟩:=List.exists_mem_of_ne_nil _ hne
   have:=hlt _ hr
   omega
  | succ m =>
   obtain ⟨e1,e2⟩:=bd_kid hne
   rw [Q31 m _ h2,h0,if_neg (by omega),e1,e2]
   congr 1
   refine List.ext_getElem? fun i=>?_
   by_cases hi:i<16
   ·have a1:ls[i]?=some (ls[i]'(by omega)):=List.getElem?_eq_getElem _
    have a2:ks[i]?=some (ks[i]'(by omega)):=List.getElem?_eq_getElem _
    rw [List.getElem?_map,List.getElem?_range hi,Option.map_some,Qb9 hl,a1,a2,Option.getD_some,ih i _ _ a1 a2 m (fun r hr=>?_)]
    have hmem:=Q2y (i:=0) a1 hr
    have:=hlt (UInt8.ofNat (0+i)::r.1,r.2) (by unfold bdP;exact List.mem_append_right _ hmem)
    simp only [List.length_cons] at this
    omega
   ·rw [List.getElem?_eq_none (by simp;omega),List.getElem?_eq_none (by omega)]
mutual
def blkP:Pn→Nat
 | .mk _ p v ks=>1+p.length+v.length+blkPL ks
def blkPL:List Pn→Nat
 | []=>0
 | k::ks=>blkP k+blkPL ks
end
mutual
theorem Q95:∀ t:Nd,blkP (erN t)=bulkN t
 | .mk kd pv p vv v kv ks=>by simp only [erN,blkP,bulkN,Qdo ks]
theorem Qdo:∀ ks:List Nd,blkPL (erNL ks)=bulkNL ks
 | []=>rfl
 | k::ks=>by simp only [erNL,blkPL,bulkNL,Q95 k,Qdo ks]
end
mutual
theorem Qj9:∀ t:Nd,sameP t (erN t)=true
 | .mk kd pv p vv v kv ks=>by
  have:=Q9p ks
  simp only [erN,sameP,this]
  simp
theorem Q9p:∀ ks:List Nd,sameL ks (erNL ks)=true
 | []=>rfl
 | k::ks=>by simp only [erNL,sameL,Qj9 k,Q9p ks];rfl
end
def wtR:List Rt→Nat
 | []=>0
 | r::l=>17+18*r.1.length+r.2.length+wtR l
theorem Qkr (l m:List Rt):wtR (l++m)=wtR l+wtR m:=by
 induction l with
 | nil=>simp [wtR]
 | cons r l ih=>simp only [List.cons_append,wtR,ih];omega
theorem Qf1 (p:List UInt8)(l:List Rt):wtR (pre p l)=wtR l+18*p.length*l.length:=by
 induction l with
 | nil=>simp [wtR,pre]
 | cons r l ih =>
  have:pre p (r::l)=(p++r.1,r.2)::pre p l:=rfl
  rw [this]
  simp only [wtR,ih,List.length_append,List.length_cons,Nat.mul_add]
  omega
theorem Qf2:∀ (ls:List (List Rt))(ks:List Pn)(i:Nat),ls.length=ks.length→(∀ (i:Nat) (l:List Rt) (k:Pn),ls[i]?=some l→ks[i]?=some k→blkP k≤1+wtR l)→blkPL ks+18*(cat i ls).length≤ks.length+wtR (cat i ls)
 | [],[],i,_,_=>by simp [blkPL,cat,wtR]
 | [],k::ks,i,h,_=>by simp at h
 | l::ls,[],i,h,_=>by simp at h
 | l::ls,k::ks,i,h,hh=>by
  have h0:=hh 0 l k rfl rfl
  have ih:=Qf2 ls ks (i+1) (by simpa using h) (fun j l' k' h1 h2=>hh (j+1) l' k' (by simpa using h1) (by simpa using h2))
  simp only [cat,blkPL,Qkr,Qf1,List.length_append,List.length_cons,Q1h,List.length_nil]
  omega
theorem Qhw {l:List Rt}{T:Pn}(h:Grows l T):blkP T≤1+wtR l:=by
 induction h with
 | none=>simp [nP,blkP,blkPL,wtR]
 | leaf p v hv hp=>simp only [blkP,blkPL,wtR];omega
 | road p l k hp hn h hk ih =>
  have h1:0<l.length:=List.length_pos_iff.2 (h.ne (by omega))
  have h2:0<p.length:=List.length_pos_iff.2 hp
  simp only [blkP,blkPL,Qf1,List.length_nil]
  have h3:18*p.length≤18*p.length*l.length:=Nat.le_mul_of_pos_right _ h1
  omega
 | fork v ls ks hl hk h hm ih =>
  have h1:=Qf2 ls ks 0 (by omega) ih
  have h2:=(Q8w v ls ks hl hk h hm).1
  simp only [blkP,List.length_nil]
  unfold bdP at h2 ⊢
  by_cases hv:v=[]
  ·subst hv
   rw [if_pos rfl,List.nil_append] at h2 ⊢
   simp only [List.length_nil]
   omega
  ·rw [if_neg hv] at h2 ⊢
   simp only [List.singleton_append,wtR,List.length_nil,List.length_cons] at h2 ⊢
   omega
theorem wtR_le {l:List Rt}(h:∀ r∈l,r.1.length≤64∧r.2.length≤1024):wtR l≤2200*l.length:=by
 induction l with
 | nil=>simp [wtR]
 | cons r l ih =>
  have h1:=h r List.mem_cons_self
  have h2:=ih (fun s hs=>h s (List.mem_cons_of_mem _ hs))
  simp only [wtR,List.length_cons]
  omega
end Go.Proofs.YtbdmkfjgnjfjbaaGreat
