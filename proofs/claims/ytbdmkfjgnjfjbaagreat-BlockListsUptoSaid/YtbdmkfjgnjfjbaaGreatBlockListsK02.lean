/- What the tables of this translation say of its types. | nib.Common and the reference's NCommon: both come to one number. | Trees as plain data: routes, what gro -/
import Derived.Test.YtbdmkfjgnjfjbaaGreatRows
import Derived.Test.YtbdmkfjgnjfjbaaGreatBlockListsK01
set_option linter.unusedSimpArgs false
set_option linter.unusedVariables false
set_option maxHeartbeats 4000000
set_option maxRecDepth 100000
open List (cons_append exists_mem_of_ne_nil getElem?_cons_succ getElem?_cons_zero getLast?_eq_some_getLast length_append length_cons map_map mem_append mem_cons mem_cons_self mem_map mem_singleton ne_nil_of_mem pairwise_cons)
namespace Go.Proofs.YtbdmkfjgnjfjbaaGreat
theorem elU8:El Tryz.prog 25 5 (.int .u8 0) 1 1 b8:=⟨by kernel_rfl,by kernel_rfl,rfl,by omega,fun _=>rfl,Qtr⟩
theorem Q3w:Agg Tryz.prog 110 8:=⟨_,Tryz.underlying110,rfl,by kernel_rfl⟩
theorem own:ownKnob Tryz.prog.godebug=none:=by kernel_rfl
theorem Qci:laidOutB Tryz.prog=true:=by kernel_rfl
end Go.Proofs.YtbdmkfjgnjfjbaaGreat
namespace Go.Proofs.YtbdmkfjgnjfjbaaGreat
open Go.RowKit
def com:List UInt8->List UInt8->Nat
 | x::xs,y::ys=>if x=y then 1+com xs ys else 0
 | _,_=>0
theorem Q30 (p:List UInt8):∀ q,com p q<=p.length/\com p q<=q.length:=by
 induction p with
 | nil=>intro q;simp [com]
 | cons x xs ih =>
  intro q;cases q with
  | nil=>simp [com]
  | cons y ys =>
   have:=ih ys;unfold com;split<;>simp<;>omega
theorem Qif (p:List UInt8):∀ q k (h:k<com p q),p[k]'(by have:=Q30 p q;omega)=q[k]'(by have:=Q30 p q;omega):=by
 induction p with
 | nil=>intro q k h;simp [com] at h
 | cons x xs ih =>
  intro q k h;cases q with
  | nil=>simp [com] at h
  | cons y ys =>
   unfold com at h;split at h
   ·rename_i z;cases k with
    | zero=>simpa using z
    | succ k=>simpa using ih ys k (by omega)
   omega
theorem Qsr (p:List UInt8):∀ q (h1:com p q<p.length) (h2:com p q<q.length),p[com p q]≠q[com p q]:=by
 induction p with
 | nil=>intro q h1;simp at h1
 | cons x xs ih =>
  intro q h1 h2;cases q with
  | nil=>simp at h2
  | cons y ys =>
   by_cases hxy:x=y
   ·have e:com (x::xs) (y::ys)=com xs ys+1:=by simp [com,hxy];omega
    simp only [e,List.getElem_cons_succ];exact ih ys (by rw [e] at h1;simpa using h1) (by rw [e] at h2;simpa using h2)
   have e:com (x::xs) (y::ys)=0:=by simp [com,hxy]
   simp only [e,List.getElem_cons_zero];exact hxy
theorem Q5l (a b:Option Addr)(c d:Nat)(p q:List UInt8)(w:World)(D:Q02 w (.slice a p.length c) p)(E:Q02 w (.slice b q.length d) q) :
  Calls Tryz.prog 91 #[.slice a p.length c,.slice b q.length d] w fun e w'=>e=.returned (.int .i64 (com p q))/\∃ m,w'=w.drewN m:=by
 have U:=Q30 p q;have L:=D.small;have M:=E.small;unfold maxLen at L M;go_enter Tryz.func91,Tryz.ntmps91
 go_wp2
 go_loopw [5] (fun v wr=>∃ k:Nat,k<=com p q/\v=.int .i64 k/\∃ m,wr=w.drewN m) (fun v _=>p.length - (intOf v).toNat)
 case atStart=>exact ⟨0,by omega,rfl,0,rfl⟩
 case round =>
  obtain ⟨k,T,rfl,m,rfl⟩:=hrel;by_cases hlt:k<com p q
  ·have y:=Qif p q k hlt;obtain ⟨H,N,rfl,K⟩:=D.at k (by omega);obtain ⟨I,O,rfl,G⟩:=E.at k (by omega);rw [<-y] at G;have z:(k:Int)<(p.length:Int):=by omega
   have J:(k:Int)<(q.length:Int):=by omega
   clear y;have h:((q.length:Int)<(p.length:Int))∨((p.length:Int)<=(q.length:Int)):=by omega
   rcases h with h|h
   all_goals
    go_wp2
    go_quiet (fail)
    go_wp2
    go_roundw
    case rel=>exact ⟨k+1,by omega,by go_num,_,by first|rfl|rw [World.drewN_drewN]⟩
    case measure=>simp [intOf];omega
  ·obtain rfl:k=com p q:=by omega
   have h:((q.length:Int)<(p.length:Int))∨((p.length:Int)<=(q.length:Int)):=by omega
   by_cases hin:com p q<p.length/\com p q<q.length
   ·have y:=Qsr p q hin.1 hin.2;obtain ⟨H,N,rfl,K⟩:=D.at (com p q) (by omega);obtain ⟨I,O,rfl,G⟩:=E.at (com p q) (by omega);have z:((com p q:Nat):Int)<(p.length:Int):=by omega
    have J:((com p q:Nat):Int)<(q.length:Int):=by omega
    have S:((p[com p q].toNat:Int)==(q[com p q].toNat:Int))=false:=by
     rw [beq_eq_false_iff_ne];intro e;apply y;exact UInt8.toNat_inj.1 (by omega)
    clear y;rcases h with h|h
    all_goals
     go_wp2
     go_quiet (fail)
     go_wp2
     go_ret;exact ⟨rfl,_,by first|rfl|rw [World.drewN_drewN]⟩
   ·rcases h with h|h
    ·have z:decide (com p q<q.length)=false:=by rw [decide_eq_false_iff_not];omega
     go_wp2
     go_quiet (fail)
     go_wp2
     go_ret;exact ⟨rfl,_,by first|rfl|rw [World.drewN_drewN]⟩
    ·have z:decide (com p q<p.length)=false:=by rw [decide_eq_false_iff_not];omega
     go_wp2
     go_quiet (fail)
     go_wp2
     go_ret;exact ⟨rfl,_,by first|rfl|rw [World.drewN_drewN]⟩

theorem Q9b (p:List UInt8):∀ (q:List UInt8) (a b:Option Addr) (c d:Nat) (w:World),Q02 w (.slice a p.length c) p->Q02 w (.slice b q.length d) q ->
  Calls Tryz.prog 143 #[.slice a p.length c,.slice b q.length d] w fun e w'=>e=.returned (.int .i64 (com p q))/\∃ m,w'=w.drewN m:=by
 induction p with
 | nil =>
  intro q a b c d w D E;have g1:(((0:Nat):Int)==0)=true:=rfl;go_enter Tryz.func143,Tryz.ntmps143;simp only [List.length_nil,com]
  go_wp2
  go_quiet (fail)
  go_wp2
  go_ret;exact ⟨rfl,_,rfl⟩
 | cons x xs ih =>
  intro q a b c d w D E;have M:=D.small;have N:=E.small;unfold maxLen at M N;obtain ⟨n,z⟩:=Qe ((x::xs).length);have J:n=xs.length+1:=by simpa using z
  rw [<-z] at D M |-;have g1:((n:Int)==0)=false:=by rw [beq_eq_false_iff_ne];omega
  cases q with
  | nil =>
   clear z J;go_enter Tryz.func143,Tryz.ntmps143;simp only [List.length_nil,com];have g2:(((0:Nat):Int)==0)=true:=rfl
   go_wp2
   go_quiet (fail)
   go_wp2
   go_ret;exact ⟨rfl,_,rfl⟩
  | cons y ys =>
   obtain ⟨m,G⟩:=Qe ((y::ys).length);have L:m=ys.length+1:=by simpa using G
   rw [<-G] at E N |-;have g2:((m:Int)==0)=false:=by rw [beq_eq_false_iff_ne];omega
   obtain ⟨b1,o1,rfl,h1⟩:=D.at 0 (by simp);obtain ⟨b2,o2,rfl,h2⟩:=E.at 0 (by simp);have g3:(0:Int)<(n:Int):=by omega
   have g4:(0:Int)<(m:Int):=by omega
   simp only [List.getElem_cons_zero,Nat.add_zero] at h1 h2;obtain ⟨U,W,s1,O⟩:=Q05.from elU8 D 1 (by omega) 1 rfl;obtain ⟨V,Z,s2,S⟩:=Q05.from elU8 E 1 (by omega) 1 rfl;have H:n - 1=xs.length:=by omega
   have I:m - 1=ys.length:=by omega
   rw [H] at s1 O;rw [I] at s2 S;by_cases hxy:x=y
   ·subst hxy;have K:(1:Int)+(com xs ys:Int)=((1+com xs ys:Nat):Int):=by omega
    have T:=Qhd K;have hb:(((x.toNat:Int) != (x.toNat:Int)))=false:=by simp
    have hl:=Q30 xs ys;have ac:xs.length+1<=9223372036854775807:=by omega
    have h:com (x::xs) (x::ys)=1+com xs ys:=by simp [com]
    rw [h];clear H I K z J G L h;go_enter Tryz.func143,Tryz.ntmps143
    go_wp2
    go_quiet (fail)
    go_wp2
    go_quiet ((go_at_call 143;exact Calls.quiet_of2 (ih ys U V W Z _ (by exact O) (by exact S))))
    go_wp2
    go_ret;exact ⟨Qry T.out,_,by first|rfl|rw [World.drewN_drewN]⟩
   have hb:(((x.toNat:Int) != (y.toNat:Int)))=true:=by rw [bne_iff_ne];intro e;apply hxy;exact UInt8.toNat_inj.1 (by omega)
   have h:com (x::xs) (y::ys)=0:=by simp [com,hxy]
   rw [h];clear H I z J G L h;go_enter Tryz.func143,Tryz.ntmps143
   go_wp2
   go_quiet (fail)
   go_wp2
   go_ret;exact ⟨rfl,_,by first|rfl|rw [World.drewN_drewN]⟩
inductive Nd where
 | mk (kd:Int) (pv:Value) (p:List UInt8) (vv:Value) (v:List UInt8) (kv:Value) (ks:List Nd)
def Nd.kd:Nd->Int
 | .mk kd _ _ _ _ _ _=>kd
abbrev Rt:=List UInt8 × List UInt8
def pre (p:List UInt8)(l:List Rt):List Rt:=l.map fun r=>(p++r.1,r.2)
def cat:Nat->List (List Rt)->List Rt
 | _,[]=>[]
 | i,l::ls=>pre [UInt8.ofNat i] l++cat (i+1) ls
def half (p:List UInt8):Bool:=p.all fun x=>decide (x.toNat<=15)
mutual
def rts:Nd->Option (List Rt)
 | .mk kd _ p _ v _ ks =>
  if (kd=1∨kd=2)/\half p=false then none
  else if kd=0 then some []
  else if kd=1 then some [(p,v)]
  else if kd=2/\ks.length=1 then (rtsL ks).map fun l=>pre p l.flatten
  else if kd=3/\ks.length=16 then (rtsL ks).map fun l=>(if v=[] then [] else [([],v)])++cat 0 l
  else none
def rtsL:List Nd->Option (List (List Rt))
 | []=>some []
 | k::ks=>match rts k with
  | none=>none
  | some l=>match rtsL ks with
   | none=>none
   | some ls=>some (l::ls)
end
inductive Pn where
 | mk (kd:Int) (p v:List UInt8) (ks:List Pn)
def Q0m (c:Nat)(l:List Rt):List Rt:=l.map fun r=>(r.1.drop c,r.2)
def Q1a (i:Nat)(l:List Rt):List Rt:=l.filter fun r=>decide ((r.1[0]?.getD 0).toNat=i)
def grw:Nat->List Rt->Pn
 | 0,_=>.mk 0 [] [] []
 | n+1,l=>match l with
  | []=>.mk 0 [] [] []
  | [r]=>.mk 1 r.1 r.2 []
  | r::r'::l' =>
   let z:=(r'::l').getLast (by simp)
   let c:=com r.1 z.1
   if 0<c then .mk 2 (r.1.take c) [] [grw n (Q0m c (r::r'::l'))]
   else .mk 3 [] (if r.1=[] then r.2 else []) ((List.range 16).map fun i=>grw n (Q0m 1 (Q1a i (if r.1=[] then r'::l' else r::r'::l'))))
mutual
def Q20:Nd->Pn->Bool
 | .mk kd _ p _ v _ ks,.mk kd' p' v' ks' =>
  if kd≠kd' then false
  else if kd=1 then p==p'&&v==v'
  else if kd=2 then p==p'&&Q3o ks ks'
  else if kd=3 then v==v'&&Q3o ks ks'
  else true
def Q3o:List Nd->List Pn->Bool
 | [],[]=>true
 | k::ks,k'::ks'=>Q20 k k'&&Q3o ks ks'
 | _,_=>false
end
def Q5s (d:Nat):Bool:=decide (d % 2=0) && decide (d<=64)
def Q27:List Nd->Nat
 | []=>0
 | k::ks=>(if k.kd=0 then 0 else 1)+Q27 ks
mutual
def rgt:Nat->Nd->Bool
 | d,.mk kd _ p _ v _ ks =>
  if kd=0 then true
  else if kd=1 then half p&&Q5s (d+p.length)&&decide (0<v.length)&&decide (v.length<=1024)
  else if kd=2 then decide (0<p.length)&&half p&&decide (ks.length=1)&&decide (((ks[0]?.map Nd.kd).getD 0)=3)&&rgtL (d+p.length) ks
  else if kd=3 then decide (ks.length=16)&&decide (v.length<=1024)&&(decide (v.length=0) || Q5s d)&&rgtL (d+1) ks&&decide (2<=min v.length 1+Q27 ks)
  else false
def rgtL:Nat->List Nd->Bool
 | _,[]=>true
 | d,k::ks=>rgt d k&&rgtL d ks
end
def Q54 (d:Nat)(r:Rt):Prop:=(d+r.1.length) % 2=0/\d+r.1.length<=64/\0<r.2.length/\r.2.length<=1024
instance (d:Nat) (r:Rt):Decidable (Q54 d r):=by unfold Q54;infer_instance
theorem Q2b (p:List UInt8)(l:List Rt):(pre p l).length=l.length:=by unfold pre;rw [List.length_map]
theorem Qfr (l:List Rt):pre [] l=l:=by unfold pre;simp
theorem Q7a (p q:List UInt8)(l:List Rt):pre p (pre q l)=pre (p++q) l:=by
 unfold pre;rw [map_map];congr 1;funext r;simp
theorem Q91 {p:List UInt8}{l:List Rt}{r:Rt}(h:r∈pre p l):∃ s∈l,r=(p++s.1,s.2):=by
 unfold pre at h;obtain ⟨s,y,rfl⟩:=mem_map.1 h;exact ⟨s,y,rfl⟩
theorem Q4d {p:List UInt8}{l:List Rt}{s:Rt}(h:s∈l):(p++s.1,s.2)∈pre p l:=mem_map.2 ⟨s,h,rfl⟩
theorem Q4b (p:List UInt8)(l:List Rt):Q0m p.length (pre p l)=l:=by
 unfold Q0m pre;rw [map_map];have:((fun r:Rt=>(r.1.drop p.length,r.2)) ∘ fun r:Rt=>(p++r.1,r.2))=id:=by funext r;simp
 rw [this,List.map_id]
theorem Qcy (p q r:List UInt8):com (p++q) (p++r)=p.length+com q r:=by
 induction p with
 | nil=>simp
 | cons x p ih =>
  simp only [cons_append,com,if_pos,ih,length_cons];omega
theorem Q9v (q:List UInt8):com [] q=0:=by cases q <;> rfl
theorem Qua {x y:UInt8}(p q:List UInt8)(h:x≠y):com (x::p) (y::q)=0:=by unfold com;rw [if_neg h]
def fl (l:List Rt):Nat:=com ((l.head?.map (·.1)).getD []) ((l.getLast?.map (·.1)).getD [])
theorem Qnq (p:List UInt8)(l:List Rt)(h:l≠[]):fl (pre p l)=p.length+fl l:=by
 unfold fl pre;rw [List.head?_map,List.getLast?_map];cases hl:l with
 | nil=>exact absurd hl h
 | cons a l' =>
  have y:(a::l').head?=some a:=rfl;have z:(a::l').getLast?=some ((a::l').getLast (by simp)):=getLast?_eq_some_getLast (by simp);rw [y,z];exact Qcy _ _ _
theorem Q3h (ls:List (List Rt)):∀ i,cat i ls=[]↔∀ l∈ls,l=[]:=by
 induction ls with
 | nil=>intro i;simp [cat]
 | cons l ls ih =>
  intro i;simp only [cat,List.append_eq_nil_iff,mem_cons,forall_eq_or_imp,ih];constructor
  ·rintro ⟨h,y⟩;exact ⟨by cases l with|nil=>rfl|cons _ _=>simp [pre] at h,y⟩
  rintro ⟨rfl,y⟩;exact ⟨rfl,y⟩
theorem Q3i {ls:List (List Rt)}:∀ {i:Nat} {r:Rt},r∈cat i ls->∃ (j:Nat) (l:List Rt),ls[j]?=some l/\∃ s∈l,r=(UInt8.ofNat (i+j)::s.1,s.2):=by
 induction ls with
 | nil=>intro i r h;simp [cat] at h
 | cons l ls ih =>
  intro i r h;simp only [cat,mem_append] at h;rcases h with h|h
  ·obtain ⟨s,y,rfl⟩:=Q91 h;exact ⟨0,l,rfl,s,y,rfl⟩
  obtain ⟨j,D,z,s,y,rfl⟩:=ih h;exact ⟨j+1,D,z,s,y,by rw [Nat.add_right_comm];rfl⟩
theorem Q4e {ls:List (List Rt)}:∀ {i j:Nat} {l:List Rt} {s:Rt},ls[j]?=some l->s∈l->(UInt8.ofNat (i+j)::s.1,s.2)∈cat i ls:=by
 induction ls with
 | nil=>intro i j l s h;simp at h
 | cons l0 ls ih =>
  intro i j l s h y;simp only [cat,mem_append];cases j with
  | zero =>
   simp only [getElem?_cons_zero,Option.some.injEq] at h;subst h;exact .inl (Q4d y)
  | succ j =>
   simp only [getElem?_cons_succ] at h;have:=ih (i:=i+1) h y;rw [Nat.add_right_comm] at this;exact .inr this
theorem Q1o {i:Nat}(h:i<256):(UInt8.ofNat i).toNat=i:=by rw [UInt8.toNat_ofNat'];omega
theorem Qpm (ls:List (List Rt)):∀ (i j:Nat),i+ls.length<=256->Q1a j (cat i ls)=if i<=j then pre [UInt8.ofNat j] (ls[j - i]?.getD []) else []:=by
 induction ls with
 | nil=>intro i j _;simp [cat,Q1a,pre]
 | cons l ls ih =>
  intro i j h;simp only [length_cons] at h;have D:Q1a j (pre [UInt8.ofNat i] l)=if i=j then pre [UInt8.ofNat j] l else []:=by
   unfold Q1a pre;split
   ·rename_i e;subst e;rw [List.filter_eq_self];intro r z;obtain ⟨s,_,rfl⟩:=mem_map.1 z;simp only [cons_append,getElem?_cons_zero,Option.getD_some,decide_eq_true_eq];exact Q1o (by omega)
   rename_i e;rw [List.filter_eq_nil_iff];intro r z;obtain ⟨s,_,rfl⟩:=mem_map.1 z;simp only [cons_append,getElem?_cons_zero,Option.getD_some,decide_eq_true_eq];rw [Q1o (by omega)];exact e
  unfold cat;have E:Q1a j (pre [UInt8.ofNat i] l++cat (i+1) ls)=Q1a j (pre [UInt8.ofNat i] l)++Q1a j (cat (i+1) ls):=by unfold Q1a;rw [List.filter_append]
  rw [E,D,ih (i+1) j (by omega)];rcases Nat.lt_trichotomy i j with y|y|y
  ·rw [if_neg (by omega),if_pos (by omega),if_pos (by omega)];have:j - i=(j - (i+1))+1:=by omega
   rw [this];simp
  ·subst y;rw [if_pos rfl,if_neg (by omega),if_pos (Nat.le_refl _)];simp
  rw [if_neg (by omega),if_neg (by omega),if_neg (by omega)];rfl
theorem Qu5 {ls:List (List Rt)}:∀ {i:Nat},i+ls.length<=256->fl (cat i ls)=0->cat i ls≠[]->∃ (j k:Nat),j<k/\(∃ l,ls[j]?=some l/\l≠[])/\∃ l,ls[k]?=some l/\l≠[]:=by
 intro i O h E;unfold fl at h;cases hc:cat i ls with
 | nil=>exact absurd hc E
 | cons a l' =>
  rw [hc] at h;have K:(a::l').head?=some a:=rfl;have L:(a::l').getLast?=some ((a::l').getLast (by simp)):=getLast?_eq_some_getLast (by simp);rw [K,L] at h;simp only [Option.map_some,Option.getD_some] at h;obtain ⟨j,I,z,s,G,M⟩:=Q3i (i:=i) (ls:=ls) (r:=a) (by rw [hc];exact mem_cons_self);obtain ⟨k,J,D,t,H,N⟩:=Q3i (i:=i) (ls:=ls) (r:=(a::l').getLast (by simp)) (by rw [hc];exact List.getLast_mem _);rw [N,M] at h;have S:=(List.getElem?_eq_some_iff.1 z).1;have T:=(List.getElem?_eq_some_iff.1 D).1;have E:j≠k:=by
   intro e;subst e;unfold com at h;rw [if_pos rfl] at h;omega
  rcases Nat.lt_or_gt_of_ne E with y|y
  ·exact ⟨j,k,y,⟨I,z,ne_nil_of_mem G⟩,⟨J,D,ne_nil_of_mem H⟩⟩
  exact ⟨k,j,y,⟨J,D,ne_nil_of_mem H⟩,⟨I,z,ne_nil_of_mem G⟩⟩
theorem Qr9 {ls:List (List Rt)}:∀ {i:Nat} {j k:Nat} {lj lk:List Rt},i+ls.length<=256->j<k->ls[j]?=some lj->lj≠[]->ls[k]?=some lk->lk≠[]->fl (cat i ls)=0:=by
 induction ls with
 | nil=>intro i j k lj lk _ _ h;simp at h
 | cons l ls ih =>
  intro i j k lj lk J M y E D G;simp only [length_cons] at J;cases k with
  | zero=>omega
  | succ k =>
   simp only [getElem?_cons_succ] at D;have z:cat (i+1) ls≠[]:=fun e=>G ((Q3h ls (i+1)).1 e lk (List.mem_of_getElem? D));cases l with
   | nil =>
    have:cat i ([]::ls)=cat (i+1) ls:=rfl;rw [this];cases j with
    | zero=>simp only [getElem?_cons_zero,Option.some.injEq] at y;exact absurd y.symm E
    | succ j =>
     simp only [getElem?_cons_succ] at y;exact ih (by omega) (by omega) y E D G
   | cons r l =>
    unfold fl;have H:(cat i ((r::l)::ls)).head?=some (UInt8.ofNat i::r.1,r.2):=rfl;have I:(cat i ((r::l)::ls)).getLast?=(cat (i+1) ls).getLast?:=by
     show (pre [UInt8.ofNat i] (r::l)++cat (i+1) ls).getLast?=_;rw [List.getLast?_append];rw [getLast?_eq_some_getLast z];rfl
    rw [H,I,getLast?_eq_some_getLast z];obtain ⟨m,S,K,s,O,L⟩:=Q3i (i:=i+1) (ls:=ls) (List.getLast_mem z);have N:=(List.getElem?_eq_some_iff.1 K).1;rw [L];simp only [Option.map_some,Option.getD_some];refine Qua _ _ (fun e=>?_);have:=congrArg UInt8.toNat e;rw [Q1o (by omega),Q1o (by omega)] at this;omega
theorem Q62:∀ {ks:List Nd}{ls:List (List Rt)},rtsL ks=some ls->ls.length=ks.length/\∀ (i:Nat) (k:Nd),ks[i]?=some k->∃ l,ls[i]?=some l/\rts k=some l
 | [],ls,h=>by
  simp only [rtsL,Option.some.injEq] at h;subst h;exact ⟨rfl,fun i k h=>by simp at h⟩
 | k::ks,ls,h=>by
  unfold rtsL at h;cases h1:rts k with
  | none=>rw [h1] at h;simp at h
  | some l =>
   rw [h1] at h;dsimp only at h;cases h2:rtsL ks with
   | none=>rw [h2] at h;simp at h
   | some ls' =>
    rw [h2] at h;simp only [Option.some.injEq] at h;subst h;obtain ⟨z,D⟩:=Q62 h2;refine ⟨by simp [z],fun i E y=>?_⟩;cases i with
    | zero=>simp only [getElem?_cons_zero,Option.some.injEq] at y;subst y;exact ⟨l,rfl,h1⟩
    | succ i=>simp only [getElem?_cons_succ] at y;exact D i E y
theorem Qhb:∀ {ks:List Nd},(∀ k∈ks,∃ l,rts k=some l)->∃ ls,rtsL ks=some ls
 | [],_=>⟨[],rfl⟩
 | k::ks,h=>by
  obtain ⟨l,z⟩:=h k mem_cons_self;obtain ⟨ls,D⟩:=Qhb (ks:=ks) (fun E y=>h E (List.mem_cons_of_mem _ y));exact ⟨l::ls,by unfold rtsL;rw [z,D]⟩
theorem Q5e (d:Nat):∀ {ks:List Nd},rgtL d ks=true↔∀ k∈ks,rgt d k=true
 | []=>by simp [rgtL]
 | k::ks=>by simp [rgtL,Q5e d (ks:=ks)]
theorem Q44:∀ {ks:List Nd}{ks':List Pn},Q3o ks ks'=true↔ks.length=ks'.length/\∀ (i:Nat) k k',ks[i]?=some k->ks'[i]?=some k'->Q20 k k'=true
 | [],[]=>by simp [Q3o]
 | [],_::_=>by simp [Q3o]
 | _::_,[]=>by simp [Q3o]
 | k::ks,k'::ks'=>by
  simp only [Q3o,Bool.and_eq_true,Q44 (ks:=ks) (ks':=ks'),length_cons,Nat.add_right_cancel_iff];constructor
  ·rintro ⟨E,D,z⟩;refine ⟨D,fun i a b h y=>?_⟩;cases i with
   | zero=>simp only [getElem?_cons_zero,Option.some.injEq] at h y;subst h;subst y;exact E
   | succ i=>simp only [getElem?_cons_succ] at h y;exact z i a b h y
  rintro ⟨D,z⟩;exact ⟨z 0 k k' rfl rfl,D,fun i a b h y=>z (i+1) a b (by simpa using h) (by simpa using y)⟩
theorem Q85:∀ {ks:List Nd},1<=Q27 ks↔∃ (j:Nat) (a:Nd),ks[j]?=some a/\a.kd≠0
 | []=>by simp [Q27]
 | k::ks=>by
  have D:=Q85 (ks:=ks);unfold Q27;by_cases h:k.kd=0
  ·rw [if_pos h,Nat.zero_add,D];constructor
   ·rintro ⟨j,a,y,z⟩;exact ⟨j+1,a,by simpa using y,z⟩
   rintro ⟨j,a,y,z⟩;cases j with
   | zero=>simp only [getElem?_cons_zero,Option.some.injEq] at y;subst y;exact absurd h z
   | succ j=>exact ⟨j,a,by simpa using y,z⟩
  rw [if_neg h];exact ⟨fun _=>⟨0,k,rfl,h⟩,fun _=>by omega⟩
theorem Qcb:∀ {ks:List Nd},2<=Q27 ks↔∃ (i j:Nat) (a b:Nd),i<j/\ks[i]?=some a/\a.kd≠0/\ks[j]?=some b/\b.kd≠0
 | []=>by simp [Q27]
 | k::ks=>by
  have I:=Qcb (ks:=ks);have H:=Q85 (ks:=ks);unfold Q27;by_cases h:k.kd=0
  ·rw [if_pos h,Nat.zero_add,I];constructor
   ·rintro ⟨i,j,a,b,G,D,E,y,z⟩;exact ⟨i+1,j+1,a,b,by omega,by simpa using D,E,by simpa using y,z⟩
   rintro ⟨i,j,a,b,G,D,E,y,z⟩;cases i with
   | zero=>simp only [getElem?_cons_zero,Option.some.injEq] at D;subst D;exact absurd h E
   | succ i =>
    cases j with
    | zero=>omega
    | succ j=>exact ⟨i,j,a,b,by omega,by simpa using D,E,by simpa using y,z⟩
  rw [if_neg h];constructor
  ·intro E;obtain ⟨j,a,y,z⟩:=H.1 (by omega);exact ⟨0,j+1,k,a,by omega,rfl,h,by simpa using y,z⟩
  rintro ⟨i,j,a,b,G,D,E,y,z⟩;cases j with
  | zero=>omega
  | succ j =>
   have:=H.2 ⟨j,b,by simpa using y,z⟩;omega
def hdP (l:List Rt):Rt:=l.head?.getD ([],[])
theorem Q4j (n:Nat)(l:List Rt)(h:2<=l.length):grw (n+1) l=if 0<fl l then .mk 2 ((hdP l).1.take (fl l)) [] [grw n (Q0m (fl l) l)]
  else .mk 3 [] (if (hdP l).1=[] then (hdP l).2 else []) ((List.range 16).map fun i=>grw n (Q0m 1 (Q1a i (if (hdP l).1=[] then l.tail else l)))):=by
 cases l with
 | nil=>simp at h
 | cons r l =>
  cases l with
  | nil=>simp at h
  | cons r' l' =>
   have z:fl (r::r'::l')=com r.1 ((r'::l').getLast (by simp)).1:=by
    unfold fl;have y:(r::r'::l').getLast?=some ((r'::l').getLast (by simp)):=by rw [List.getLast?_cons_cons,getLast?_eq_some_getLast (by simp)]
    rw [y];rfl
   rw [z];rfl
def bdP (v:List UInt8)(ls:List (List Rt)):List Rt:=(if v=[] then [] else [([],v)])++cat 0 ls
theorem Qo9 {v:List UInt8}{ls:List (List Rt)}(h:bdP v ls≠[]):(if (hdP (bdP v ls)).1=[] then (hdP (bdP v ls)).2 else [])=v/\(if (hdP (bdP v ls)).1=[] then (bdP v ls).tail else bdP v ls)=cat 0 ls:=by
 unfold bdP at h |-;by_cases hv:v=[]
 ·subst hv;rw [if_pos rfl,List.nil_append] at h |-;cases hc:cat 0 ls with
  | nil=>exact absurd hc h
  | cons a l' =>
   obtain ⟨j,E,z,s,D,y⟩:=Q3i (i:=0) (ls:=ls) (r:=a) (by rw [hc];exact mem_cons_self);have:(hdP (a::l')).1≠[]:=by show a.1≠[];rw [y];simp
   rw [if_neg this,if_neg this];exact ⟨rfl,rfl⟩
 rw [if_neg hv];exact ⟨rfl,rfl⟩
theorem Qu6 {v:List UInt8}{ls:List (List Rt)}(h:v≠[]):fl (bdP v ls)=0:=by
 unfold fl bdP;rw [if_neg h];exact Q9v _
theorem Qs1 (f:Nat->Pn)(i:Nat)(x:Pn)(h:((List.range 16).map f)[i]?=some x):i<16/\x=f i:=by
 rw [List.getElem?_map] at h;have z:i<16:=by
  rcases Nat.lt_or_ge i 16 with y|y
  ·exact y
  rw [List.getElem?_eq_none (by simpa using y)] at h;simp at h
 rw [List.getElem?_range z] at h;simp only [Option.map_some,Option.some.injEq] at h;exact ⟨z,h.symm⟩
theorem Qfu {ls:List (List Rt)}(h:ls.length=16)(i:Nat):Q0m 1 (Q1a i (cat 0 ls))=ls[i]?.getD []:=by
 rw [Qpm ls 0 i (by omega),if_pos (Nat.zero_le _),Nat.sub_zero];exact Q4b [UInt8.ofNat i] _
theorem Q9m (m:Nat):grw m []=.mk 0 [] [] []:=by cases m <;> rfl
theorem Q3g (d:Nat):Q5s d=true↔d % 2=0/\d<=64:=by unfold Q5s;simp
theorem Qfj:∀ (n:Nat)(t:Nd),SizeOf.sizeOf t<=n->∀ d,rgt d t=true->∃ l,rts t=some l/\(∀ r∈l,Q54 d r)/\(t.kd≠0->l≠[])/\(t.kd=3->2<=l.length/\fl l=0)/\∀ m,(∀ r∈l,r.1.length<m)->Q20 t (grw m l)=true
 | 0,.mk kd pv p vv v kv ks,h,d,_=>by simp at h
 | n+1,.mk kd pv p vv v kv ks,h,d,y=>by
  have a8:∀ k∈ks,SizeOf.sizeOf k<=n:=by
   intro k D;have:=List.sizeOf_lt_of_mem D;simp only [Nd.mk.sizeOf_spec] at h;omega
  unfold rgt at y;by_cases h0:kd=0
  ·subst h0;exact ⟨[],by simp [rts],by simp,fun e=>absurd rfl e,fun e=>by simp [Nd.kd] at e,fun m _=>by rw [Q9m];simp [Q20]⟩
  rw [if_neg h0] at y;by_cases h1:kd=1
  ·subst h1;rw [if_pos rfl] at y;simp only [Bool.and_eq_true,decide_eq_true_eq,Q3g] at y;obtain ⟨⟨⟨hh,ak,al⟩,aw⟩,ax⟩:=y;refine ⟨[(p,v)],by simp [rts,hh],?_,by simp,fun e=>by simp [Nd.kd] at e,fun m M=>?_⟩
   ·intro r y;simp only [mem_singleton] at y;subst y;exact ⟨ak,al,aw,ax⟩
   cases m with
   | zero=>have:=M _ (mem_singleton.2 rfl);omega
   | succ m=>simp [grw,Q20]
  rw [if_neg h1] at y;by_cases h2:kd=2
  ·subst h2;rw [if_pos rfl] at y;simp only [Bool.and_eq_true,decide_eq_true_eq] at y;obtain ⟨⟨⟨⟨hp,hh⟩,L⟩,a7⟩,T⟩:=y;obtain ⟨k,rfl⟩:=List.length_eq_one_iff.1 L;simp only [getElem?_cons_zero,Option.map_some,Option.getD_some] at a7;rw [Q5e] at T;obtain ⟨l,G,S,aB,a3,ap⟩:=Qfj n k (a8 k (mem_singleton.2 rfl)) _ (T k (mem_singleton.2 rfl));obtain ⟨H,E⟩:=a3 a7;have I:l≠[]:=fun e=>by rw [e] at H;simp at H
   have y:rts (.mk 2 pv p vv v kv [k])=some (pre p l):=by
    simp [rts,hh,rtsL,G]
   refine ⟨pre p l,y,?_,?_,fun e=>by simp [Nd.kd] at e,?_⟩
   ·intro r y;obtain ⟨s,z,rfl⟩:=Q91 y;have:=S s z;unfold Q54 at this |-;simp only [length_append,<-Nat.add_assoc];exact this
   ·intro _ e;have:=congrArg List.length e;rw [Q2b] at this;simp at this;exact I this
   intro m M;have aa:∀ s∈l,p.length+s.1.length<m:=fun s z=>by have:=M _ (Q4d z);simpa using this
   cases m with
   | zero=>obtain ⟨s,z⟩:=exists_mem_of_ne_nil l I;have:=aa s z;omega
   | succ m =>
    have a0:fl (pre p l)=p.length:=by rw [Qnq p l I,E];rfl
    rw [Q4j m _ (by rw [Q2b];exact H),a0,if_pos hp,Q4b];have am:(hdP (pre p l)).1.take p.length=p:=by
     cases l with
     | nil=>exact absurd rfl I
     | cons a l=>simp [hdP,pre]
    rw [am];have:=ap m (fun r y=>by have:=aa r y;omega);simp [Q20,Q3o,this]
  rw [if_neg h2] at y;by_cases h3:kd=3
  ·subst h3;rw [if_pos rfl] at y;simp only [Bool.and_eq_true,decide_eq_true_eq,Bool.or_eq_true,Q3g] at y;obtain ⟨⟨⟨⟨L,hv⟩,K⟩,T⟩,a4⟩:=y;rw [Q5e] at T;have ih:=fun k (D:k∈ks)=>Qfj n k (a8 k D) _ (T k D);obtain ⟨ls,a'⟩:=Qhb (fun k D=>(ih k D).imp fun l L=>L.1);obtain ⟨aC,af⟩:=Q62 a';have y:rts (.mk 3 pv p vv v kv ks)=some (bdP v ls):=by
    simp [rts,a',L,bdP]
   have O:∀ (i:Nat) (k:Nd),ks[i]?=some k->∃ l,ls[i]?=some l/\(∀ r∈l,Q54 (d+1) r)/\(k.kd≠0->l≠[])/\∀ m,(∀ r∈l,r.1.length<m)->Q20 k (grw m l)=true:=by
    intro i k D;obtain ⟨l,G,S⟩:=af i k D;obtain ⟨l',a9,a,b,_,c⟩:=ih k (List.mem_of_getElem? D);rw [S] at a9;cases a9;exact ⟨l,G,a,b,c⟩
   have ao:∀ (i:Nat) (l:List Rt),ls[i]?=some l->∃ k,ks[i]?=some k:=by
    intro i l hi;have:=(List.getElem?_eq_some_iff.1 hi).1;exact ⟨ks[i]'(by omega),List.getElem?_eq_getElem (by omega)⟩
   have a0:fl (bdP v ls)=0/\2<=(bdP v ls).length:=by
    by_cases J:v=[]
    ·have ae:2<=Q27 ks:=by rw [J] at a4;simp at a4;exact a4
     obtain ⟨i,j,a,b,an,N,U,hb,ah⟩:=Qcb.1 ae;obtain ⟨la,V,_,Z,_⟩:=O i a N;obtain ⟨lb,aq,_,ar,_⟩:=O j b hb;have E:fl (cat 0 ls)=0:=Qr9 (by omega) an V (Z U) aq (ar ah);unfold bdP;rw [if_pos J,List.nil_append];refine ⟨E,?_⟩;obtain ⟨s,z⟩:=exists_mem_of_ne_nil la (Z U);have W:=Q4e (i:=0) V z
     match hc:cat 0 ls with
     | []=>rw [hc] at W;simp at W
     | [x] =>
      rw [hc] at E;obtain ⟨j,lj,hj,s,z,N⟩:=Q3i (i:=0) (ls:=ls) (r:=x) (by rw [hc];exact mem_cons_self);rw [N] at E;simp [fl,com] at E
     | _::_::_=>simp
    refine ⟨Qu6 J,?_⟩;have ab:1<=v.length:=by cases v with|nil=>exact absurd rfl J|cons _ _=>simp
    have ad:1<=Q27 ks:=by have h9:min v.length 1=1:=(by omega);omega
    obtain ⟨i,a,N,U⟩:=Q85.1 ad;obtain ⟨la,V,_,Z,_⟩:=O i a N;obtain ⟨s,z⟩:=exists_mem_of_ne_nil la (Z U);have W:=Q4e (i:=0) V z;have:=List.length_pos_of_mem W;unfold bdP;rw [if_neg J,length_append];simp only [List.length_singleton];omega
   obtain ⟨E,H⟩:=a0;have I:bdP v ls≠[]:=fun e=>by rw [e] at H;simp at H
   refine ⟨bdP v ls,y,?_,fun _=>I,fun _=>⟨H,E⟩,?_⟩
   ·intro r y;unfold bdP at y;rw [mem_append] at y;rcases y with y|y
    ·split at y
     ·simp at y
     rename_i J;simp only [mem_singleton] at y;subst y;have ab:v.length≠0:=fun e=>J (List.eq_nil_of_length_eq_zero e);rcases K with K|K
     ·exact absurd K ab
     exact ⟨by simpa using K.1,by simpa using K.2,by show 0<v.length;omega,hv⟩
    obtain ⟨j,l,hj,s,z,rfl⟩:=Q3i y;obtain ⟨k,D⟩:=ao j l hj;obtain ⟨l',G,S,_⟩:=O j k D;rw [hj] at G;cases G;have:=S s z;unfold Q54 at this |-;simp only [length_cons];obtain ⟨a,b,c,e⟩:=this;exact ⟨by omega,by omega,c,e⟩
   intro m M;cases m with
   | zero=>obtain ⟨s,z⟩:=exists_mem_of_ne_nil _ I;have:=M s z;omega
   | succ m =>
    obtain ⟨ai,aj⟩:=Qo9 I;rw [Q4j m _ H,E,if_neg (by omega),ai,aj];have:Q3o ks ((List.range 16).map fun i=>grw m (Q0m 1 (Q1a i (cat 0 ls))))=true:=by
     rw [Q44];refine ⟨by simp [L],fun i k x D hx=>?_⟩;obtain ⟨hi,rfl⟩:=Qs1 _ i x hx;obtain ⟨l,G,_,_,a3⟩:=O i k D;rw [Qfu (by omega) i,G];refine a3 m (fun r y=>?_);have:=M (UInt8.ofNat (0+i)::r.1,r.2) (by unfold bdP;rw [mem_append];exact .inr (Q4e G y));simp only [length_cons] at this;omega
    simp [Q20,this]
  rw [if_neg h3] at y;simp at y
theorem Qg5:∀ (n:Nat)(t:Nd),SizeOf.sizeOf t<=n->∀ d l m,rts t=some l->(∀ r∈l,Q54 d r)->(∀ r∈l,r.1.length<m)->Q20 t (grw m l)=true->rgt d t=true
 | 0,.mk kd pv p vv v kv ks,h,d,l,m,_,_,_,_=>by simp at h
 | n+1,.mk kd pv p vv v kv ks,h,d,l,m,y,hf,hm,z=>by
  have a4:∀ k∈ks,SizeOf.sizeOf k<=n:=by
   intro k I;have:=List.sizeOf_lt_of_mem I;simp only [Nd.mk.sizeOf_spec] at h;omega
  unfold rts at y;by_cases hh:(kd=1∨kd=2)/\half p=false
  ·rw [if_pos hh] at y;simp at y
  rw [if_neg hh] at y;by_cases h0:kd=0
  ·unfold rgt;rw [if_pos h0]
  rw [if_neg h0] at y;by_cases N:kd=1
  ·subst N;rw [if_pos rfl] at y;simp only [Option.some.injEq] at y;subst y;obtain ⟨a,b,c,e⟩:=hf _ (mem_singleton.2 rfl);have W:half p=true:=by cases H:half p with|true=>rfl|false=>exact absurd ⟨.inl rfl,H⟩ hh
   unfold rgt;simp only [Int.reduceEq,reduceIte,Bool.and_eq_true,decide_eq_true_eq,Q3g];exact ⟨⟨⟨W,a,b⟩,c⟩,e⟩
  rw [if_neg N] at y;by_cases E:kd=2/\ks.length=1
  ·rw [if_pos E] at y;obtain ⟨E,Z⟩:=E;subst E;obtain ⟨k,rfl⟩:=List.length_eq_one_iff.1 Z;have W:half p=true:=by cases H:half p with|true=>rfl|false=>exact absurd ⟨.inr rfl,H⟩ hh
   cases J:rts k with
   | none=>simp [rtsL,J] at y
   | some l' =>
    simp only [rtsL,J,Option.map_some,List.flatten_cons,List.flatten_nil,List.append_nil,Option.some.injEq] at y;subst y;have D:2<=(pre p l').length:=by
     match G:pre p l' with
     | []=>rw [G,Q9m] at z;simp [Q20] at z
     | [x]=>rw [G] at z;cases m<;>simp [Q20,grw] at z
     | _::_::_=>simp
    cases m with
    | zero=>simp [grw,Q20] at z
    | succ m =>
     rw [Q4j m _ D] at z;rw [Q2b] at D;have L:l'≠[]:=fun e=>by rw [e] at D;simp at D
     have aB:=Qnq p l' L;split at z
     ·rename_i a6;simp only [Q20,Q3o,ne_eq,not_true_eq_false,reduceIte,Int.reduceEq,Bool.and_eq_true,beq_iff_eq,and_true] at z;obtain ⟨ar,M⟩:=z;have aA:fl (pre p l')<=(hdP (pre p l')).1.length:=by
       unfold fl hdP;cases G:pre p l' with
       | nil=>simp [com]
       | cons a q=>exact (Q30 _ _).1
      have ap:p.length=fl (pre p l'):=by
       have:=congrArg List.length ar;rw [List.length_take] at this;omega
      have ad:fl l'=0:=by omega
      rw [<-ap,Q4b] at M;have a5:∀ r∈l',r.1.length<m:=by
       intro r y;have:=hm _ (Q4d (p:=p) y);simp only [length_append] at this;omega
      have ae:∀ r∈l',Q54 (d+p.length) r:=by
       intro r y;have:=hf _ (Q4d (p:=p) y);unfold Q54 at this |-;simp only [length_append,<-Nat.add_assoc] at this;exact this
      have aq:=Qg5 n k (a4 k (mem_singleton.2 rfl)) _ _ _ J ae a5 M;have ai:k.kd=3:=by
       cases m with
       | zero=>obtain ⟨s,z⟩:=exists_mem_of_ne_nil l' L;have:=a5 s z;omega
       | succ m =>
        rw [Q4j m _ D,ad,if_neg (by omega)] at M;obtain ⟨S,ax,p',az,v',au,ks'⟩:=k;unfold Q20 at M;show S=3;by_cases H:S=3
        ·exact H
        rw [if_pos H] at M;simp at M
      unfold rgt;simp only [Int.reduceEq,reduceIte,Bool.and_eq_true,decide_eq_true_eq,rgtL,aq,W,List.length_singleton,getElem?_cons_zero,Option.map_some,Option.getD_some,ai,and_true];omega
     simp [Q20] at z
  rw [if_neg E] at y;by_cases O:kd=3/\ks.length=16
  ·rw [if_pos O] at y;obtain ⟨O,Z⟩:=O;subst O;cases hls:rtsL ks with
   | none=>rw [hls] at y;simp at y
   | some ls =>
    rw [hls] at y;simp only [Option.map_some,Option.some.injEq] at y;change bdP v ls=l at y;subst y;obtain ⟨aD,a3⟩:=Q62 hls;have D:2<=(bdP v ls).length:=by
     match G:bdP v ls with
     | []=>rw [G,Q9m] at z;simp [Q20] at z
     | [x]=>rw [G] at z;cases m<;>simp [Q20,grw] at z
     | _::_::_=>simp
    have L:bdP v ls≠[]:=fun e=>by rw [e] at D;simp at D
    cases m with
    | zero=>simp [grw,Q20] at z
    | succ m =>
     rw [Q4j m _ D] at z;split at z
     ·simp [Q20] at z
     rename_i a6;obtain ⟨aa,ab⟩:=Qo9 L;rw [aa,ab] at z;simp only [Q20,ne_eq,not_true_eq_false,reduceIte,Int.reduceEq,Bool.and_eq_true,beq_iff_eq,true_and,Q44] at z;obtain ⟨_,z⟩:=z;have J:∀ k∈ks,rgt (d+1) k=true:=by
      intro k I;obtain ⟨i,K⟩:=List.getElem?_of_mem I;obtain ⟨T,a0,J⟩:=a3 i k K;have af:i<16:=by have:=(List.getElem?_eq_some_iff.1 K).1;omega
      have a7:=z i k (grw m (Q0m 1 (Q1a i (cat 0 ls)))) K (by rw [List.getElem?_map,List.getElem?_range af];rfl);rw [Qfu (by omega) i,a0] at a7;refine Qg5 n k (a4 k I) _ _ _ J (fun r y=>?_) (fun r y=>?_) a7
      ·have:=hf (UInt8.ofNat (0+i)::r.1,r.2) (by unfold bdP;rw [mem_append];exact .inr (Q4e a0 y));unfold Q54 at this |-;simp only [length_cons] at this;obtain ⟨a,b,c,e⟩:=this;exact ⟨by omega,by omega,c,e⟩
      have:=hm (UInt8.ofNat (0+i)::r.1,r.2) (by unfold bdP;rw [mem_append];exact .inr (Q4e a0 y));simp only [length_cons] at this;omega
     have a1:∀ (i:Nat) (T:List Rt),ls[i]?=some T->T≠[]->∃ k,ks[i]?=some k/\k.kd≠0:=by
      intro i T K hn;have aC:=(List.getElem?_eq_some_iff.1 K).1;have I:ks[i]?=some (ks[i]'(by omega)):=List.getElem?_eq_getElem (by omega);refine ⟨_,I,fun e=>hn ?_⟩;obtain ⟨aF,N,E⟩:=a3 i _ I;rw [K] at N;cases N
      revert e E
      generalize ks[i]'(by omega)=k;intro e E;obtain ⟨S,ax,p',az,v',au,ks'⟩:=k;change S=0 at e;subst e;simp [rts] at E;exact E
     have a8:v.length<=1024/\(v.length=0∨Q5s d=true):=by
      by_cases hvn:v=[]
      ·subst hvn;exact ⟨by simp,.inl rfl⟩
      obtain ⟨a,b,c,e⟩:=hf ([],v) (by unfold bdP;rw [if_neg hvn];simp);exact ⟨e,.inr ((Q3g d).2 ⟨by simpa using a,by simpa using b⟩)⟩
     have al:2<=min v.length 1+Q27 ks:=by
      by_cases hvn:v=[]
      ·have ac:bdP v ls=cat 0 ls:=by unfold bdP;rw [if_pos hvn];rfl
       rw [ac] at L a6;obtain ⟨j,k,ah,⟨lj,aj,an⟩,lk,ak,ao⟩:=Qu5 (i:=0) (ls:=ls) (by omega) (by omega) L;obtain ⟨a,U,V⟩:=a1 j lj aj an;obtain ⟨b,hb,a'⟩:=a1 k lk ak ao;have:=Qcb.2 ⟨j,k,a,b,ah,U,V,hb,a'⟩;omega
      have aE:1<=v.length:=by cases v with|nil=>exact absurd rfl hvn|cons _ _=>simp
      have G:cat 0 ls≠[]:=by
       intro e;unfold bdP at D;rw [e,if_neg hvn] at D;simp at D
      obtain ⟨x,H⟩:=exists_mem_of_ne_nil _ G;obtain ⟨j,lj,hj,s,z,_⟩:=Q3i H;obtain ⟨a,U,V⟩:=a1 j lj hj (ne_nil_of_mem z);have:=Q85.2 ⟨j,a,U,V⟩;have:min v.length 1=1:=by omega
      omega
     unfold rgt;simp only [Int.reduceEq,reduceIte,Bool.and_eq_true,decide_eq_true_eq,Bool.or_eq_true,Q5e];exact ⟨⟨⟨⟨Z,a8.1⟩,a8.2⟩,J⟩,al⟩
  rw [if_neg O] at y;simp at y
theorem Qrx (t:Nd)(m:Nat)(G:65<=m):rgt 0 t=match rts t with|none=>false|some l=>l.all (fun r=>decide (Q54 0 r)) && Q20 t (grw m l):=by
 cases h:rgt 0 t with
 | true =>
  obtain ⟨l,y,z,_,_,D⟩:=Qfj (SizeOf.sizeOf t) t (Nat.le_refl _) 0 h;rw [y];dsimp only;have E:=D m (fun r h=>by have:=(z r h).2.1;omega);rw [E,Bool.and_true];symm;rw [List.all_eq_true];exact fun r h=>decide_eq_true (z r h)
 | false =>
  cases hl:rts t with
  | none=>rfl
  | some l =>
   dsimp only;symm;rw [<-Bool.not_eq_true,Bool.and_eq_true,List.all_eq_true];rintro ⟨y,z⟩;have:=Qg5 (SizeOf.sizeOf t) t (Nat.le_refl _) 0 l m hl (fun r h=>of_decide_eq_true (y r h)) (fun r h=>by have:=(of_decide_eq_true (y r h)).2.1;omega) z;rw [this] at h;simp at h
def ltP:List UInt8->List UInt8->Prop
 | [],[]=>False
 | [],_::_=>True
 | _::_,[]=>False
 | x::p,y::q=>x.toNat<y.toNat∨(x=y/\ltP p q)
def leP (p q:List UInt8):Prop:=p=q∨ltP p q
theorem Qse (a:List UInt8){p q:List UInt8}(h:ltP p q):ltP (a++p) (a++q):=by
 induction a with
 | nil=>exact h
 | cons x a ih=>exact .inr ⟨rfl,ih⟩
theorem Qnz:∀ {a b c:List UInt8},leP a b->leP b c->com a c<=com a b
 | [],b,c,_,_=>by rw [Q9v];omega
 | x::a,[],c,h,_=>by rcases h with h|h;simp at h;exact h.elim
 | x::a,y::b,[],_,h=>by rcases h with h|h;simp at h;exact h.elim
 | x::a,y::b,z::c,D,E=>by
  by_cases hxz:x=z
  ·subst hxz;have I:x=y:=by
    apply UInt8.toNat_inj.1;rcases D with D|D|D
    ·rw [(List.cons.inj D).1]
    ·rcases E with E|E|E
     ·rw [(List.cons.inj E).1] at D;omega
     ·omega
     rw [E.1] at D;omega
    rw [D.1]
   subst I;have G:leP a b:=by
    rcases D with D|D|D
    ·exact .inl (List.cons.inj D).2
    ·omega
    exact .inr D.2
   have H:leP b c:=by
    rcases E with E|E|E
    ·exact .inl (List.cons.inj E).2
    ·omega
    exact .inr E.2
   have:=Qnz G H;simp only [com,if_pos];omega
  unfold com;rw [if_neg hxz];omega
theorem Qi0:∀ (c:Nat){p q:List UInt8},ltP p q->c<=com p q->ltP (p.drop c) (q.drop c)
 | 0,p,q,h,_=>h
 | c+1,[],q,_,h=>by rw [Q9v] at h;omega
 | c+1,x::p,[],h,_=>h.elim
 | c+1,x::p,y::q,h,hc=>by
  unfold com at hc;split at hc
  ·rename_i e;subst e;rcases h with h|h
   ·omega
   exact Qi0 c h.2 (by omega)
  omega
theorem Qmv {p q:List UInt8}(h:ltP p q):q≠[]:=by
 intro e;subst e;cases p<;>exact h.elim
theorem Q4z:∀ {a b c:List UInt8},ltP a b->ltP b c->ltP a c
 | [],b,[],_,D=>absurd rfl (Qmv D)
 | [],_,_::_,_,_=>trivial
 | x::a,[],_,h,_=>h.elim
 | x::a,y::b,[],_,h=>h.elim
 | x::a,y::b,z::c,E,D=>by
  rcases E with E|E
  ·rcases D with D|D
   ·left;omega
   left;rw [<-D.1];exact E
  rcases D with D|D
  ·left;rw [E.1];exact D
  right;exact ⟨E.1.trans D.1,Q4z E.2 D.2⟩
def Ord (l:List Rt):Prop:=l.Pairwise fun r s=>ltP r.1 s.1
theorem Qm9 (p:List UInt8){l:List Rt}(h:Ord l):Ord (pre p l):=by
 unfold Ord pre;rw [List.pairwise_map];exact h.imp fun h=>Qse p h
theorem Qs5 {ls:List (List Rt)}:∀ {i:Nat},i+ls.length<=256->(∀ l∈ls,Ord l)->Ord (cat i ls):=by
 induction ls with
 | nil=>intro i _ _;exact List.Pairwise.nil
 | cons l ls ih =>
  intro i y h;simp only [length_cons] at y;unfold Ord cat;rw [List.pairwise_append];refine ⟨Qm9 _ (h l mem_cons_self),ih (by omega) (fun m D=>h m (List.mem_cons_of_mem _ D)),?_⟩;intro r E s G;obtain ⟨I,_,rfl⟩:=Q91 E;obtain ⟨j,m,z,J,_,rfl⟩:=Q3i G;have H:=(List.getElem?_eq_some_iff.1 z).1;left
  rw [Q1o (by omega),Q1o (by omega)];omega
theorem Qm8:∀ (n:Nat)(t:Nd),SizeOf.sizeOf t<=n->∀ l,rts t=some l->Ord l
 | 0,.mk kd pv p vv v kv ks,h,l,_=>by simp at h
 | n+1,.mk kd pv p vv v kv ks,h,l,y=>by
  have G:∀ k∈ks,∀ l,rts k=some l->Ord l:=by
   intro k z;have:=List.sizeOf_lt_of_mem z;simp only [Nd.mk.sizeOf_spec] at h;exact Qm8 n k (by omega)
  unfold rts at y;split at y
  ·simp at y
  split at y
  ·simp only [Option.some.injEq] at y;subst y;exact List.Pairwise.nil
  split at y
  ·simp only [Option.some.injEq] at y;subst y;exact List.pairwise_singleton _ _
  split at y
  ·rename_i D;obtain ⟨k,rfl⟩:=List.length_eq_one_iff.1 D.2;cases z:rts k with
   | none=>simp [rtsL,z] at y
   | some m =>
    simp only [rtsL,z,Option.map_some,List.flatten_cons,List.flatten_nil,List.append_nil,Option.some.injEq] at y;subst y;exact Qm9 p (G k (mem_singleton.2 rfl) m z)
  split at y
  ·rename_i D;cases hls:rtsL ks with
   | none=>rw [hls] at y;simp at y
   | some ls =>
    rw [hls] at y;simp only [Option.map_some,Option.some.injEq] at y;subst y;obtain ⟨O,I⟩:=Q62 hls;have J:Ord (cat 0 ls):=by
     refine Qs5 (by omega) (fun m K=>?_);obtain ⟨i,E⟩:=List.getElem?_of_mem K;have M:=(List.getElem?_eq_some_iff.1 E).1;obtain ⟨S,H,z⟩:=I i (ks[i]'(by omega)) (List.getElem?_eq_getElem (by omega));rw [E] at H;cases H;exact G _ (List.getElem_mem _) m z
    unfold Ord;rw [List.pairwise_append];refine ⟨by split;exact List.Pairwise.nil;exact List.pairwise_singleton _ _,J,?_⟩;intro r y s L;split at y
    ·simp at y
    rw [mem_singleton] at y;subst y;obtain ⟨j,m,N,T,_,rfl⟩:=Q3i L;exact trivial
  simp at y
def Q6x (l:List Rt):List Rt:=if (hdP l).1=[] then l.tail else l
def OkR:Nat->List Rt->Prop
 | 0,l=>l=[]
 | n+1,l=>l.length<=1∨(0<fl l/\(∀ r∈l,fl l<=r.1.length)/\OkR n (Q0m (fl l) l))∨(fl l=0/\(∀ r∈Q6x l,r.1≠[])/\∀ i<16,OkR n (Q0m 1 (Q1a i (Q6x l))))
theorem Qtp {l:List Rt}(h:Ord l):∀ r∈l,leP (hdP l).1 r.1/\leP r.1 ((l.getLast?.map (·.1)).getD []):=by
 intro r y;cases l with
 | nil=>simp at y
 | cons a l =>
  constructor
  ·rcases mem_cons.1 y with rfl|y
   ·exact .inl rfl
   exact .inr ((pairwise_cons.1 h).1 r y)
  rw [getLast?_eq_some_getLast (by simp)];have z:(a::l)=(a::l).dropLast++[(a::l).getLast (by simp)]:=(List.dropLast_concat_getLast (by simp)).symm;unfold Ord at h;rw [z,List.pairwise_append] at h;rw [z,mem_append,mem_singleton] at y;rcases y with y|y
  ·exact .inr (h.2.2 r y _ (mem_singleton.2 rfl))
  rw [y];exact .inl rfl
theorem Q95 {l:List Rt}(c:Nat)(h:Ord l)(y:∀ r∈l,∀ s∈l,ltP r.1 s.1->c<=com r.1 s.1):Ord (Q0m c l):=by
 unfold Ord Q0m;rw [List.pairwise_map];refine List.Pairwise.imp_of_mem (fun {r s} hr hs h=>?_) h;exact Qi0 c h (y r hr s hs h)
theorem Q8b {p q:List UInt8}{c:Nat}(h:c<=com p q):q.take c=p.take c/\c<=p.length/\c<=q.length:=by
 have D:=Q30 p q;refine ⟨?_,by omega,by omega⟩;apply List.ext_getElem
 ·simp;omega
 intro k y z;simp only [List.length_take] at y z;rw [List.getElem_take,List.getElem_take];exact (Qif p q k (by omega)).symm
theorem Qgb {p q:List UInt8}:∀ {c:Nat},c<=p.length->c<=q.length->p.take c=q.take c->c<=com p q:=by
 induction p generalizing q with
 | nil=>intro c z _ _;simp at z;omega
 | cons x p ih =>
  intro c z D h;cases q with
  | nil=>simp at D;omega
  | cons y q =>
   cases c with
   | zero=>omega
   | succ c =>
    simp only [List.take_succ_cons,List.cons.injEq] at h;unfold com;rw [if_pos h.1];have:=ih (q:=q) (c:=c) (by simpa using z) (by simpa using D) h.2;omega
theorem Qhs:∀ (m:Nat)(l:List Rt),Ord l->(∀ r∈l,r.1.length<m)->OkR m l
 | 0,l,_,h=>by
  cases l with
  | nil=>rfl
  | cons a l=>have:=h a mem_cons_self;omega
 | m+1,l,ho,h=>by
  unfold OkR;by_cases h1:l.length<=1
  ·exact .inl h1
  right
  have O:l≠[]:=fun e=>by rw [e] at h1;simp at h1
  have S:=Qtp ho;have I:∀ r∈l,fl l<=com (hdP l).1 r.1:=by
   intro r z;have h2:=Qnz (S r z).1 (S r z).2;have:fl l=com (hdP l).1 ((l.getLast?.map (·.1)).getD []):=by
    cases l with
    | nil=>exact absurd rfl O
    | cons a l=>rfl
   omega
  rcases Nat.eq_zero_or_pos (fl l) with H|H
  ·right
   have E:∀ r∈Q6x l,r.1≠[]/\r∈l:=by
    intro r z;unfold Q6x at z;cases l with
    | nil=>exact absurd rfl O
    | cons a l =>
     split at z
     ·exact ⟨Qmv ((pairwise_cons.1 ho).1 r z),List.mem_cons_of_mem _ z⟩
     rename_i ha;refine ⟨?_,z⟩;rcases mem_cons.1 z with rfl|z
     ·exact ha
     exact Qmv ((pairwise_cons.1 ho).1 r z)
   refine ⟨H,fun r z=>(E r z).1,fun i hi=>?_⟩;have a9:(Q6x l).Sublist l:=by unfold Q6x;split;exact List.tail_sublist l;exact List.Sublist.refl _
   have a6:Ord (Q1a i (Q6x l)):=(List.Pairwise.sublist (List.filter_sublist.trans a9) ho);have J:∀ r∈Q1a i (Q6x l),r∈Q6x l/\(r.1[0]?.getD 0).toNat=i:=by
    intro r z;unfold Q1a at z;have:=List.mem_filter.1 z;exact ⟨this.1,of_decide_eq_true this.2⟩
   refine Qhs m _ (Q95 1 a6 (fun r z s D _=>?_)) (fun r z=>?_)
   ·obtain ⟨r1,K⟩:=J r z;obtain ⟨G,L⟩:=J s D;have a7:=(E r r1).1;have a8:=(E s G).1;obtain ⟨x,p,T⟩:∃ x p,r.1=x::p:=by cases hh:r.1 with|nil=>exact absurd hh a7|cons x p=>exact ⟨x,p,rfl⟩
    obtain ⟨y,q,U⟩:∃ x p,s.1=x::p:=by cases hh:s.1 with|nil=>exact absurd hh a8|cons x p=>exact ⟨x,p,rfl⟩
    rw [T] at K;rw [U] at L;simp only [getElem?_cons_zero,Option.getD_some] at K L;have:x=y:=UInt8.toNat_inj.1 (K.trans L.symm);rw [T,U,this];unfold com;rw [if_pos rfl];omega
   unfold Q0m at z;obtain ⟨s,D,rfl⟩:=mem_map.1 z;obtain ⟨G,_⟩:=J s D;have h3:=h s (E s G).2;have M:=(E s G).1;have:0<s.1.length:=List.length_pos_iff.2 M;simp only [List.length_drop];omega
  left
  have N:∀ r∈l,fl l<=r.1.length:=fun r z=>by have:=I r z;have:=Q30 (hdP l).1 r.1;omega
  refine ⟨H,N,Qhs m _ (Q95 _ ho (fun r z s D _=>?_)) (fun r z=>?_)⟩
  ·obtain ⟨V,a2,W⟩:=Q8b (I r z);obtain ⟨Z,b2,b3⟩:=Q8b (I s D);exact Qgb W b3 (V.trans Z.symm)
  unfold Q0m at z;obtain ⟨s,D,rfl⟩:=mem_map.1 z;have h3:=h s D;have M:=N s D;simp only [List.length_drop];omega
end Go.Proofs.YtbdmkfjgnjfjbaaGreat
