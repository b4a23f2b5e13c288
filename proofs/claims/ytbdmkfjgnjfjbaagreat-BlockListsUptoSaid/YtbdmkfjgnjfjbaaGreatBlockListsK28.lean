/- The walk of the law RootReads. | What codes show of a key: plain Lean. | The reference's way. | The codes on the way to a key: plain Lean. | proof.size. | proof -/
import Derived.Test.YtbdmkfjgnjfjbaaGreatBlockListsK27
import Derived.Test.YtbdmkfjgnjfjbaaGreatBlockListsK24
import Derived.Test.YtbdmkfjgnjfjbaaGreatBlockListsK02
import Derived.Test.YtbdmkfjgnjfjbaaGreatBlockListsK05
import Derived.Test.YtbdmkfjgnjfjbaaGreatBlockListsK03
import Derived.Test.YtbdmkfjgnjfjbaaGreatBlockListsK20
import Derived.Test.YtbdmkfjgnjfjbaaGreatBlockListsK01
set_option linter.unusedSimpArgs false
set_option linter.unusedVariables false
set_option maxHeartbeats 4000000
set_option maxRecDepth 100000
open List (getElem?_eq_getElem getElem?_map getElem_mem length_append length_cons length_map mem_cons_self nil_append reverse_nil take_nil take_succ_cons take_zero)
namespace Go.Proofs.YtbdmkfjgnjfjbaaGreat
open Go.RowKit
theorem Qll (a:Option Addr)(L c:Nat)(b:List UInt8)(z:b.length=L)(D:L<=1048576)(w:World)(h:Q02 w (.slice a L c) b):Calls Tryz.prog 100 #[.slice a L c] w (Q3x (rdB b) w):=by
 cases hd:dec b with
 | none =>
  have y:rdB b=none:=by unfold rdB;rw [hd]
  rw [y];exact Qrz a L c b z D hd w h
 | some p =>
  cases hs:shpP p with
  | none =>
   have y:rdB b=none:=by unfold rdB;rw [hd];dsimp only;rw [hs]
   rw [y];exact Qpe a L c b z D p hd hs w h
  | some s =>
   have y:rdB b=if okQ s=true then some s else none:=by unfold rdB;rw [hd];dsimp only;rw [hs]
   rw [y];cases ho:okQ s with
   | false=>exact Qpf a L c b z D p s hd hs ho w h
   | true=>exact Qpd a L c b z D p s hd hs ho w h
theorem Qs0 {b:List UInt8}{s:Shq}(h:rdB b=some s)(y:b.length<=1048576):okQ s=true/\s.2.1.length<=4194304/\s.2.2.1.length<=1048576/\s.2.2.2.length<=1048576/\∀ t∈s.2.2.2,t.length<=1048576:=by
 unfold rdB at h;cases hd:dec b with
 | none=>rw [hd] at h;simp at h
 | some p =>
  rw [hd] at h;dsimp only at h;cases hs:shpP p with
  | none=>rw [hs] at h;simp at h
  | some s2 =>
   rw [hs] at h;dsimp only at h;split at h
   ·rename_i z;simp only [Option.some.injEq] at h;subst h;exact ⟨z,Ql7 hs (by rw [<-Q36 hd];exact y)⟩
   simp at h
def nxtP (s:Shq)(p:List UInt8):List UInt8 × List UInt8 × List UInt8 :=
 if s.1=1 then (if s.2.1=p then ([],[],s.2.2.1) else ([],[],[]))
 else if s.1=2 then (if com s.2.1 p=s.2.1.length then (s.2.2.2[0]?.getD [],p.drop s.2.1.length,[]) else ([],[],[]))
 else if s.1=3 then (match p with
  | []=>([],[],s.2.2.1)
  | x::p=>(s.2.2.2[x.toNat]?.getD [],p,[]))
 else ([],[],[])
def shw (h left:List UInt8):Bool->List (List UInt8)->List UInt8 × Int
 | _,[]=>([],5)
 | first,c::cs=>if sumB c=h then
   (match rdB c with
   | none=>([],1)
   | some s=>if first=false/\s.1=0 then ([],1)
    else if (nxtP s left).1=[] then (if cs=[] then ((nxtP s left).2.2,0) else ([],6))
    else shw (nxtP s left).1 (nxtP s left).2.1 false cs)
  else ([],4)
theorem Q97 {s:Shq}(h:okQ s=true):s.1=0∨s.1=1∨(s.1=2/\s.2.2.2.length=1/\(s.2.2.2[0]?.getD []).length=32)∨(s.1=3/\s.2.2.2.length=16/\∀ k∈s.2.2.2,k.length=32∨k.length=0):=by
 unfold okQ shOk at h;by_cases h0:s.1=0
 ·exact .inl h0
 rw [if_neg h0] at h;by_cases h1:s.1=1
 ·exact .inr (.inl h1)
 rw [if_neg h1] at h;by_cases h2:s.1=2
 ·rw [if_pos h2] at h;simp only [Bool.and_eq_true,decide_eq_true_eq] at h;exact .inr (.inr (.inl ⟨h2,h.1.2,h.2⟩))
 rw [if_neg h2] at h;by_cases h3:s.1=3
 ·rw [if_pos h3] at h;simp only [Bool.and_eq_true,decide_eq_true_eq,List.all_eq_true] at h;refine .inr (.inr (.inr ⟨h3,h.1.1.1,fun k y=>?_⟩));have:=h.1.2 k y;unfold Q2j at this;simpa using this
 rw [if_neg h3] at h;simp at h
theorem Qcz (p:List UInt8):∀ q,com p q=p.length↔p.length<=q.length/\q.take p.length=p:=by
 induction p with
 | nil=>intro q;cases q<;>simp [com]
 | cons x p ih =>
  intro q;cases q with
  | nil=>simp [com]
  | cons y q =>
   unfold com;by_cases h:x=y
   ·subst h;rw [if_pos rfl];have:=ih q;simp only [length_cons,take_succ_cons,List.cons.injEq,true_and];constructor
    ·intro e;obtain ⟨D,z⟩:=this.1 (by omega);exact ⟨by omega,z⟩
    rintro ⟨D,z⟩;have:=this.2 ⟨by omega,z⟩;omega
   rw [if_neg h];simp only [length_cons,take_succ_cons,List.cons.injEq];constructor
   ·intro e;omega
   rintro ⟨_,z,_⟩;exact absurd z.symm h
def wayP (kd:Int)(p q:List UInt8):Int × List UInt8 × Bool :=
 if kd=1 then (-1,[],p==q)
 else if kd=2 then (if p.length<=q.length/\q.take p.length=p then (0,q.drop p.length,false) else (-1,[],false))
 else if kd=3 then (match q with
  | []=>(-1,[],true)
  | x::q=>((x.toNat:Int),q,false))
 else (-1,[],false)
theorem Qgu {s:Shq}(h:okQ s=true)(q:List UInt8)(I:∀ x∈q,x.toNat<16) :
  ((wayP s.1 s.2.1 q).1=-1/\(nxtP s q).1=[]/\(nxtP s q).2.2=if (wayP s.1 s.2.1 q).2.2=true then s.2.2.1 else []) ∨
  ∃ k:Nat,(wayP s.1 s.2.1 q).1=(k:Int)/\k<s.2.2.2.length/\(nxtP s q).1=s.2.2.2[k]?.getD []/\(nxtP s q).2.1=(wayP s.1 s.2.1 q).2.1/\(nxtP s q).2.2=[]/\(wayP s.1 s.2.1 q).2.2=false/\((nxtP s q).1.length=32∨(nxtP s q).1.length=0):=by
 rcases Q97 h with y|z|⟨D,J,E⟩|⟨G,K,H⟩
 ·left
  unfold wayP nxtP;rw [y];simp
 ·left
  unfold wayP nxtP;rw [z];by_cases he:s.2.1=q
  ·simp [he]
  have:(s.2.1==q)=false:=by rw [beq_eq_false_iff_ne];exact he
  simp [he]
 ·unfold wayP nxtP;simp only [D,Int.reduceEq,reduceIte];by_cases hc:com s.2.1 q=s.2.1.length
  ·right
   rw [if_pos hc,if_pos ((Qcz _ _).1 hc)];exact ⟨0,rfl,by omega,rfl,rfl,rfl,rfl,.inl E⟩
  left
  rw [if_neg hc,if_neg (fun e=>hc ((Qcz _ _).2 e))];exact ⟨rfl,rfl,rfl⟩
 unfold wayP nxtP;simp only [G,Int.reduceEq,reduceIte];cases q with
 | nil=>left;exact ⟨rfl,rfl,rfl⟩
 | cons x q =>
  right
  have L:=I x mem_cons_self;refine ⟨x.toNat,rfl,by omega,rfl,rfl,rfl,rfl,?_⟩;dsimp only;have:s.2.2.2[x.toNat]?=some (s.2.2.2[x.toNat]'(by omega)):=getElem?_eq_getElem (by omega);rw [this];exact H _ (getElem_mem _)
theorem Qhu {s:Shq}{q:List UInt8}(z:∀ x∈q,x.toNat<16):∀ x∈(nxtP s q).2.1,x.toNat<16:=by
 intro x h;unfold nxtP at h;split at h
 ·split at h<;>simp at h
 split at h
 ·split at h
  ·exact z x (List.mem_of_mem_drop h)
  simp at h
 split at h
 ·cases q with
  | nil=>simp at h
  | cons y q=>exact z x (List.mem_cons_of_mem _ h)
 simp at h
theorem Qkj (kd:Int)(H:Option Addr)(y I:Nat)(p q:List UInt8)(E:p.length=y)(U:q.length<=1000000000)(w:World)(O:Q02 w (.slice H y I) p)(N:kd=0∨kd=1∨kd=2∨kd=3) :
  Calls Tryz.prog 120 #[.int .i64 kd,.slice H y I,.string ⟨q.toArray⟩] w fun e w'=>e=.returned (.tuple #[.int .i64 (wayP kd p q).1,.string ⟨(wayP kd p q).2.1.toArray⟩,.bool (wayP kd p q).2.2])/\Below w.heap.size w w':=by
 have c1:=fun u:Ext w=>Q0q (P:=Tryz.prog) (src:=25) (dst:=9) elU8.ht (by kernel_rfl) (by kernel_rfl) (O.below u.bel);have V:=Q6f q;rcases N with rfl|rfl|rfl|rfl
 ·go_enter Tryz.func120,Tryz.ntmps120
  go_wp2_with fail
  go_ret3
  exact ⟨rfl,Below.refl _ _⟩
 ·have D:wayP 1 p q=(-1,[],p==q):=rfl;rw [D];go_enter Tryz.func120,Tryz.ntmps120
  go_wp2_with fail
  refine Q03 w 7 (by kernel_rfl) (by kernel_rfl) (Below.refl _ _) ?_;simp only [take_succ_cons,take_zero,take_nil]
  iterate 7 (refine Q06 (by rfl) (fun K h=>?_);go_simp;refine h _ ?_;clear h K)
  refine Q0i ?_;intro u2 z;simp only [reverse_nil,Q00];change wpList _ _ _ [] _ _
  go_wp2_with fail
  go_ret3
  exact ⟨rfl,z⟩
 ·have D:wayP 2 p q=if p.length<=q.length/\q.take p.length=p then (0,q.drop p.length,false) else (-1,[],false):=rfl
  rw [D];by_cases hle:p.length<=q.length
  ·have S:=Qqu (P:=Tryz.prog) (t:=9) (by kernel_rfl) q y (y:Int) rfl (by omega);have J:=Qbn (P:=Tryz.prog) (t:=9) (by kernel_rfl) q y (y:Int) rfl (by omega);have G:(y:Int)<=(q.length:Int):=by omega
   by_cases he:q.take p.length=p
   ·rw [if_pos ⟨hle,he⟩];rw [E] at he |-;have L:=Qhd hle;clear hle;go_enter Tryz.func120,Tryz.ntmps120
    go_wp2_with fail
    refine Q03 w 14 (by kernel_rfl) (by kernel_rfl) (Below.refl _ _) ?_;simp only [take_succ_cons,take_zero,take_nil]
    iterate 14 (refine Q06 (by rfl) (fun K h=>?_);go_simp;refine h _ ?_;clear h K)
    refine Q0i ?_;intro u2 z;simp only [reverse_nil,Q00];change wpList _ _ _ [] _ _
    go_wp2_with fail
    refine Q03 u2 7 (by kernel_rfl) (by kernel_rfl) (Below.refl _ _) ?_;simp only [take_succ_cons,take_zero,take_nil]
    iterate 7 (refine Q06 (by rfl) (fun K h=>?_);go_simp;refine h _ ?_;clear h K)
    refine Q0i ?_;intro u3 M;simp only [reverse_nil,Q00];change wpList _ _ _ [] _ _
    go_wp2_with fail
    go_ret3
    exact ⟨rfl,D00 z M⟩
   rw [if_neg (fun e=>he e.2)];rw [E] at he;have T:(q.take y==p)=false:=by rw [beq_eq_false_iff_ne];exact he
   have L:=Qhd hle;clear hle he;go_enter Tryz.func120,Tryz.ntmps120
   go_wp2_with fail
   refine Q03 w 14 (by kernel_rfl) (by kernel_rfl) (Below.refl _ _) ?_;simp only [take_succ_cons,take_zero,take_nil]
   iterate 14 (refine Q06 (by rfl) (fun K h=>?_);go_simp;refine h _ ?_;clear h K)
   refine Q0i ?_;intro u2 z;simp only [reverse_nil,Q00];change wpList _ _ _ [] _ _
   go_wp2_with fail
   go_ret3
   exact ⟨rfl,z⟩
  have G:¬ (y:Int)<=(q.length:Int):=by omega
  rw [if_neg (fun e=>hle e.1)];rw [E] at hle;clear G;go_enter Tryz.func120,Tryz.ntmps120
  go_wp2_with fail
  refine Q03 w 14 (by kernel_rfl) (by kernel_rfl) (Below.refl _ _) ?_;simp only [take_succ_cons,take_zero,take_nil]
  iterate 14 (refine Q06 (by rfl) (fun K h=>?_);go_simp;refine h _ ?_;clear h K)
  refine Q0i ?_;intro u2 z;simp only [reverse_nil,Q00];change wpList _ _ _ [] _ _
  go_wp2_with fail
  go_ret3
  exact ⟨rfl,z⟩
 cases q with
 | nil =>
  go_enter Tryz.func120,Tryz.ntmps120
  go_wp2_with fail
  go_ret3
  exact ⟨rfl,Below.refl _ _⟩
 | cons x q =>
  have S:=Qky (P:=Tryz.prog) (t:=9) (by kernel_rfl) (x::q) 0 0 rfl x rfl;have J:=Qbn (P:=Tryz.prog) (t:=9) (by kernel_rfl) (x::q) 1 1 rfl (by simp);have W:IntKind.i64.wrap (x.toNat:Int)=(x.toNat:Int):=IntWalk.i64_in _ (by have:=x.toNat_lt;omega);have D:wayP 3 p (x::q)=((x.toNat:Int),q,false):=rfl;rw [D];change ∀ k w,(Instr.slice 9 (.string ⟨(x::q).toArray⟩) (some (.int k 1)) none none).run Tryz.prog w=.ok (.string ⟨q.toArray⟩) w at J;go_enter Tryz.func120,Tryz.ntmps120
  go_wp2_with fail
  refine Q03 w 8 (by kernel_rfl) (by kernel_rfl) (Below.refl _ _) ?_;simp only [take_succ_cons,take_zero,take_nil]
  iterate 8 (refine Q06 (by rfl) (fun K h=>?_);go_simp;refine h _ ?_;clear h K)
  refine Q0i ?_;intro u2 z;simp only [reverse_nil,Q00];change wpList _ _ _ [] _ _
  go_wp2_with fail
  go_ret3
  exact ⟨rfl,z⟩
mutual
def szN:Nd->Nat
 | .mk kd _ _ _ _ _ ks=>if kd=0 then 0 else if kd=1 then 1 else 1+szL ks
def szL:List Nd->Nat
 | []=>0
 | k::ks=>szN k+szL ks
end
mutual
theorem Qre:∀ (t:Nd),t.kd≠0->(alN t).length=szN t
 | .mk kd pv p vv v kv ks,h=>by
  have y:kd≠0:=h;rw [alN,szN,length_cons,if_neg y];by_cases h1:kd=1
  ·rw [if_pos h1,if_pos h1];rfl
  rw [if_neg h1,if_neg h1,Qev ks];omega
theorem Qev:∀ (ks:List Nd),(alL ks).length=szL ks
 | []=>by rw [alL,szL];rfl
 | k::ks=>by
  rw [alL,szL,length_append,Qev ks];by_cases h:k.kd=0
  ·rw [if_pos h];obtain ⟨kd,D,p,E,v,z,ks'⟩:=k;have y:kd=0:=h;rw [szN,if_pos y];rfl
  rw [if_neg h,Qre k h]
end
mutual
theorem Qtc:∀ (t:Nd),szN t<=Q15 t
 | .mk kd pv p vv v kv ks=>by
  rw [szN,Q15];have:=Qh4 ks;split
  ·omega
  split<;>omega
theorem Qh4:∀ (ks:List Nd),szL ks<=Q0v ks
 | []=>by rw [szL,Q0v];omega
 | k::ks=>by rw [szL,Q0v];have:=Qtc k;have:=Qh4 ks;omega
end
theorem Qbk:∀ (ks:List Nd)(k:Nd),szL (ks++[k])=szL ks+szN k
 | [],k=>by rw [nil_append,szL,szL,szL];omega
 | x::ks,k=>by rw [List.cons_append,szL,szL,Qbk ks k];omega
theorem Qbj (ks:List Nd)(k:Nat):szL (ks.take k)<=szL ks:=by
 rw [<-Qev,<-Qev];have:∀ (a b:List Nd),(alL a).length<=(alL (a++b)).length:=by
  intro a b;induction a with
  | nil=>simp [alL]
  | cons x a ih=>rw [List.cons_append,alL,alL,length_append,length_append];omega
 have h:=this (ks.take k) (ks.drop k)
 rwa [List.take_append_drop] at h
theorem Qrf:∀ (ks:List Nd)(i:Nat)(k:Nd),ks[i]?=some k->k.kd≠0->∃ l,(alL ks).drop (szL (ks.take i))=alN k++l
 | [],i,k,h,_=>by simp at h
 | x::ks,0,k,h,y=>by
  simp only [List.getElem?_cons_zero,Option.some.injEq] at h;subst h;rw [take_zero,szL,List.drop_zero,alL,if_neg y];exact ⟨_,rfl⟩
 | x::ks,i+1,k,h,y=>by
  rw [List.getElem?_cons_succ] at h;obtain ⟨l,z⟩:=Qrf ks i k h y;refine ⟨l,?_⟩;rw [take_succ_cons,szL,alL,<-z];by_cases hx:x.kd=0
  ·rw [if_pos hx,nil_append];have:szN x=0:=by
    obtain ⟨kd,E,p,G,v,D,ks'⟩:=x;have y:kd=0:=hx;rw [szN,if_pos y]
   rw [this,Nat.zero_add]
  rw [if_neg hx,<-Qre x hx,List.drop_append];rw [List.drop_of_length_le (by omega),nil_append];congr 1;omega
def rst (kd:Int)(path p:List UInt8):Option (Nat × List UInt8) :=
 if kd=2 then (if com path p=path.length then some (0,p.drop path.length) else none)
 else if kd=3 then (match p with
  | []=>none
  | x::q=>some (x.toNat,q))
 else none
def hdN (t:Nd):List UInt8:=(whN t).headD []
def dn:Nat->Nd->List UInt8->List (List UInt8)
 | 0,t,_=>[hdN t]
 | n+1,.mk kd pv path vv v kv ks,p=>hdN (.mk kd pv path vv v kv ks)::(match rst kd path p with
  | none=>[]
  | some (i,q)=>match ks[i]? with
   | none=>[]
   | some k=>if k.kd=0 then [] else dn n k q)
theorem Qu2 {t:Nd}(h:t.kd≠0):hdN t=cdN t:=by
 unfold hdN whN;rw [if_neg h];obtain ⟨l,y⟩:=Q7q t;rw [y];rfl
theorem Qqq (t:Nd):∃ l,whN t=hdN t::l:=by
 obtain ⟨c,l,h⟩:=Qkg t;exact ⟨l,by unfold hdN;rw [h];rfl⟩
theorem Qru (kd:Int)(path p:List UInt8):(rst kd path p=none/\(wayP kd path p).1=-1)∨∃ i q,rst kd path p=some (i,q)/\(wayP kd path p).1=(i:Int)/\(wayP kd path p).2.1=q:=by
 unfold rst wayP;by_cases h2:kd=2
 ·subst h2;by_cases hc:com path p=path.length
  ·have h:=(Qcz path p).1 hc;exact .inr ⟨0,p.drop path.length,by simp [hc],by simp [h.1,h.2],by simp [h.1,h.2]⟩
  have h:¬ (path.length<=p.length/\p.take path.length=path):=fun e=>hc ((Qcz path p).2 e);exact .inl ⟨by simp [hc],by rw [if_neg (by decide),if_pos rfl,if_neg h]⟩
 rw [if_neg h2];by_cases h3:kd=3
 ·subst h3;cases p with
  | nil=>exact .inl ⟨rfl,rfl⟩
  | cons x q=>exact .inr ⟨x.toNat,q,rfl,rfl,rfl⟩
 rw [if_neg h3];refine .inl ⟨rfl,?_⟩;by_cases h1:kd=1
 ·rw [if_pos h1]
 rw [if_neg h1,if_neg h2,if_neg h3]
theorem Q83 {kd:Int}{path p q:List UInt8}{i:Nat}(h:rst kd path p=some (i,q))(z:∀ x∈p,x.toNat<16):(∀ x∈q,x.toNat<16)/\q.length<=p.length/\i<16:=by
 unfold rst at h;by_cases h2:kd=2
 ·rw [if_pos h2] at h;split at h
  ·simp only [Option.some.injEq,Prod.mk.injEq] at h;obtain ⟨rfl,rfl⟩:=h;exact ⟨fun x D=>z x (List.mem_of_mem_drop D),by simp,by omega⟩
  cases h
 rw [if_neg h2] at h;split at h
 ·cases p with
  | nil=>cases h
  | cons x r =>
   simp only [Option.some.injEq,Prod.mk.injEq] at h;obtain ⟨rfl,rfl⟩:=h;exact ⟨fun y E=>z y (List.mem_cons_of_mem _ E),by simp,z x mem_cons_self⟩
 cases h
theorem Q8u {kd:Int}{I:Value}{path:List UInt8}{J:Value}{v:List UInt8}{H:Value}{ks:List Nd}{d:Nat}(h:rgt d (.mk kd I path J v H ks)=true){p q:List UInt8}{i:Nat}(y:rst kd path p=some (i,q))(G:∀ x∈p,x.toNat<16) :
  ∃ k d',ks[i]?=some k/\rgt d' k=true/\(kd=2->k.kd=3/\ks=[k])/\(kd=3->ks.length=16):=by
 have D:∀ (d:Nat) (l:List Nd),rgtL d l=true->∀ k∈l,rgt d k=true:=by
  intro d l;induction l with
  | nil=>intro _ k z;simp at z
  | cons x l ih =>
   intro h k z;rw [rgtL,Bool.and_eq_true] at h;rcases List.mem_cons.1 z with rfl|z
   ·exact h.1
   exact ih h.2 k z
 have K:=(Q83 y G).2.2;unfold rst at y;unfold rgt at h;by_cases h2:kd=2
 ·subst h2;rw [if_neg (by decide),if_neg (by decide),if_pos rfl] at h;simp only [Bool.and_eq_true,decide_eq_true_eq] at h;obtain ⟨k,rfl⟩:=List.length_eq_one_iff.1 h.1.1.2;rw [if_pos rfl] at y;split at y
  ·simp only [Option.some.injEq,Prod.mk.injEq] at y;obtain ⟨rfl,rfl⟩:=y;exact ⟨k,_,rfl,D _ _ h.2 k mem_cons_self,fun _=>⟨by simpa using h.1.2,rfl⟩,fun e=>absurd e (by decide)⟩
  cases y
 rw [if_neg h2] at y;by_cases h3:kd=3
 ·subst h3;rw [if_neg (by decide),if_neg (by decide),if_neg (by decide),if_pos rfl] at h;simp only [Bool.and_eq_true,decide_eq_true_eq] at h;have E:ks.length=16:=h.1.1.1.1;exact ⟨ks[i]'(by omega),d+1,getElem?_eq_getElem _,D _ _ h.1.2 _ (getElem_mem _),fun e=>absurd e (by decide),fun _=>E⟩
 rw [if_neg h3] at y;cases y
theorem Ql6 (kd:Int)(pa va D:Option Addr)(pn pc vn vc h E:Nat)(ks:List Nd)(a9:ks.length=h)(w:World)(G:Q05 Q04 4 w (.slice D h E) ks)(hB:szL ks<=10000000000)(z:h<=10000000000)(ho:∀ k∈ks,∀ u∈Q04 k,u.oneCell'=true)
  (ih:∀ k∈ks,∀ u,Below w.heap.size w u->Calls Tryz.prog 92 #[.agg (Q04 k).toArray] u fun e w'=>e=.returned (.int .i64 (szN k:Int))/\Below u.heap.size u w') :
  Calls Tryz.prog 92 #[.agg #[.int .i64 kd,.slice pa pn pc,.slice va vn vc,.slice D h E]] w fun e w'=>e=.returned (.int .i64 ((if kd=0 then 0 else if kd=1 then 1 else 1+szL ks:Nat):Int))/\Below w.heap.size w w':=by
 obtain ⟨M,J⟩:=Qe (w.alloc (.cells #[.int .i64 kd,.slice pa pn pc,.slice va vn vc,.slice D h E] 70));have z1:Blk 70 M w.heap.size [.int .i64 kd,.slice pa pn pc,.slice va vn vc,.slice D h E]:=by rw [J];exact D01 w _ _
 have T:Below w.heap.size w M:=by rw [J];exact Qba _ _
 have c0:M.cell? ⟨w.heap.size,0,none⟩=some (.int .i64 kd):=z1.cell 0;have c3:M.cell? ⟨w.heap.size,3,none⟩=some (.slice D h E):=z1.cell 3;have O:=Qhd J;have IH:=Qhd ih;have a6:=Qhd a9;have Hk:=Qhd G;have HB:=Qhd hB;have HO:=Qhd ho;clear J ih a9 G hB ho;by_cases h0:kd=0
 ·subst h0;go_enter Tryz.func92,Tryz.ntmps92
  go_wp2_with (rw [<-O.out])
  go_ret;exact ⟨rfl,T⟩
 have n0:(kd==0)=false:=by rw [beq_eq_false_iff_ne];exact h0
 by_cases h1:kd=1
 ·subst h1;go_enter Tryz.func92,Tryz.ntmps92
  go_wp2_with (rw [<-O.out])
  go_ret;exact ⟨rfl,T⟩
 have n1:(kd==1)=false:=by rw [beq_eq_false_iff_ne];exact h1
 rw [if_neg h0,if_neg h1];clear h0 h1;go_enter Tryz.func92,Tryz.ntmps92
 go_wp2_with (rw [<-O.out])
 go_loopw [3,16] (fun sv Z wr=>∃ k:Nat,k<=h/\sv=.int .i64 ((1+szL (ks.take k):Nat):Int)/\Z=.int .i64 (k:Int)/\Below w.heap.size w wr) (fun _ Z _=>h - (intOf Z).toNat)
 case atStart=>exact ⟨0,Nat.zero_le _,by rw [take_zero,szL];rfl,rfl,T⟩
 case round =>
  obtain ⟨k,G,rfl,rfl,y⟩:=hrel;by_cases hlt:k<h
  ·have aq:(k:Int)<(h:Int):=by omega
   have H:k<ks.length:=by rw [a6.out];exact hlt
   obtain ⟨b,off,rfl,U⟩:=Q05.range Q0b (Hk.out.below y) k H;obtain ⟨x,L⟩:∃ x,ks[k]=x:=⟨_,rfl⟩;have W:x∈ks:=by rw [<-L];exact getElem_mem H
   have N:Hid (szL (ks.take (k+1))=szL (ks.take k)+szN x):=Qhd (by rw [List.take_add_one,getElem?_eq_getElem H,L];exact Qbk _ x);have a':szL (ks.take (k+1))<=10000000000:=Nat.le_trans (Qbj ks (k+1)) HB.out;rw [N.out] at a';rw [L] at U;have ab:=Qhd (IH.out x W);obtain ⟨K,z⟩:=Qe (Q04 x);have S:Hid (K.length=4):=Qhd (by rw [z];exact Q0b x);have aj:Hid (∀ u∈K,u.oneCell'=true):=Qhd (by rw [z];exact HO.out x W);rw [<-z] at U;have a7:Hid (∀ u,Below w.heap.size w u->Calls Tryz.prog 92 #[.agg K.toArray] u fun e w'=>e=.returned (.int .i64 (szN x:Int))/\Below u.heap.size u w'):=Qhd (by rw [z];exact ab.out);obtain ⟨s0,I⟩:=Qe (szL (ks.take k));obtain ⟨s1,V⟩:=Qe (szN x);rw [<-I,<-V] at a' N;rw [<-V] at a7;rw [<-I];have an:=Qhd I;clear L W H ab z I V hlt G
   go_wp2_with (first
    |((with_reducible refine Qgl 19 ?_);refine Qlw 70 18 b (off+k*4) Q07 S.out U ?_)
    |((with_reducible refine Qgs 19 ?_);refine Qsa 70 5 19 wr.heap.size K Q07 (old:=[.int .i64 0,.slice none 0 0,.slice none 0 0,.slice none 0 0]) (D01 wr _ _) S.out (by rfl) aj.out (Qba wr _) (Nat.le_refl _) ?_;intro w4 y4 b4 _;have y:=D00 y b4)
    |((with_reducible refine Qgl 21 ?_);refine Qla 70 5 wr.heap.size Q07 y4 S.out ?_)
    |(go_at_call 92;(with_reducible refine (a7.out _ y).mono ?_);rintro e w5 ⟨rfl,b5⟩;have y:=D00 y b5))
   go_roundw
   case rel=>exact ⟨k+1,by omega,by rw [N.out];go_num,by go_num,y⟩
   case measure=>simp [intOf];omega
  obtain rfl:k=h:=by omega
  have ht:ks.take k=ks:=List.take_of_length_le (by rw [a6.out];exact Nat.le_refl _);rw [ht]
  go_wp2_with fail
  go_ret;exact ⟨rfl,y⟩
theorem Qh5:∀ (n:Nat)(t:Nd),SizeOf.sizeOf t<=n->Q15 t<=10000000000->∀ w,IsNd w t->Calls Tryz.prog 92 #[.agg (Q04 t).toArray] w fun e w'=>e=.returned (.int .i64 (szN t:Int))/\Below w.heap.size w w'
 | 0,.mk kd pv p vv v kv ks,h,_,_,_=>by simp at h
 | n+1,.mk kd pv p vv v kv ks,h,hb,w,hI=>by
  obtain ⟨D,G,y,z⟩:=hI.inv;obtain ⟨J,K,rfl,_,_⟩:=D.form;obtain ⟨L,M,rfl,_,_⟩:=G.form;obtain ⟨H,I,rfl,_,_⟩:=y.form;simp only [Q15] at hb;rw [szN];exact Ql6 kd J L H p.length K v.length M ks.length I ks rfl w y (by have:=Qh4 ks;omega) (by have:=Q9y ks;omega) (fun k y=>(z k y).one) (fun k y u E=>Qh5 n k (by
   have:=List.sizeOf_lt_of_mem y;simp only [Nd.mk.sizeOf_spec] at h;omega) (by have:=Q1u y;omega) u ((z k y).kept E))
def Q2n (o:List UInt8 × List UInt8 × List UInt8)(w:World)(e:Ending)(w':World):Prop :=
 ∃ (a1:Option Addr) (c1:Nat) (a2:Option Addr) (c2:Nat) (a3:Option Addr) (c3:Nat),e=.returned (.tuple #[.slice a1 o.1.length c1,.slice a2 o.2.1.length c2,.slice a3 o.2.2.length c3])/\Below w.heap.size w w' /\
  Q02 w' (.slice a1 o.1.length c1) o.1/\Q02 w' (.slice a2 o.2.1.length c2) o.2.1/\Q02 w' (.slice a3 o.2.2.length c3) o.2.2
theorem bdr {B:Nat}{a w:World}(h:Below B a w)(n:Nat):Below B a (w.drewN n):=h.trans ⟨rfl,rfl,rfl,Nat.le_refl _,fun _ _=>rfl⟩
section
variable (pa va ka qa:Option Addr) (pn pc vn vc kn kc qn qc:Nat) (p v q:List UInt8) (ps:List (Value × List UInt8)) (hpn:p.length=pn) (hvn:v.length=vn) (hkn:ps.length=kn) (hqn:q.length=qn)
 (w:World) (hp:Q02 w (.slice pa pn pc) p) (hv:Q02 w (.slice va vn vc) v) (hk:Q12 w (.slice ka kn kc) ps) (hq:Q02 w (.slice qa qn qc) q)
include hpn hvn hqn hp hv hq in
theorem Qmp:Calls Tryz.prog 101 #[.agg #[.int .i64 1,.slice pa pn pc,.slice va vn vc,.slice ka kn kc],.slice qa qn qc] w (Q2n (nxtP (1,p,v,ps.map (·.2)) q) w):=by
 have J:=D01 w 134 [.int .i64 1,.slice pa pn pc,.slice va vn vc,.slice ka kn kc];have h:Below w.heap.size w (w.alloc (.cells #[.int .i64 1,.slice pa pn pc,.slice va vn vc,.slice ka kn kc] 134)):=Qba _ _;have c1:=Q0q (P:=Tryz.prog) (src:=25) (dst:=9) elU8.ht (by kernel_rfl) (by kernel_rfl) (hp.below h);have G:=Q0q (P:=Tryz.prog) (src:=25) (dst:=9) elU8.ht (by kernel_rfl) (by kernel_rfl) (hq.below h);have E:=hv.below h;have D:nxtP (1,p,v,ps.map (·.2)) q=if p=q then ([],[],v) else ([],[],[]):=by unfold nxtP;rw [if_pos rfl]
 rw [D];by_cases he:p=q
 ·rw [if_pos he];subst he;obtain rfl:pn=qn:=hpn.symm.trans hqn;have H:∀ u,Below (w.alloc (.cells #[.int .i64 1,.slice pa pn pc,.slice va vn vc,.slice ka kn kc] 134)).heap.size (w.alloc (.cells #[.int .i64 1,.slice pa pn pc,.slice va vn vc,.slice ka kn kc] 134)) u->Q2n ([],[],v) w (.returned (.tuple #[.slice none 0 0,.slice none 0 0,.slice va vn vc])) u:=by
   intro u y;refine ⟨none,0,none,0,va,vc,by simp [hvn],D00 h y,Q05.nil b8 1 _,Q05.nil b8 1 _,?_⟩;show Q02 _ (.slice va v.length vc) v;rw [hvn];exact E.below y
  have z:=Qhd H;clear H D hpn hvn hqn;go_enter Tryz.func101,Tryz.ntmps101
  go_wp2_with fail
  go_quiet (fail)
  go_wp2_with fail
  go_ret3
  exact z.out _ (by first|exact Below.refl _ _|exact bdr (Below.refl _ _) _|exact bdr (bdr (Below.refl _ _) _) _)
 rw [if_neg he];have I:(p==q)=false:=by rw [beq_eq_false_iff_ne];exact he
 have H:∀ u,Below (w.alloc (.cells #[.int .i64 1,.slice pa pn pc,.slice va vn vc,.slice ka kn kc] 134)).heap.size (w.alloc (.cells #[.int .i64 1,.slice pa pn pc,.slice va vn vc,.slice ka kn kc] 134)) u->Q2n ([],[],[]) w (.returned (.tuple #[.slice none 0 0,.slice none 0 0,.slice none 0 0])) u:=by
  intro u y;refine ⟨none,0,none,0,none,0,rfl,D00 h y,Q05.nil b8 1 _,Q05.nil b8 1 _,Q05.nil b8 1 _⟩
 have z:=Qhd H;clear H D hpn hvn hqn he;go_enter Tryz.func101,Tryz.ntmps101
 go_wp2_with fail
 go_ret3
 exact z.out _ (by first|exact Below.refl _ _|exact bdr (Below.refl _ _) _|exact bdr (bdr (Below.refl _ _) _) _)
include hpn hkn hqn hp hk hq in
theorem Qmn (a6:ps.length=1):Calls Tryz.prog 101 #[.agg #[.int .i64 2,.slice pa pn pc,.slice va vn vc,.slice ka kn kc],.slice qa qn qc] w (Q2n (nxtP (2,p,v,ps.map (·.2)) q) w):=by
 have ac:=D01 w 134 [.int .i64 2,.slice pa pn pc,.slice va vn vc,.slice ka kn kc];have G:Below w.heap.size w (w.alloc (.cells #[.int .i64 2,.slice pa pn pc,.slice va vn vc,.slice ka kn kc] 134)):=Qba _ _;have E:=fun u (z:Below w.heap.size w u)=>Q5l pa qa pc qc p q u (by rw [hpn];exact hp.below z) (by rw [hqn];exact hq.below z);rw [hpn,hqn] at E;obtain ⟨y,rfl⟩:=List.length_eq_one_iff.1 a6;obtain ⟨V,I⟩:=y;have Z:Q02 w V I:=hk.2 _ (List.mem_singleton.2 rfl);obtain ⟨h,D,rfl,a4⟩:=Q05.cells (f:=Q0p) (size:=1) (fun _=>rfl) hk.1 0 (by simp);have W:w.cell? ⟨h,D,none⟩=some V:=by simpa using a4 0 V rfl
 have a3:=World.block_lt_of_cell? w _ W;obtain ⟨L,N,rfl,_,_⟩:=Z.form;obtain rfl:1=kn:=hkn;have ab:(w.alloc (.cells #[.int .i64 2,.slice pa pn pc,.slice va vn vc,.slice (some ⟨h,D,none⟩) 1 kc] 134)).cell? ⟨h,D,none⟩=some (.slice L I.length N):=by rw [G.cell (p:=⟨h,D,none⟩) a3];exact W
 have U:nxtP (2,p,v,[(Value.slice L I.length N,I)].map (·.2)) q=if com p q=p.length then (I,q.drop p.length,[]) else ([],[],[]):=by unfold nxtP;simp only [Int.reduceEq,reduceIte];rfl
 rw [U];by_cases he:com p q=p.length
 ·rw [if_pos he];have a7:=Q30 p q;obtain ⟨O,S,a9,a8⟩:=Q05.from elU8 hq pn (by rw [<-hqn,<-hpn,<-he];omega) (pn:Int) rfl;have M:(com p q:Int)=(pn:Int):=by omega
  have H:∀ u,Below (w.alloc (.cells #[.int .i64 2,.slice pa pn pc,.slice va vn vc,.slice (some ⟨h,D,none⟩) 1 kc] 134)).heap.size (w.alloc (.cells #[.int .i64 2,.slice pa pn pc,.slice va vn vc,.slice (some ⟨h,D,none⟩) 1 kc] 134)) u->Q2n (I,q.drop p.length,[]) w (.returned (.tuple #[.slice L I.length N,.slice O (qn - pn) S,.slice none 0 0])) u:=by
   intro u z;refine ⟨L,N,O,S,none,0,by simp [hqn,hpn],D00 G z,Z.below (D00 G z),?_,Q05.nil b8 1 _⟩;show Q02 _ (.slice O (q.drop p.length).length S) (q.drop p.length);rw [List.length_drop,hqn,hpn];exact Q05.below a8 (D00 G z)
  have K:=Qhd H;have J:=Qhd E;rw [M] at E;have J:=Qhd E;obtain ⟨m5,a1⟩:=Qe (qn - pn);rw [<-a1] at a9 K;clear H U hpn hqn E he M a7 a1;go_enter Tryz.func101,Tryz.ntmps101
  go_wp2_with (go_at_call 91;(with_reducible refine (J.out _ G).mono ?_);rintro e w2 ⟨rfl,m,rfl⟩)
  go_quiet (fail)
  go_wp2_with fail
  go_ret3
  exact K.out _ (by first|exact Below.refl _ _|exact bdr (Below.refl _ _) _|exact bdr (bdr (Below.refl _ _) _) _)
 rw [if_neg he];have M:((com p q:Int)==(pn:Int))=false:=by rw [beq_eq_false_iff_ne];omega
 have H:∀ u,Below (w.alloc (.cells #[.int .i64 2,.slice pa pn pc,.slice va vn vc,.slice (some ⟨h,D,none⟩) 1 kc] 134)).heap.size (w.alloc (.cells #[.int .i64 2,.slice pa pn pc,.slice va vn vc,.slice (some ⟨h,D,none⟩) 1 kc] 134)) u->Q2n ([],[],[]) w (.returned (.tuple #[.slice none 0 0,.slice none 0 0,.slice none 0 0])) u:=fun u z=>⟨none,0,none,0,none,0,rfl,D00 G z,Q05.nil b8 1 _,Q05.nil b8 1 _,Q05.nil b8 1 _⟩;have K:=Qhd H;have J:=Qhd E;obtain ⟨cq,T⟩:=Qe (com p q);rw [<-T] at M;have a2:=Qhd T;clear H U hpn hqn E he T;go_enter Tryz.func101,Tryz.ntmps101
 go_wp2_with (go_at_call 91;(with_reducible refine (J.out _ G).mono ?_);rintro e w2 ⟨rfl,m,rfl⟩;rw [<-a2.out])
 go_ret3
 exact K.out _ (by first|exact Below.refl _ _|exact bdr (Below.refl _ _) _|exact bdr (bdr (Below.refl _ _) _) _)
include hvn hkn hqn hv hk hq in
theorem Qmq (a8:ps.length=16)(aa:∀ x∈q,x.toNat<16):Calls Tryz.prog 101 #[.agg #[.int .i64 3,.slice pa pn pc,.slice va vn vc,.slice ka kn kc],.slice qa qn qc] w (Q2n (nxtP (3,p,v,ps.map (·.2)) q) w):=by
 have z:Below w.heap.size w (w.alloc (.cells #[.int .i64 3,.slice pa pn pc,.slice va vn vc,.slice ka kn kc] 134)):=Qba _ _;cases q with
 | nil =>
  obtain rfl:0=qn:=hqn;have G:nxtP (3,p,v,ps.map (·.2)) []=([],[],v):=by unfold nxtP;simp only [Int.reduceEq,reduceIte]
  rw [G];have H:∀ u,Below (w.alloc (.cells #[.int .i64 3,.slice pa pn pc,.slice va vn vc,.slice ka kn kc] 134)).heap.size (w.alloc (.cells #[.int .i64 3,.slice pa pn pc,.slice va vn vc,.slice ka kn kc] 134)) u->Q2n ([],[],v) w (.returned (.tuple #[.slice none 0 0,.slice none 0 0,.slice va vn vc])) u:=by
   intro u E;refine ⟨none,0,none,0,va,vc,by simp [hvn],D00 z E,Q05.nil b8 1 _,Q05.nil b8 1 _,?_⟩;show Q02 _ (.slice va v.length vc) v;rw [hvn];exact hv.below (D00 z E)
  have J:=Qhd H;clear H G hvn hkn;go_enter Tryz.func101,Tryz.ntmps101
  go_wp2_with fail
  go_quiet (fail)
  go_wp2_with fail
  go_ret3
  exact J.out _ (by first|exact Below.refl _ _|exact bdr (Below.refl _ _) _|exact bdr (bdr (Below.refl _ _) _) _)
 | cons x q =>
  have hx:=aa x mem_cons_self;have a9:1<=qn:=by rw [<-hqn];simp
  have K:ps[x.toNat]?=some (ps[x.toNat]'(by omega)):=getElem?_eq_getElem (by omega);obtain ⟨y,W⟩:=Qe (ps[x.toNat]'(by omega));rw [<-W] at K;have V:Q02 w y.1 y.2:=hk.2 _ (List.mem_of_getElem? K);obtain ⟨h,D,rfl,S⟩:=Q05.cells (f:=Q0p) (size:=1) (fun _=>rfl) hk.1 x.toNat (by omega);rw [<-W] at S;obtain ⟨Z,I⟩:=y;change Q02 w Z I at V;have T:w.cell? ⟨h,D+x.toNat,none⟩=some Z:=by simpa using S 0 Z rfl
  have a7:=World.block_lt_of_cell? w _ T;obtain ⟨N,oq,rfl,a3⟩:=Q05.cells (f:=b8) (size:=1) (fun _=>rfl) hq 0 (by simp);have U:w.cell? ⟨N,oq,none⟩=some (.int .u8 (x.toNat:Int)):=by simpa [u8v] using a3 0 _ rfl
  have a6:=World.block_lt_of_cell? w _ U;obtain ⟨L,q0,rfl,_,_⟩:=V.form;obtain ⟨M,O,ac,ab⟩:=Q05.from elU8 hq 1 a9 1 rfl;have G:nxtP (3,p,v,ps.map (·.2)) (x::q)=(I,q,[]):=by
   unfold nxtP;simp only [Int.reduceEq,reduceIte];rw [getElem?_map,K];rfl
  rw [G];obtain rfl:16=kn:=a8.symm.trans hkn;have ad:(w.alloc (.cells #[.int .i64 3,.slice pa pn pc,.slice va vn vc,.slice (some ⟨h,D,none⟩) 16 kc] 134)).cell? ⟨h,D+x.toNat,none⟩=some (.slice L I.length q0):=by rw [z.cell (p:=⟨h,D+x.toNat,none⟩) a7];exact T
  have ae:(w.alloc (.cells #[.int .i64 3,.slice pa pn pc,.slice va vn vc,.slice (some ⟨h,D,none⟩) 16 kc] 134)).cell? ⟨N,oq,none⟩=some (.int .u8 (x.toNat:Int)):=by rw [z.cell (p:=⟨N,oq,none⟩) a6];exact U
  have H:∀ u,Below (w.alloc (.cells #[.int .i64 3,.slice pa pn pc,.slice va vn vc,.slice (some ⟨h,D,none⟩) 16 kc] 134)).heap.size (w.alloc (.cells #[.int .i64 3,.slice pa pn pc,.slice va vn vc,.slice (some ⟨h,D,none⟩) 16 kc] 134)) u->Q2n (I,q,[]) w (.returned (.tuple #[.slice L I.length q0,.slice M (qn - 1) O,.slice none 0 0])) u:=by
   intro u E;refine ⟨L,q0,M,O,none,0,by simp [<-hqn],D00 z E,V.below (D00 z E),?_,Q05.nil b8 1 _⟩;show Q02 _ (.slice M q.length O) q;have e:qn - 1=q.length:=by rw [<-hqn];simp
   rw [<-e];exact Q05.below ab (D00 z E)
  have J:=Qhd H;obtain ⟨m5,a4⟩:=Qe (qn - 1);rw [<-a4] at ac J;have ah:0<qn:=by omega
  have af:(1:Int)<=(qn:Int):=by omega
  have ai:((qn:Int)==0)=false:=by rw [beq_eq_false_iff_ne];omega
  have ag:(0:Int)<(qn:Int):=by omega
  have aj:(x.toNat:Int)<16:=by omega
  have ak:x.toNat<16:=hx;clear H G hvn hqn a4 K W T U a3 S;go_enter Tryz.func101,Tryz.ntmps101
  go_wp2_with fail
  go_quiet (fail)
  go_wp2_with fail
  go_ret3
  exact J.out _ (by first|exact Below.refl _ _|exact bdr (Below.refl _ _) _|exact bdr (bdr (Below.refl _ _) _) _)
theorem Qmo:Calls Tryz.prog 101 #[.agg #[.int .i64 0,.slice pa pn pc,.slice va vn vc,.slice ka kn kc],.slice qa qn qc] w (Q2n (nxtP (0,p,v,ps.map (·.2)) q) w):=by
 have h:Below w.heap.size w (w.alloc (.cells #[.int .i64 0,.slice pa pn pc,.slice va vn vc,.slice ka kn kc] 134)):=Qba _ _;have y:nxtP (0,p,v,ps.map (·.2)) q=([],[],[]):=by unfold nxtP;simp only [Int.reduceEq,reduceIte]
 rw [y];have z:=Qhd h;clear h y;go_enter Tryz.func101,Tryz.ntmps101
 go_wp2_with fail
 go_ret3
 exact ⟨none,0,none,0,none,0,rfl,z.out,Q05.nil b8 1 _,Q05.nil b8 1 _,Q05.nil b8 1 _⟩
end
theorem Qps (kd:Int)(H L E J:Option Addr)(y I D M h G z K:Nat)(p v q:List UInt8)(ps:List (Value × List UInt8))(a0:p.length=y)(a1:v.length=D)(Z:ps.length=h)(N:q.length=z)
  (w:World) (hp:Q02 w (.slice H y I) p) (hv:Q02 w (.slice L D M) v) (hk:Q12 w (.slice E h G) ps) (hq:Q02 w (.slice J z K) q) (ho:okQ (kd,p,v,ps.map (·.2))=true) (hx:∀ x∈q,x.toNat<16) :
  Calls Tryz.prog 101 #[.agg #[.int .i64 kd,.slice H y I,.slice L D M,.slice E h G],.slice J z K] w (Q2n (nxtP (kd,p,v,ps.map (·.2)) q) w):=by
 rcases Q97 ho with O|S|⟨T,U,_⟩|⟨V,W,_⟩
 ·dsimp only at O;subst O;exact Qmo H L E J y I D M h G z K p v q ps w
 ·dsimp only at S;subst S;exact Qmp H L E J y I D M h G z K p v q ps a0 a1 N w hp hv hq
 ·dsimp only at T U;subst T;exact Qmn H L E J y I D M h G z K p v q ps a0 Z N w hp hk hq (by simpa using U)
 dsimp only at V W;subst V;exact Qmq H L E J y I D M h G z K p v q ps a1 Z N w hv hk hq (by simpa using W) hx
theorem Qax (L M:List UInt8):((L.map fun x=>(x.toNat:Int)) == (M.map fun x=>(x.toNat:Int)))=(L == M):=by
 rw [Bool.eq_iff_iff];simp only [beq_iff_eq];constructor
 ·intro e;have D:∀ a b:UInt8,(a.toNat:Int)=(b.toNat:Int)->a=b:=fun a b h=>UInt8.toNat_inj.1 (by omega);apply List.ext_getElem?;intro i;have z:=congrArg (fun l:List Int=>l[i]?) e;simp only [getElem?_map] at z;cases h3:L[i]? with
  | none=>rw [h3] at z;cases h4:M[i]? with
   | none=>rfl
   | some y=>rw [h4] at z;simp at z
  | some x=>rw [h3] at z;cases h4:M[i]? with
   | none=>rw [h4] at z;simp at z
   | some y=>rw [h4] at z;simp only [Option.map_some,Option.some.injEq] at z;rw [D x y z]
 intro e;rw [e]
theorem Qca (K:List UInt8):(K.map fun x=>(x.toNat:Int)).map (Value.int .u8)=K.map u8v:=by rw [List.map_map];rfl
theorem Qha (L M:List UInt8)(y:L.length=32)(z:M.length=32)(h:World):(binOp .eql 30 (.agg (L.map u8v).toArray) (.agg (M.map u8v).toArray)).run Tryz.prog h=.ok (.bool (L == M)) h:=by
 have:=Qrs (P:=Tryz.prog) h Tryz.underlying30 Tryz.underlying5 (by kernel_rfl) (L.map fun x=>(x.toNat:Int)) (M.map fun x=>(x.toNat:Int)) (by rw [length_map,y]) (by rw [length_map,z]);rw [Qca,Qca,Qax] at this;exact this
theorem Qh9 (L M:List UInt8)(y:L.length=32)(z:M.length=32)(h:World):(binOp .neq 30 (.agg (L.map u8v).toArray) (.agg (M.map u8v).toArray)).run Tryz.prog h=.ok (.bool (!(L == M))) h:=by
 have:=Qrr (P:=Tryz.prog) h Tryz.underlying30 Tryz.underlying5 (by kernel_rfl) (L.map fun x=>(x.toNat:Int)) (M.map fun x=>(x.toNat:Int)) (by rw [length_map,y]) (by rw [length_map,z]);rw [Qca,Qca,Qax] at this;exact this
theorem Qb3 (L M:List UInt8)(y z:Operand)(h:World):(eqGuard .eql 30 y z (.agg (L.map u8v).toArray) (.agg (M.map u8v).toArray)).run Tryz.prog h=.ok () h :=
 run_eqGuard_agg (P:=Tryz.prog) (w:=h) .eql 30 y z _ _ (by kernel_rfl)
theorem Qb2 (L M:List UInt8)(y z:Operand)(h:World):(eqGuard .neq 30 y z (.agg (L.map u8v).toArray) (.agg (M.map u8v).toArray)).run Tryz.prog h=.ok () h :=
 run_eqGuard_agg (P:=Tryz.prog) (w:=h) .neq 30 y z _ _ (by kernel_rfl)
theorem Q80 (l:List UInt8):(sumB l).length=32:=by unfold sumB;rw [Q1r]
theorem Q4l {w:World}{a:Option Addr}{n c:Nat}{l:List UInt8}(h:Q02 w (.slice a n c) l)(H:0<l.length):∃ b off,a=some ⟨b,off,none⟩/\w.rangeAt b off (l.map u8v):=by
 obtain ⟨b,off,z,_⟩:=Q02.at h 0 H;refine ⟨b,off,z,fun j v y=>?_⟩;have E:j<l.length:=by have:=(List.getElem?_eq_some_iff.1 y).1;simpa using this
 obtain ⟨I,J,D,G⟩:=Q02.at h j E;rw [z] at D;cases D;rw [G];rw [getElem?_map,getElem?_eq_getElem E] at y;exact y
theorem Qo6 {e:TypeId}{w:World}{g:Nat}{L:List UInt8}(h:Blk e w g (L.map u8v))(n:Nat)(z:L.length=n)(D:n<=maxLen):Q02 w (.slice (some ⟨g,0,none⟩) n n) L:=by
 refine Blk.row h L n n (fun _=>rfl) z (fun j u y=>?_) (Nat.le_refl _) D;rw [Q22] at y;exact y
end Go.Proofs.YtbdmkfjgnjfjbaaGreat
