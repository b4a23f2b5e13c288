/- What bytes are read as an item: plain Lean, no program in sight. | What an item that the call made hangs on; how a slice and its parts are read in any world. |  -/
import Derived.Test.YtbdmkfjgnjfjbaaGreatBlockListsK14
import Derived.Test.YtbdmkfjgnjfjbaaGreatBlockListsK01
set_option linter.unusedSimpArgs false
set_option linter.unusedVariables false
set_option maxHeartbeats 4000000
set_option maxRecDepth 100000
open List (append_assoc cons_append drop_left' drop_succ_cons drop_zero getElem_cons_zero length_append length_drop length_take take_left' take_succ_cons take_zero)
open Nat (add_zero le_refl le_trans lt_of_lt_of_le)
namespace Go.Proofs.YtbdmkfjgnjfjbaaGreat
open Go.RowKit
inductive Pit where
 | txt (t:List UInt8)
 | lst (ks:List Pit)
def erI:Itm->Pit
 | .mk l _ t _ ks=>if l=true then .lst (ks.attach.map fun ⟨k,_⟩=>erI k) else .txt t
theorem Q1w (l:Bool)(y:Value)(t:List UInt8)(h:Value)(ks:List Itm):erI (.mk l y t h ks)=if l=true then .lst (ks.map erI) else .txt t:=by
 rw [erI];simp
inductive Q40:Itm->Prop where
 | txt (tv:Value) (t:List UInt8) (kv:Value):Q40 (.mk false tv t kv [])
 | lst (tv kv:Value) (ks:List Itm) (h:∀ k∈ks,Q40 k):Q40 (.mk true tv [] kv ks)
def hdr (c base:Nat)(r:List UInt8):Option (Nat × List UInt8) :=
 if c<base+48 then some (c - base,r)
 else if r.length<c - base - 48+1 then none
 else if (r.take (c - base - 48+1)).head?=some 0∨8<c - base - 48+1 then none
 else if numL (r.take (c - base - 48+1))<48 then none
 else some (numL (r.take (c - base - 48+1)),r.drop (c - base - 48+1))
def own1 (k:Nat)(r:List UInt8):Bool:=decide (k=1) && decide ((r[0]?.getD 0).toNat<128)
def parL (f:List UInt8->Option (Pit × List UInt8)):Nat->List UInt8->Option (List Pit)
 | _,[]=>some []
 | 0,_::_=>none
 | m+1,b::bs=>match f (b::bs) with
  | none=>none
  | some (p,r)=>match parL f m r with
   | none=>none
   | some ps=>some (p::ps)
def par:Nat->List UInt8->Option (Pit × List UInt8)
 | _,[]=>none
 | 0,_::_=>none
 | n+1,c::r =>
  if c.toNat<128 then some (.txt [c],r)
  else if c.toNat<192 then match hdr c.toNat 128 r with
   | none=>none
   | some (k,r')=>if r'.length<k∨own1 k r'=true then none else some (.txt (r'.take k),r'.drop k)
  else match hdr c.toNat 192 r with
   | none=>none
   | some (k,r')=>if r'.length<k then none else match parL (par n) k (r'.take k) with
    | none=>none
    | some ks=>some (.lst ks,r'.drop k)
theorem Q50 {c z:Nat}{r y:List UInt8}{k:Nat}(h:hdr c z r=some (k,y)):∃ j,y=r.drop j/\j<=r.length:=by
 unfold hdr at h;split at h
 ·simp only [Option.some.injEq,Prod.mk.injEq] at h;exact ⟨0,by simp [h.2],by omega⟩
 split at h
 ·simp at h
 split at h
 ·simp at h
 split at h
 ·simp at h
 rename_i D E G _;simp only [Option.some.injEq,Prod.mk.injEq] at h;exact ⟨_,h.2.symm,by omega⟩
theorem Qhw (l:List UInt8)(h:l.length<=8):numL l<18446744073709551616:=by
 have y:=Q99 l;have z:(256:Nat) ^ l.length<=256 ^ 8:=Nat.pow_le_pow_right (by omega) h;have D:(256:Nat) ^ 8=18446744073709551616:=rfl;omega
theorem Qm4:∀ (n:Nat)(b:List UInt8)(p:Pit)(r:List UInt8),par n b=some (p,r)->∃ j,r=b.drop j/\1<=j/\j<=b.length
 | 0,[],p,r,h=>by simp [par] at h
 | n+1,[],p,r,h=>by simp [par] at h
 | 0,_::_,p,r,h=>by simp [par] at h
 | n+1,c::b,p,r,h=>by
  unfold par at h;split at h
  ·simp only [Option.some.injEq,Prod.mk.injEq] at h;exact ⟨1,by simp [h.2],by omega,by simp⟩
  split at h
  ·split at h
   ·simp at h
   rename_i k D z;obtain ⟨j,y⟩:=Q50 z;split at h
   ·simp at h
   rename_i E;simp only [Option.some.injEq,Prod.mk.injEq] at h;have G:D.length=b.length - j:=by rw [y.1,length_drop]
   refine ⟨1+j+k,?_,by omega,by simp;omega⟩;rw [<-h.2,y.1,List.drop_drop,show 1+j+k=(j+k)+1 from by omega,drop_succ_cons]
  split at h
  ·simp at h
  rename_i k D z;obtain ⟨j,y⟩:=Q50 z;split at h
  ·simp at h
  rename_i E;split at h
  ·simp at h
  simp only [Option.some.injEq,Prod.mk.injEq] at h;have G:D.length=b.length - j:=by rw [y.1,length_drop]
  refine ⟨1+j+k,?_,by omega,by simp;omega⟩;rw [<-h.2,y.1,List.drop_drop,show 1+j+k=(j+k)+1 from by omega,drop_succ_cons]
theorem Qfv {n:Nat}{b:List UInt8}{p:Pit}{r:List UInt8}(h:par n b=some (p,r)):r.length<b.length:=by
 obtain ⟨j,rfl,y,z⟩:=Qm4 n b p r h;rw [length_drop];omega
theorem Q6l (f:List UInt8->Option (Pit × List UInt8))(m:Nat):parL f m []=some []:=by cases m <;> rfl
theorem Qe5 {f:List UInt8->Option (Pit × List UInt8)}{m:Nat}{b:List UInt8}(h:b≠[])(y:f b=none):parL f (m+1) b=none:=by
 cases b with
 | nil=>exact absurd rfl h
 | cons x b=>simp [parL,y]
theorem Q94 {f:List UInt8->Option (Pit × List UInt8)}{m:Nat}{b r:List UInt8}{p:Pit}(h:b≠[])(y:f b=some (p,r)):parL f (m+1) b=(parL f m r).map (p::·):=by
 cases b with
 | nil=>exact absurd rfl h
 | cons x b =>
  simp only [parL,y];cases parL f m r<;>rfl
def Fp (S:Nat->Prop)(w:World)(it:Itm):Prop:=∀ u:World,(∀ b,S b->b<w.heap.size->u.heap[b]?=w.heap[b]?)->Q17 u it
theorem Fp.is {S:Nat->Prop}{w:World}{y:Itm}(h:Fp S w y):Q17 w y:=h w (fun _ _ _=>rfl)
theorem Fp.to {S S':Nat->Prop}{w w':World}{z:Itm}(h:Fp S w z)(I:w.heap.size<=w'.heap.size)(H:∀ b,S b->b<w.heap.size->w'.heap[b]?=w.heap[b]?/\S' b):Fp S' w' z:=by
 intro u J;exact h u (fun b D y=>by
  obtain ⟨E,G⟩:=H b D y;rw [J b G (lt_of_lt_of_le y I),E])
theorem Q08.onto {α:Type}{f:α->List Value}{size:Nat}{e:TypeId}{w u:World}{B:Nat}{v:Value}{l:List α}(h:Q08 f size e w B v l)(hu:∀ b,v.ownBlock=some b->b<w.heap.size->u.heap[b]?=w.heap[b]?):Q08 f size e u B v l:=by
 refine ⟨h.1,?_⟩;rcases h.2 with D|⟨g,cap,z,rfl,E,y,G⟩
 ·exact .inl D
 refine .inr ⟨g,cap,z,rfl,E,?_,G⟩;rw [hu g rfl (Array.getElem?_eq_some_iff.1 y).1];exact y
theorem Fp.txt {S:Nat->Prop}{w:World}{B:Nat}{v:Value}{t:List UInt8}(h:Q08 b8 1 5 w B v t)(D:∀ b,B<=b->S b):Fp S w (.mk false v t (.slice none 0 0) []):=by
 intro u E;refine .mk false v t _ [] (h.onto (fun b y z=>E b (D b (h.lt b y)) z)).row (Q05.nil Q0j 3 u) (by simp)
theorem Fp.lst {S:Nat->Prop}{w:World}{B:Nat}{y:Value}{ks:List Itm}(h:Q08 Q0j 3 77 w B y ks)(H:∀ k∈ks,Fp S w k)(G:∀ b,B<=b->S b):Fp S w (.mk true (.slice none 0 0) [] y ks):=by
 intro u z;exact .mk true _ [] y ks (Q05.nil b8 1 u) (h.onto (fun b D E=>z b (G b (h.lt b D)) E)).row (fun k I=>H k I u z)
def SubB (v:Value)(b:List UInt8)(v':Value)(b':List UInt8):Prop:=∀ u:World,Q02 u v b->Q02 u v' b'
theorem SubB.refl (v:Value)(b:List UInt8):SubB v b v b:=fun _ h=>h
theorem SubB.trans {E G H:Value}{y z D:List UInt8}(h:SubB E y G z)(k:SubB G z H D):SubB E y H D:=fun u hu=>k u (h u hu)
theorem Qbm {a:Option Addr}{c:Nat}{l:List UInt8}{w:World}(h:Q02 w (.slice a l.length c) l)(y:Nat)(E:y<=l.length)(x:Int)(H:x=y) :
  ∃ z D,(∀ k w',(Instr.slice 25 (.slice a l.length c) (some (.int k x)) none none).run Tryz.prog w'=.ok (.slice z (l.length - y) D) w')/\SubB (.slice a l.length c) l (.slice z (l.length - y) D) (l.drop y):=by
 obtain ⟨z,D,G,_⟩:=Q05.from elU8 h y E x H;refine ⟨z,D,G,fun u K=>?_⟩;obtain ⟨L,M,I,J⟩:=Q05.from elU8 K y E x H;have:=(G .i64 u).symm.trans (I .i64 u);simp only [Result.ok.injEq,Value.slice.injEq] at this;obtain ⟨⟨rfl,_,rfl⟩,_⟩:=this;exact J
theorem Qtd {a:Option Addr}{c:Nat}{l:List UInt8}{w:World}(h:Q02 w (.slice a l.length c) l)(y:Nat)(E:y<=l.length)(x:Int)(H:x=y) :
  ∃ z D,(∀ k w',(Instr.slice 25 (.slice a l.length c) none (some (.int k x)) none).run Tryz.prog w'=.ok (.slice z y D) w')/\SubB (.slice a l.length c) l (.slice z y D) (l.take y):=by
 obtain ⟨z,D,G,_⟩:=Q05.to elU8 h y E x H;refine ⟨z,D,G,fun u K=>?_⟩;obtain ⟨L,M,I,J⟩:=Q05.to elU8 K y E x H;have:=(G .i64 u).symm.trans (I .i64 u);simp only [Result.ok.injEq,Value.slice.injEq] at this;obtain ⟨⟨rfl,_,rfl⟩,_⟩:=this;exact J
theorem Q02.off_r {w u:World}{v x:Value}{g:Nat}{l:List UInt8}(h:Q02 w v l)(G:Blk 160 w g [x])(E:∃ a n c,x=.slice a n c)(D:w.grownBy u (some g)):Q02 u v l:=by
 obtain ⟨a,n,c,rfl⟩:=E;exact Q02.off_v h G (by intro y z k;simp at z;subst z;simp) D
theorem Q7f {w u v:World}{g:Nat}(h:w.grownBy u (some g))(y:Below u.heap.size u v):w.grownBy v (some g) :=
 ⟨y.os.trans h.os,y.tape.trans h.tape,y.output.trans h.output,le_trans h.size y.size,fun i z D=>(y.block i (lt_of_lt_of_le z h.size)).trans (h.block i z D)⟩
theorem Q3f {a b c:World}{g:Option Nat}(h:a.grownBy b g)(k:b.grownBy c g):a.grownBy c g :=
 ⟨k.os.trans h.os,k.tape.trans h.tape,k.output.trans h.output,le_trans h.size k.size,fun i y z=>(k.block i (lt_of_lt_of_le y h.size) z).trans (h.block i y z)⟩
def mis:List PanicEntry:=[{ v:=.iface 157 (.agg #[]),recovered:=false }]
theorem Q4t (a:Option Addr)(c L n:Nat)(l:List UInt8)(I:l.length=L)(V:L<=maxLen)(H:n<=L)(g:Nat)(w:World)(G:Blk 160 w g [.slice a L c])(h:Q02 w (.slice a L c) l) :
  Calls Tryz.prog 145 #[.pointer (some ⟨g,0,none⟩),.int .u64 (n:Int)] w fun e w'=>∃ D c1 y z,e=.returned (.slice D n c1)/\SubB (.slice a L c) l (.slice D n c1) (l.take n)/\SubB (.slice a L c) l (.slice y (L - n) z) (l.drop n) /\
   Blk 160 w' g [.slice y (L - n) z]/\w.grownBy w' (some g):=by
 unfold maxLen at V;have E:=h;rw [<-I] at E H;obtain ⟨D,c1,W,J⟩:=Qtd E n H (n:Int) rfl;obtain ⟨y,z,Z,K⟩:=Qbm E n H (n:Int) rfl;rw [I] at W J Z K H;have wl:IntKind.u64.wrap (L:Int)=(L:Int):=IntWalk.u64_in _ (by omega);have d1:decide ((L:Int)<(n:Int))=false:=by rw [decide_eq_false_iff_not];omega
 have d2:decide (L<n)=false:=by rw [decide_eq_false_iff_not];omega
 have a4:w.cell? ⟨g,0,none⟩=some (.slice a L c):=G.cell 0;have a5:=G.free 0;have M:=G.set 0 (.slice y (L - n) z);have N:=Q0s (w:=w) (g:=g) 0 (.slice y (L - n) z);have T:=Qhd J;have U:=Qhd K;have O:=Qhd M;have S:=Qhd N;clear I h E J K G M N;go_enter Tryz.func145,Tryz.ntmps145
 go_wp2
 go_ret;exact ⟨D,c1,y,z,rfl,T.out,U.out,O.out,S.out⟩
theorem Q7y (a:Option Addr)(c L n:Nat)(y:L<=maxLen)(G:L<n)(g:Nat)(w:World)(h:Blk 160 w g [.slice a L c]) :
  Calls Tryz.prog 145 #[.pointer (some ⟨g,0,none⟩),.int .u64 (n:Int)] w fun e w'=>e=.panicked mis/\w=w':=by
 unfold maxLen at y;have H:IntKind.u64.wrap (L:Int)=(L:Int):=IntWalk.u64_in _ (by omega);have z:decide ((L:Int)<(n:Int))=true:=by rw [decide_eq_true_eq];omega
 have D:decide (L<n)=true:=by rw [decide_eq_true_eq];omega
 have E:w.cell? ⟨g,0,none⟩=some (.slice a L c):=h.cell 0;go_enter Tryz.func145,Tryz.ntmps145
 go_wp2
 exact ⟨rfl,rfl,rfl⟩
theorem Qlh (N:Nat)(w:World):(Instr.index 24 (wv N) (.int .i64 0)).run Tryz.prog w=.ok (.int .u64 ((lim N 0:Nat):Int)) w:=by
 show (Instr.index 24 (.agg (wcs N).toArray) (.int .i64 ((0:Nat):Int))).run Tryz.prog w=_;refine Qbq (n:=4) (e:=22) (by kernel_rfl) (by kernel_rfl) _ 0 (by omega) w .i64 ?_;have h:=Q4u (P:=Tryz.prog) w (e:=22) (k:=.u64) (by kernel_rfl) (limI N) 0 (by simp [limI]);exact h
def Q7i (o:Option (Nat × List UInt8))(v:Value)(r:List UInt8)(g:Nat)(w:World)(e:Ending)(w':World):Prop :=
 match o with
 | none=>e=.panicked mis/\w.grownBy w' (some g)
 | some (k,r')=>∃ a' c',e=.returned (.int .u64 (k:Int))/\SubB v r (.slice a' r'.length c') r'/\Blk 160 w' g [.slice a' r'.length c']/\w.grownBy w' (some g)
theorem Qef (c h:Nat)(J:h<=192)(H:h<=c)(I:c<h+48)(g:Nat)(w:World) :
  Calls Tryz.prog 146 #[.pointer (some ⟨g,0,none⟩),.int .u8 (c:Int),.int .u8 (h:Int)] w fun e w'=>e=.returned (.int .u64 ((c - h:Nat):Int))/\w=w':=by
 have G:IntKind.u8.wrap ((h:Int)+48)=(h:Int)+48:=IntWalk.u8_in _ (by omega);have E:decide ((c:Int)<(h:Int)+48)=true:=by rw [decide_eq_true_eq];omega
 have z:IntKind.u8.wrap ((c:Int) - (h:Int))=((c - h:Nat):Int):=by rw [show (c:Int) - (h:Int)=((c - h:Nat):Int) from by omega];exact IntWalk.u8_in _ (by omega)
 have D:IntKind.u64.wrap ((c - h:Nat):Int)=((c - h:Nat):Int):=IntWalk.u64_in _ (by omega);obtain ⟨m,y⟩:=Qe (c - h);rw [<-y] at z D;rw [<-y];clear y;go_enter Tryz.func146,Tryz.ntmps146
 go_wp2
 go_ret;exact ⟨rfl,rfl⟩
theorem Qjq (c z:Nat)(hb:z<=192)(h2:z+48<=c)(aD:c<256)(a:Option Addr)(J L:Nat)(r:List UInt8)(O:r.length=L)(af:L<=maxLen)(g:Nat)(w:World)(hB:Blk 160 w g [.slice a L J])(h:Q02 w (.slice a L J) r) :
  Calls Tryz.prog 146 #[.pointer (some ⟨g,0,none⟩),.int .u8 (c:Int),.int .u8 (z:Int)] w (Q7i (hdr c z r) (.slice a L J) r g w):=by
 obtain ⟨k,hk⟩:=Qe (c - z - 48+1);have aG:k<=256:=by omega
 have aF:1<=k:=by omega
 have e1:IntKind.u8.wrap ((z:Int)+48)=(z:Int)+48:=IntWalk.u8_in _ (by omega);have d1:decide ((c:Int)<(z:Int)+48)=false:=by rw [decide_eq_false_iff_not];omega
 obtain ⟨m,hm⟩:=Qe (c - z);obtain ⟨q,hq⟩:=Qe (m - 48);have e2:IntKind.u8.wrap ((c:Int) - (z:Int))=(m:Int):=by rw [show (c:Int) - (z:Int)=(m:Int) from by omega];exact IntWalk.u8_in _ (by omega)
 have e3:IntKind.u8.wrap ((m:Int) - 48)=(q:Int):=by rw [show (m:Int) - 48=(q:Int) from by omega];exact IntWalk.u8_in _ (by omega)
 have e4:IntKind.u64.wrap (q:Int)=(q:Int):=IntWalk.u64_in _ (by omega);have e5:IntKind.u64.wrap ((q:Int)+1)=(k:Int):=by rw [show (q:Int)+1=(k:Int) from by omega];exact IntWalk.u64_in _ (by omega)
 have hH:hdr c z r=if L<k then none else if (r.take k).head?=some 0∨8<k then none else if numL (r.take k)<48 then none else some (numL (r.take k),r.drop k):=by
  unfold hdr;rw [if_neg (by omega),O,<-hk]
 rw [hH];clear hH hm hq hk;by_cases hlk:L<k
 ·have M:=Q7y a J L k af hlk g w hB;rw [if_pos hlk];have H:=Qhd M;clear M O;go_enter Tryz.func146,Tryz.ntmps146
  go_wp2_with (go_at_call 145;(with_reducible refine H.out.mono ?_);rintro e y ⟨rfl,rfl⟩)
  exact ⟨rfl,rfl,World.grownBy.refl _ _⟩
 rw [if_neg hlk];have ap:k<=L:=by omega
 have M:=Q4t a J L k r O af ap g w hB h;have a4:(r.take k).length=k:=by rw [length_take];omega
 have aj:∀ u,w.grownBy u (some g)->Q02 u (.slice a L J) r:=fun u hu=>Q02.off_r h hB ⟨_,_,_,rfl⟩ hu;have aa:(r.drop k).length=L - k:=by rw [length_drop,O]
 obtain ⟨l,hl⟩:=Qe (r.take k);obtain ⟨aI,a5⟩:=Qe (r.drop k);rw [<-hl,<-a5] at M;rw [<-hl] at a4;rw [<-a5] at aa;rw [<-hl,<-a5];clear hl a5 O hB h;cases l with
 | nil=>simp at a4;omega
 | cons x l =>
  simp only [List.head?_cons,Option.some.injEq];have H:=Qhd M;have U:=Qhd aj;have ac:=Qhd aa;have a7:=Qhd a4;have aH:(0:Int)<(k:Int):=by omega
  clear M aj aa a4;by_cases hbad:x=0∨8<k
  ·rw [if_pos hbad];by_cases K:x=0
   ·subst K;clear hbad;have hz:(((0:UInt8).toNat:Int)==0)=true:=rfl;go_enter Tryz.func146,Tryz.ntmps146
    go_wp2_with (go_at_call 145;(with_reducible refine H.out.mono ?_);rintro e y ⟨I,c1,V,Z,rfl,G,r2,T,D⟩;obtain ⟨b,off,rfl,E⟩:=Q02.at (G y (U.out y D)) 0 (by simp);simp only [getElem_cons_zero,add_zero] at E)
    exact ⟨rfl,rfl,D⟩
   have h8:8<k:=by rcases hbad with h|h;exact absurd h K;exact h
   have hz:=Qkp x K;have a9:(8:Int)<(k:Int):=by omega
   have am:decide ((8:Int)<(k:Int))=true:=by rw [decide_eq_true_eq];exact a9
   clear hbad;go_enter Tryz.func146,Tryz.ntmps146
   go_wp2_with (go_at_call 145;(with_reducible refine H.out.mono ?_);rintro e y ⟨I,c1,V,Z,rfl,G,r2,T,D⟩;obtain ⟨b,off,rfl,E⟩:=Q02.at (G y (U.out y D)) 0 (by simp);simp only [getElem_cons_zero,add_zero] at E)
   exact ⟨rfl,rfl,D⟩
  rw [if_neg hbad];have K:x≠0:=fun h=>hbad (.inl h);have h8:k<=8:=by omega
  have hz:=Qkp x K;have a9:¬ (8:Int)<(k:Int):=by omega
  have am:decide ((8:Int)<(k:Int))=false:=by rw [decide_eq_false_iff_not];exact a9
  have ah:Q21 (x::l)=x::l:=Q46 _ (by rw [a7.out];omega);have hN:=Qhw (x::l) (by rw [a7.out];exact h8);have hrd:=fun (I:Option Addr) (c1:Nat) (y:World) (h1:Q02 y (.slice I (x::l).length c1) (x::l))=>Qbu I c1 (x::l) y h1;rw [a7.out,ah] at hrd;obtain ⟨N,a'⟩:=Qe (numL (x::l));rw [<-a'] at hrd hN;rw [<-a'];have ao:=fun w=>Qlh N w;have ai:lim N 0=N:=by unfold lim;simp;omega
  rw [ai] at ao;have ab:=Qhd hrd;clear hrd ai ah a' hbad K;by_cases h48:N<48
  ·rw [if_pos h48];have a8:(N:Int)<48:=by omega
   have al:decide ((N:Int)<48)=true:=by rw [decide_eq_true_eq];exact a8
   go_enter Tryz.func146,Tryz.ntmps146
   go_wp2_with (first
    |(go_at_call 145;(with_reducible refine H.out.mono ?_);rintro e y ⟨I,c1,V,Z,rfl,G,r2,T,D⟩;have S:=G y (U.out y D);obtain ⟨b,off,rfl,E⟩:=Q02.at S 0 (by simp);simp only [getElem_cons_zero,add_zero] at E)
    |(go_at_call 85;(with_reducible refine (ab.out _ _ _ S).mono ?_);rintro e w2 ⟨rfl,W⟩))
   exact ⟨rfl,rfl,Q7f D W⟩
  rw [if_neg h48];have a8:¬ (N:Int)<48:=by omega
  have al:decide ((N:Int)<48)=false:=by rw [decide_eq_false_iff_not];exact a8
  go_enter Tryz.func146,Tryz.ntmps146
  go_wp2_with (first
   |(go_at_call 145;(with_reducible refine H.out.mono ?_);rintro e y ⟨I,c1,V,Z,rfl,G,r2,T,D⟩;have S:=G y (U.out y D);obtain ⟨b,off,rfl,E⟩:=Q02.at S 0 (by simp);simp only [getElem_cons_zero,add_zero] at E)
   |(go_at_call 85;(with_reducible refine (ab.out _ _ _ S).mono ?_);rintro e w2 ⟨rfl,W⟩))
  go_ret;refine ⟨V,Z,rfl,?_,?_,Q7f D W⟩
  ·rw [ac.out];exact r2
  rw [ac.out];exact T.kept W
theorem Q68 {w u u':World}{g:Nat}{row:Option Nat}(h:w.grownBy u (some g))(k:u.grownBy u' row)(z:∀ x,row=some x->w.heap.size<=x):w.grownBy u' (some g) :=
 ⟨k.os.trans h.os,k.tape.trans h.tape,k.output.trans h.output,le_trans h.size k.size,fun i y D=>(k.block i (lt_of_lt_of_le y h.size) (fun e=>by have:=z i e.symm;omega)).trans (h.block i y D)⟩
theorem Qb0 (c y:Nat)(G:y<=192)(H:y<=c)(I:c<256)(a:Option Addr)(z L:Nat)(r:List UInt8)(D:r.length=L)(J:L<=maxLen)(g:Nat)(w:World)(E:Blk 160 w g [.slice a L z])(h:Q02 w (.slice a L z) r) :
  Calls Tryz.prog 146 #[.pointer (some ⟨g,0,none⟩),.int .u8 (c:Int),.int .u8 (y:Int)] w (Q7i (hdr c y r) (.slice a L z) r g w):=by
 by_cases h2:c<y+48
 ·have K:hdr c y r=some (c - y,r):=by unfold hdr;rw [if_pos h2]
  rw [K];refine (Qef c y G H h2 g w).mono ?_;rintro e w' ⟨rfl,rfl⟩;exact ⟨a,z,rfl,by rw [D];exact SubB.refl _ _,by rw [D];exact E,World.grownBy.refl _ _⟩
 exact Qjq c y G (by omega) I a z L r D J g w E h
theorem Q7t (v:Value)(r:List UInt8)(g:Nat)(w:World):Q7i none v r g w=fun e w'=>e=.panicked mis/\w.grownBy w' (some g):=rfl
theorem Q7s (k:Nat)(h:List UInt8)(v:Value)(r:List UInt8)(g:Nat)(w:World):Q7i (some (k,h)) v r g w=fun e w'=>∃ a' c',e=.returned (.int .u64 (k:Int))/\SubB v r (.slice a' h.length c') h/\Blk 160 w' g [.slice a' h.length c']/\w.grownBy w' (some g):=rfl
def Q3l (o:Option (Pit × List UInt8))(v:Value)(b:List UInt8)(g:Nat)(w:World)(e:Ending)(w':World):Prop :=
 match o with
 | none=>e=.panicked mis/\w.grownBy w' (some g)
 | some (p,r)=>∃ it a' c',e=.returned (.agg (Q0j it).toArray)/\SubB v b (.slice a' r.length c') r/\Blk 160 w' g [.slice a' r.length c']/\w.grownBy w' (some g)/\Fp (fun x=>w.heap.size<=x) w' it/\erI it=p/\Q40 it
structure Rd (w:World)(v0:Value)(b0:List UInt8)(g:Nat)(u:World)(a:Option Addr)(L c:Nat)(b:List UInt8):Prop where
 hg:w.grownBy u (some g)
 hB:Blk 160 u g [.slice a L c]
 hs:SubB v0 b0 (.slice a L c) b
 hL:b.length=L
 hm:L<=maxLen
theorem Rd.start {w:World}{g:Nat}{a:Option Addr}{L c:Nat}{b:List UInt8}(h:Blk 160 w g [.slice a L c])(y:b.length=L)(z:L<=maxLen):Rd w (.slice a L c) b g w a L c b :=
 ⟨World.grownBy.refl _ _,h,SubB.refl _ _,y,z⟩
theorem Rd.alloc {w:World}{z:Value}{y:List UInt8}{g:Nat}{u:World}{a:Option Addr}{L c:Nat}{b:List UInt8}(h:Rd w z y g u a L c b)(o:Obj):Rd w z y g (u.alloc o) a L c b :=
 ⟨Q3f h.hg (World.grownBy_alloc _ _ _),h.hB.alloc o,h.hs,h.hL,h.hm⟩
theorem Rd.kept {w:World}{D:Value}{y:List UInt8}{g:Nat}{u u':World}{a:Option Addr}{L c:Nat}{b:List UInt8}(h:Rd w D y g u a L c b)(z:Below u.heap.size u u'):Rd w D y g u' a L c b :=
 ⟨Q7f h.hg z,h.hB.kept z,h.hs,h.hL,h.hm⟩
theorem Rd.fresh {w:World}{D:Value}{y:List UInt8}{g:Nat}{u u':World}{a:Option Addr}{L c:Nat}{b:List UInt8}{row:Option Nat}(h:Rd w D y g u a L c b)(k:u.grownBy u' row)(z:∀ x,row=some x->w.heap.size<=x)(E:g<w.heap.size):Rd w D y g u' a L c b :=
 ⟨Q68 h.hg k z,h.hB.grown k (fun e=>by have:=z g e;omega),h.hs,h.hL,h.hm⟩
theorem Rd.next {w:World}{H:Value}{G:List UInt8}{g:Nat}{u u':World}{a z:Option Addr}{L c y E:Nat}{b D:List UInt8}(h:Rd w H G g u a L c b)(K:u.grownBy u' (some g))(I:Blk 160 u' g [.slice z y E])(M:SubB (.slice a L c) b (.slice z y E) D)(J:D.length=y)(N:y<=L):Rd w H G g u' z y E D :=
 ⟨Q3f h.hg K,I,h.hs.trans M,J,by have:=h.hm;omega⟩
theorem Rd.bytes {w:World}{z:Value}{y:List UInt8}{g:Nat}{u:World}{a:Option Addr}{L c:Nat}{b:List UInt8}(h:Rd w z y g u a L c b)(D:∀ u,w.grownBy u (some g)->Q02 u z y):Q02 u (.slice a L c) b:=h.hs u (D u h.hg)
theorem Qck (n:Nat)(a:Option Addr)(L c:Nat)(b:List UInt8)(z:b.length=L)(W:L<=maxLen)(a6:∀ x r,b=x::r->x.toNat<128)(g:Nat)(w:World)(V:Blk 160 w g [.slice a L c])(h:Q02 w (.slice a L c) b) :
  Calls Tryz.prog 115 #[.pointer (some ⟨g,0,none⟩)] w (Q3l (par (n+1) b) (.slice a L c) b g w):=by
 have ag:=V.lt;have R0:=Rd.start V z W;have J:∀ u,w.grownBy u (some g)->Q02 u (.slice a L c) b:=fun u K=>Q02.off_r h V ⟨_,_,_,rfl⟩ K;have N:=D01 w 77 [.bool false,.slice none 0 0,.slice none 0 0];have D:=R0.alloc (.cells #[.bool false,.slice none 0 0,.slice none 0 0] 77);have a9:w.heap.size<=(w.alloc (.cells #[.bool false,.slice none 0 0,.slice none 0 0] 77)).heap.size:=by simp
 obtain ⟨O,M⟩:=Qe (w.alloc (.cells #[.bool false,.slice none 0 0,.slice none 0 0] 77));rw [<-M] at D a9;change Blk _ (w.alloc (.cells #[.bool false,.slice none 0 0,.slice none 0 0] 77)) _ _ at N;rw [<-M] at N;have au:=N.lt;have Z:=Qhd M;clear M;cases b with
 | nil =>
  have I:par (n+1) []=none:=by simp [par]
  rw [I];have G:Calls Tryz.prog 145 #[.pointer (some ⟨g,0,none⟩),.int .u64 1] O _:=Q7y a c L 1 W (by simp at z;omega) g O D.hB;have af:=D.hg;have U:=Qhd G;have HL:=Qhd z;clear G I J R0 D z;go_enter Tryz.func115,Tryz.ntmps115
  go_wp2_with fail
  rw [<-Z.out]
  go_wp2_with (go_at_call 145;(with_reducible refine U.out.mono ?_);rintro e E ⟨rfl,rfl⟩)
  exact ⟨rfl,rfl,af⟩
 | cons x r =>
  have hx:=a6 x r rfl;have I:par (n+1) (x::r)=some (.txt [x],r):=by simp [par,hx]
  rw [I];have G:Calls Tryz.prog 145 #[.pointer (some ⟨g,0,none⟩),.int .u64 1] O _:=Q4t a c L 1 (x::r) z W (by rw [<-z];simp) g O D.hB (D.bytes J);have a8:r.length=L - 1:=by rw [<-z];simp
  have aj:(x.toNat:Int)<128:=by omega
  have aw:decide ((x.toNat:Int)<128)=true:=by rw [decide_eq_true_eq];exact aj
  simp only [take_succ_cons,take_zero,drop_succ_cons,drop_zero] at G;have U:=Qhd G;have S:=Qhd a8;have H0:=Qhd J;have HL:=Qhd z;clear G I J a8 z a6 hx;go_enter Tryz.func115,Tryz.ntmps115
  go_wp2_with fail
  rw [<-Z.out]
  go_wp2_with (first
   |(go_at_call 145;(with_reducible refine U.out.mono ?_);rintro e E ⟨a1,c1,a2,c2,rfl,r1,r2,B2,H⟩;have R2:Rd w (.slice a L c) (x::r) g E a2 (L - 1) c2 r:=D.next H B2 r2 S.out (by omega);have al:=N.grown H (by simp;omega);obtain ⟨b,off,rfl,hc⟩:=Q02.at (r1 E (H0.out E R2.hg)) 0 (by simp);simp only [getElem_cons_zero,add_zero] at hc)
   |(refine Q25 (o:=⟨some 15,_,_,_,_,_⟩) (by rfl) (.tmp 14) 25 (by rfl) elU8 (.int .u8 (x.toNat:Int)) [.int .u8 (x.toNat:Int)] (by rfl) (by rfl) rfl (by omega) ?_;have o3:=Q08.made b8 1 5 E w.heap.size [x] #[.int .u8 (x.toNat:Int)] 1 rfl rfl rfl (le_trans a9 H.size) (by unfold maxLen;omega);have am:=al.alloc (.cells #[.int .u8 (x.toNat:Int)] 5);have R3:=R2.alloc (.cells #[.int .u8 (x.toNat:Int)] 5);have av:=H.size)
   |((with_reducible show wpList _ _ _ (⟨none,.store _ _ _,_,_,_,_⟩::_) _ _);refine Qsa 77 2 16 w.heap.size [.bool false,.slice (some ⟨E.heap.size,0,none⟩) 1 1,.slice none 0 0] Q09 am (by rfl) (by rfl) (by intro u K;simp at K;rcases K with rfl|rfl|rfl<;>rfl) (Below.refl _ _) (le_refl _) ?_;intro w5 ah _ a7))
  have T:=R3.fresh a7 (fun y hy=>by cases hy;exact le_refl _) ag;have o5:=o3.grown a7 (fun k hk e=>by cases hk;simp [Value.ownBlock] at e;have:=H.size;omega);refine bodyPost_ret (Q0h rfl _ _ w.heap.size Q09 ah rfl rfl) rfl ⟨.mk false (.slice (some ⟨E.heap.size,0,none⟩) 1 1) [x] (.slice none 0 0) [],a2,c2,rfl,?_,?_,T.hg,Fp.txt o5 (fun _ h=>h),by rw [Q1w];rfl,.txt _ _ _⟩
  ·rw [S.out];exact T.hs
  rw [S.out];exact T.hB
theorem Qn4 (n:Nat)(a:Option Addr)(L c:Nat)(x:UInt8)(r:List UInt8)(hL:(x::r).length=L)(bt:L<=1048576)(b5:128<=x.toNat)(b6:x.toNat<192)(g:Nat)(w:World)(hB:Blk 160 w g [.slice a L c])(h:Q02 w (.slice a L c) (x::r)) :
  Calls Tryz.prog 115 #[.pointer (some ⟨g,0,none⟩)] w (Q3l (par (n+1) (x::r)) (.slice a L c) (x::r) g w):=by
 have aK:=hB.lt;have b7:L<=maxLen:=by unfold maxLen;omega
 have R0:=Rd.start hB hL b7;have h0:∀ u,w.grownBy u (some g)->Q02 u (.slice a L c) (x::r):=fun u hu=>Q02.off_r h hB ⟨_,_,_,rfl⟩ hu;have ab:=D01 w 77 [.bool false,.slice none 0 0,.slice none 0 0];have R1:=R0.alloc (.cells #[.bool false,.slice none 0 0,.slice none 0 0] 77);have bi:w.heap.size<=(w.alloc (.cells #[.bool false,.slice none 0 0,.slice none 0 0] 77)).heap.size:=by simp
 obtain ⟨w1,aM⟩:=Qe (w.alloc (.cells #[.bool false,.slice none 0 0,.slice none 0 0] 77));rw [<-aM] at R1 bi;change Blk _ (w.alloc (.cells #[.bool false,.slice none 0 0,.slice none 0 0] 77)) _ _ at ab;rw [<-aM] at ab;have bv:=ab.lt;have aw:=Qhd aM;clear aM;have hp:par (n+1) (x::r)=match hdr x.toNat 128 r with
   | none=>none
   | some (k,D)=>if D.length<k∨own1 k D=true then none else some (.txt (D.take k),D.drop k):=by
  rw [par,if_neg (by omega),if_pos b6]
  all_goals (cases hdr x.toNat 128 r<;>rfl)
 rw [hp];have t1:Calls Tryz.prog 145 #[.pointer (some ⟨g,0,none⟩),.int .u64 1] w1 _:=Q4t a c L 1 (x::r) hL b7 (by rw [<-hL];simp) g w1 R1.hB (R1.bytes h0);have aW:r.length=L - 1:=by rw [<-hL];simp
 have bj:¬ (x.toNat:Int)<128:=by omega
 have bw:decide ((x.toNat:Int)<128)=false:=by rw [decide_eq_false_iff_not];exact bj
 have bk:(x.toNat:Int)<192:=by omega
 have bx:decide ((x.toNat:Int)<192)=true:=by rw [decide_eq_true_eq];exact bk
 simp only [take_succ_cons,take_zero,drop_succ_cons,drop_zero] at t1;have lc:∀ (K:Option Addr) (N:Nat) (u:World),Blk 160 u g [.slice K (L - 1) N]->Q02 u (.slice K (L - 1) N) r->Calls Tryz.prog 146 #[.pointer (some ⟨g,0,none⟩),.int .u8 (x.toNat:Int),.int .u8 128] u (Q7i (hdr x.toNat 128 r) (.slice K (L - 1) N) r g u) :=
  fun K N u h1 h2=>Qb0 x.toNat 128 (by omega) b5 (by omega) K N (L - 1) r aW (by omega) g u h1 h2
 have T1:=Qhd t1;have an:=Qhd aW;have J:=Qhd h0;have HL:=Qhd hL;clear t1 hp h0 aW hL b5 b6 h;cases hh:hdr x.toNat 128 r with
 | none =>
  simp only [hh,Q7t] at lc;have Lc:=Qhd lc;clear lc hh;dsimp only;go_enter Tryz.func115,Tryz.ntmps115
  go_wp2_with fail
  rw [<-aw.out]
  go_wp2_with (first
   |(go_at_call 145;(with_reducible refine T1.out.mono ?_);rintro e I ⟨a1,c1,K,N,rfl,r1,r2,B2,O⟩;have z:Rd w (.slice a L c) (x::r) g I K (L - 1) N r:=R1.next O B2 r2 an.out (by omega);have ac:=ab.grown O (by simp;omega);obtain ⟨b,off,rfl,hc⟩:=Q02.at (r1 I (J.out I z.hg)) 0 (by simp);simp only [getElem_cons_zero,add_zero] at hc)
   |(go_at_call 146;(with_reducible refine (Lc.out _ _ _ z.hB (z.bytes J.out)).mono ?_);rintro e w3 ⟨rfl,S⟩))
  exact ⟨rfl,rfl,Q3f z.hg S⟩
 | some kr =>
  obtain ⟨k,D⟩:=kr;obtain ⟨j,hj,bf⟩:=Q50 hh;have bh:D.length<=L - 1:=by rw [hj,length_drop,an.out];omega
  simp only [hh,Q7s] at lc;have Lc:=Qhd lc;clear lc hh hj bf;dsimp only;obtain ⟨M,hM⟩:=Qe (D.length);rw [<-hM] at Lc bh;have aJ:M<=maxLen:=by omega
  simp only [<-hM];have U:=Qhd hM.symm;clear hM;by_cases hk:M<k
  ·rw [if_pos (.inl hk)];go_enter Tryz.func115,Tryz.ntmps115
   go_wp2_with fail
   rw [<-aw.out]
   go_wp2_with (first
    |(go_at_call 145;(with_reducible refine T1.out.mono ?_);rintro e I ⟨a1,c1,K,N,rfl,r1,r2,B2,O⟩;have z:Rd w (.slice a L c) (x::r) g I K (L - 1) N r:=R1.next O B2 r2 an.out (by omega);have ac:=ab.grown O (by simp;omega);obtain ⟨b,off,rfl,hc⟩:=Q02.at (r1 I (J.out I z.hg)) 0 (by simp);simp only [getElem_cons_zero,add_zero] at hc)
    |(go_at_call 146;(with_reducible refine (Lc.out _ _ _ z.hB (z.bytes J.out)).mono ?_);rintro e w3 ⟨E,G,rfl,s3,B3,S⟩;have H:=z.next S B3 s3 U.out (by omega);have aD:=ac.grown S (by simp;omega))
    |(go_at_call 145;(with_reducible refine (Q7y E G M k aJ hk g w3 H.hB).mono ?_);rintro e T ⟨rfl,rfl⟩))
   exact ⟨rfl,rfl,H.hg⟩
  by_cases ho:own1 k D=true
  ·rw [if_pos (.inr ho)];have aV:=ho;unfold own1 at aV;simp only [Bool.and_eq_true,decide_eq_true_eq] at aV;obtain ⟨rfl,V⟩:=aV;cases D with
   | nil=>have:=U.out;simp at this;omega
   | cons y D =>
    have aY:(y.toNat:Int)<128:=by simp at V;omega
    have bl:decide ((y.toNat:Int)<128)=true:=by rw [decide_eq_true_eq];exact aY
    have W:∀ (E:Option Addr) (G:Nat) (u:World),Blk 160 u g [.slice E M G]->Q02 u (.slice E M G) (y::D)->Calls Tryz.prog 145 #[.pointer (some ⟨g,0,none⟩),.int .u64 1] u _:=fun E G u h1 h2=>Q4t E G M 1 (y::D) U.out aJ (by omega) g u h1 h2;simp only [take_succ_cons,take_zero,drop_succ_cons,drop_zero] at W;have Tk:=Qhd W;clear ho V W;go_enter Tryz.func115,Tryz.ntmps115
    go_wp2_with fail
    rw [<-aw.out]
    go_wp2_with (first
     |(go_at_call 145;(with_reducible refine T1.out.mono ?_);rintro e I ⟨a1,c1,K,N,rfl,r1,r2,B2,O⟩;have z:Rd w (.slice a L c) (x::r) g I K (L - 1) N r:=R1.next O B2 r2 an.out (by omega);have ac:=ab.grown O (by simp;omega);obtain ⟨b,off,rfl,hc⟩:=Q02.at (r1 I (J.out I z.hg)) 0 (by simp);simp only [getElem_cons_zero,add_zero] at hc)
     |(go_at_call 146;(with_reducible refine (Lc.out _ _ _ z.hB (z.bytes J.out)).mono ?_);rintro e w3 ⟨E,G,rfl,s3,B3,S⟩;have H:=z.next S B3 s3 U.out (by omega);have aD:=ac.grown S (by simp;omega))
     |(go_at_call 145;refine (Tk.out E G w3 H.hB (H.bytes J.out)).mono ?_;rintro e T ⟨a4,c4,a5,c5,rfl,r4,r5,B4,Z⟩;have ar:=r4 T (Q02.off_r (H.bytes J.out) H.hB ⟨_,_,_,rfl⟩ Z);obtain ⟨b4,bn,rfl,aT⟩:=Q02.at ar 0 (by simp);simp only [getElem_cons_zero,add_zero] at aT))
    exact ⟨rfl,rfl,Q3f H.hg Z⟩
  rw [if_neg (by rintro (h|h);exact hk h;exact ho h)];have bg:k<=M:=by omega
  have aL:(D.take k).length=k:=by rw [length_take,U.out];omega
  have au:(D.drop k).length=M - k:=by rw [length_drop,U.out]
  by_cases hk1:k=1
  ·subst hk1;cases D with
   | nil=>have:=U.out;simp at this;omega
   | cons y D =>
    have bm:¬ y.toNat<128:=fun V=>ho (by unfold own1;simp;omega);have aY:¬ (y.toNat:Int)<128:=by omega
    have bl:decide ((y.toNat:Int)<128)=false:=by rw [decide_eq_false_iff_not];exact aY
    have W:∀ (E:Option Addr) (G:Nat) (u:World),Blk 160 u g [.slice E M G]->Q02 u (.slice E M G) (y::D)->Calls Tryz.prog 145 #[.pointer (some ⟨g,0,none⟩),.int .u64 1] u _:=fun E G u h1 h2=>Q4t E G M 1 (y::D) U.out aJ (by omega) g u h1 h2;simp only [take_succ_cons,take_zero,drop_succ_cons,drop_zero] at W au |-;have Tk:=Qhd W;have af:=Qhd au;clear ho W bm aL au hk;go_enter Tryz.func115,Tryz.ntmps115
    go_wp2_with fail
    rw [<-aw.out]
    go_wp2_with (first
     |(go_at_call 145;(with_reducible refine T1.out.mono ?_);rintro e I ⟨a1,c1,K,N,rfl,r1,r2,B2,O⟩;have z:Rd w (.slice a L c) (x::r) g I K (L - 1) N r:=R1.next O B2 r2 an.out (by omega);have ac:=ab.grown O (by simp;omega);obtain ⟨b,off,rfl,hc⟩:=Q02.at (r1 I (J.out I z.hg)) 0 (by simp);simp only [getElem_cons_zero,add_zero] at hc)
     |(go_at_call 146;(with_reducible refine (Lc.out _ _ _ z.hB (z.bytes J.out)).mono ?_);rintro e w3 ⟨E,G,rfl,s3,B3,S⟩;have H:=z.next S B3 s3 U.out (by omega);have aD:=ac.grown S (by simp;omega))
     |(go_at_call 145;refine (Tk.out E G w3 H.hB (H.bytes J.out)).mono ?_;rintro e T ⟨a4,c4,a5,c5,rfl,r4,r5,B4,Z⟩;have R4:Rd w (.slice a L c) (x::r) g T a5 (M - 1) c5 D:=H.next Z B4 r5 af.out (by omega);have aE:=aD.grown Z (by simp;omega);have ar:=r4 T (Q02.off_r (H.bytes J.out) H.hB ⟨_,_,_,rfl⟩ Z);have aX:w.heap.size<T.heap.size:=aE.lt;obtain ⟨b4,bn,rfl,aT⟩:=Q02.at ar 0 (by simp);simp only [getElem_cons_zero,add_zero] at aT)
     |(refine Q0x (o:=⟨some 38,_,_,_,_,_⟩) (by rfl) (.tmp 36) (.tmp 37) 25 (by rfl) elU8 (by rfl) (Q08.empty b8 1 5 T (w.heap.size+1) aX) (by rfl) (ar.alloc _) (by simp;omega) (by simp) (by unfold maxLen;simp) ?_;intro v6 w6 o6 g6 p6;have aZ:=(aE.alloc (.cells #[] 5)).grown g6 (by simp [Value.ownBlock];omega);obtain ⟨a6,c6,rfl,_⟩:=o6.form' 1 (by simp);have R6:=(R4.alloc (.cells #[] 5)).fresh g6 (by intro y V;simp [Value.ownBlock] at V;omega) aK)
     |((with_reducible show wpList _ _ _ (⟨none,.store _ _ _,_,_,_,_⟩::_) _ _);refine Qsa 77 2 39 w.heap.size [.bool false,.slice a6 1 c6,.slice none 0 0] Q09 aZ (by rfl) (by rfl) (by intro u hu;simp at hu;rcases hu with rfl|rfl|rfl<;>rfl) (Below.refl _ _) (le_refl _) ?_;intro w7 aU _ aC))
    have R7:=R6.fresh aC (fun y V=>by cases V;exact le_refl _) aK;have o7:=o6.grown aC (fun k hk e=>by cases hk;have:=o6.lt _ e;omega);refine bodyPost_ret (Q0h rfl _ _ w.heap.size Q09 aU rfl rfl) rfl ⟨.mk false (.slice a6 1 c6) [y] (.slice none 0 0) [],a5,c5,rfl,?_,?_,R7.hg,Fp.txt o7 (fun _ h=>by omega),by rw [Q1w];rfl,.txt _ _ _⟩
    ·rw [af.out];exact R7.hs
    rw [af.out];exact R7.hB
  have bu:((k:Int)==1)=false:=by rw [beq_eq_false_iff_ne];omega
  have W:∀ (E:Option Addr) (G:Nat) (u:World),Blk 160 u g [.slice E M G]->Q02 u (.slice E M G) D->Calls Tryz.prog 145 #[.pointer (some ⟨g,0,none⟩),.int .u64 (k:Int)] u _:=fun E G u h1 h2=>Q4t E G M k D U.out aJ bg g u h1 h2;obtain ⟨t,ht⟩:=Qe (D.take k);obtain ⟨d,hd⟩:=Qe (D.drop k);simp only [<-ht,<-hd] at W aL au |-;have Tk:=Qhd W;have af:=Qhd au;have aO:=Qhd aL;clear ho W ht hd aL au hk hk1;go_enter Tryz.func115,Tryz.ntmps115
  go_wp2_with fail
  rw [<-aw.out]
  go_wp2_with (first
   |(go_at_call 145;(with_reducible refine T1.out.mono ?_);rintro e I ⟨a1,c1,K,N,rfl,r1,r2,B2,O⟩;have z:Rd w (.slice a L c) (x::r) g I K (L - 1) N r:=R1.next O B2 r2 an.out (by omega);have ac:=ab.grown O (by simp;omega);obtain ⟨b,off,rfl,hc⟩:=Q02.at (r1 I (J.out I z.hg)) 0 (by simp);simp only [getElem_cons_zero,add_zero] at hc)
   |(go_at_call 146;(with_reducible refine (Lc.out _ _ _ z.hB (z.bytes J.out)).mono ?_);rintro e w3 ⟨E,G,rfl,s3,B3,S⟩;have H:=z.next S B3 s3 U.out (by omega);have aD:=ac.grown S (by simp;omega))
   |(go_at_call 145;refine (Tk.out E G w3 H.hB (H.bytes J.out)).mono ?_;rintro e T ⟨a4,c4,a5,c5,rfl,r4,r5,B4,Z⟩;have R4:Rd w (.slice a L c) (x::r) g T a5 (M - k) c5 d:=H.next Z B4 r5 af.out (by omega);have aE:=aD.grown Z (by simp;omega);have ar:=r4 T (Q02.off_r (H.bytes J.out) H.hB ⟨_,_,_,rfl⟩ Z);have aX:w.heap.size<T.heap.size:=aE.lt)
   |(refine Q0x (o:=⟨some 38,_,_,_,_,_⟩) (by rfl) (.tmp 36) (.tmp 37) 25 (by rfl) elU8 (by rfl) (Q08.empty b8 1 5 T (w.heap.size+1) aX) (by rfl) (ar.alloc _) (by simp;omega) (by rw [aO.out];simp;omega) (by unfold maxLen;rw [aO.out];simp;omega) ?_;intro v6 w6 o6 g6 p6;have aZ:=(aE.alloc (.cells #[] 5)).grown g6 (by simp [Value.ownBlock];omega);obtain ⟨a6,c6,rfl,_⟩:=o6.form' k (by rw [List.nil_append];exact aO.out);have R6:=(R4.alloc (.cells #[] 5)).fresh g6 (by intro y V;simp [Value.ownBlock] at V;omega) aK)
   |((with_reducible show wpList _ _ _ (⟨none,.store _ _ _,_,_,_,_⟩::_) _ _);refine Qsa 77 2 39 w.heap.size [.bool false,.slice a6 k c6,.slice none 0 0] Q09 aZ (by rfl) (by rfl) (by intro u hu;simp at hu;rcases hu with rfl|rfl|rfl<;>rfl) (Below.refl _ _) (le_refl _) ?_;intro w7 aU _ aC))
  have R7:=R6.fresh aC (fun y V=>by cases V;exact le_refl _) aK;have o7:=o6.grown aC (fun k hk e=>by cases hk;have:=o6.lt _ e;omega);refine bodyPost_ret (Q0h rfl _ _ w.heap.size Q09 aU rfl rfl) rfl ⟨.mk false (.slice a6 k c6) t (.slice none 0 0) [],a5,c5,rfl,?_,?_,R7.hg,Fp.txt o7 (fun _ h=>by omega),by rw [Q1w];rfl,.txt _ _ _⟩
  ·rw [af.out];exact R7.hs
  rw [af.out];exact R7.hB
def Any (_:World):Prop:=True
structure LsW (w:World)(v0:Value)(b0:List UInt8)(g gi g6:Nat)(a4:Option Addr)(L4 c4:Nat)(rest:List UInt8)(a5:Option Addr)(L5 c5:Nat)(rem:List UInt8)(kv:Value)(ks:List Itm)(u:World):Prop where
 hR:Rd w v0 b0 g u a4 L4 c4 rest
 hI:Blk 160 u gi [.slice a5 L5 c5]
 hs:SubB v0 b0 (.slice a5 L5 c5) rem
 hl:rem.length=L5
 hm:Blk 77 u g6 [.bool true,.slice none 0 0,kv]
 hz:Blk 77 u w.heap.size [.bool false,.slice none 0 0,.slice none 0 0]
 hO:Q08 Q0j 3 77 u (g6+1) kv ks
 hF:∀ k∈ks,Fp (fun x=>g6+1<=x/\kv.ownBlock≠some x) u k/\Q40 k
 h1:w.heap.size<gi
 h2:gi<g6
 hg:g<w.heap.size
section
variable {w:World} {v0:Value} {b0:List UInt8} {g gi g6:Nat} {a4:Option Addr} {L4 c4:Nat} {rest:List UInt8} {a5:Option Addr} {L5 c5:Nat} {rem:List UInt8} {kv:Value} {ks:List Itm} {u:World}
theorem LsW.kept {u':World}(h:LsW w v0 b0 g gi g6 a4 L4 c4 rest a5 L5 c5 rem kv ks u)(y:Below u.heap.size u u'):LsW w v0 b0 g gi g6 a4 L4 c4 rest a5 L5 c5 rem kv ks u' :=
 ⟨h.hR.kept y,h.hI.kept y,h.hs,h.hl,h.hm.kept y,h.hz.kept y,h.hO.kept y,fun k z=>⟨(h.hF k z).1.to y.size (fun x E D=>⟨y.block x D,E⟩),(h.hF k z).2⟩,h.h1,h.h2,h.hg⟩
theorem LsW.read {u':World}{E:Option Addr}{z G:Nat}{I:List UInt8}(h:LsW w v0 b0 g gi g6 a4 L4 c4 rest a5 L5 c5 rem kv ks u)(y:u.grownBy u' (some gi))(J:Blk 160 u' gi [.slice E z G])(M:SubB (.slice a5 L5 c5) rem (.slice E z G) I)(K:I.length=z) :
  LsW w v0 b0 g gi g6 a4 L4 c4 rest E z G I kv ks u':=by
 have N:=h.h1;have O:=h.h2;have S:=h.hg;refine ⟨h.hR.fresh y (fun x H=>by cases H;omega) h.hg,J,h.hs.trans M,K,h.hm.grown y (by simp;omega),h.hz.grown y (by simp;omega),h.hO.grown y (fun k D e=>by cases D;have:=h.hO.lt _ e;omega),fun k D=>⟨(h.hF k D).1.to y.size (fun x H L=>⟨y.block x L (by simp;omega),H⟩),(h.hF k D).2⟩,h.h1,h.h2,h.hg⟩
theorem Qto {α:Type}{f:α->List Value}{size:Nat}{e:TypeId}{w:World}{B:Nat}{v:Value}{l:List α}(h:Q08 f size e w B v l){k:Nat}(hk:v.ownBlock=some k):k<w.heap.size:=(World.ownsRow.lt h k hk).2
theorem LsW.grew {u':World}{z:Value}{G:Itm}(h:LsW w v0 b0 g gi g6 a4 L4 c4 rest a5 L5 c5 rem kv ks u)(S:Fp (fun x=>g6+1<=x/\kv.ownBlock≠some x) u G)(O:Q40 G)(D:u.grownBy u' kv.ownBlock)(J:Q08 Q0j 3 77 u' (g6+1) z (ks++[G]))
  (hp:∀ k,z.ownBlock=some k->kv.ownBlock=some k∨u.heap.size<=k):LsW w v0 b0 g gi g6 a4 L4 c4 rest a5 L5 c5 rem z (ks++[G]) (u'.setCell ⟨g6,2,none⟩ z):=by
 have U:=h.h1;have V:=h.h2;have W:=h.hg;have H:∀ b,b<=g6->kv.ownBlock≠some b:=fun b T e=>by have:=h.hO.lt b e;omega
 have hst:u'.grownBy (u'.setCell ⟨g6,2,none⟩ z) (some g6):=Q0s 2 z;have M:=h.hR.fresh D (fun x E=>by have:=h.hO.lt x E;omega) h.hg;have N:=M.fresh hst (fun x E=>by cases E;omega) h.hg;have K:∀ k,Fp (fun x=>g6+1<=x/\kv.ownBlock≠some x) u k->Fp (fun x=>g6+1<=x/\z.ownBlock≠some x) (u'.setCell ⟨g6,2,none⟩ z) k:=by
  intro k y;refine y.to (le_trans D.size hst.size) (fun x E L=>⟨?_,E.1,fun e=>?_⟩)
  ·rw [hst.block x (lt_of_lt_of_le L D.size) (by simp;omega),D.block x L (fun e=>E.2 e.symm)]
  rcases hp x e with I|I
  ·exact E.2 I
  omega
 refine ⟨N,(h.hI.grown D (H _ (by omega))).other _ (by simp;omega) _,h.hs,h.hl,(h.hm.grown D (H _ (le_refl _))).set 2 z,(h.hz.grown D (H _ (by omega))).other _ (by simp;omega) _,J.grown hst (fun k y e=>by cases y;have:=J.lt _ e;omega),fun k y=>?_,h.h1,h.h2,h.hg⟩;rcases List.mem_append.1 y with y|y
 ·exact ⟨K k (h.hF k y).1,(h.hF k y).2⟩
 rw [List.mem_singleton] at y;subst y;exact ⟨K k S,O⟩
theorem LsW.apart {u':World}{y:Itm}(h:LsW w v0 b0 g gi g6 a4 L4 c4 rest a5 L5 c5 rem kv ks u)(z:Fp (fun x=>u.heap.size<=x) u' y):Fp (fun x=>g6+1<=x/\kv.ownBlock≠some x) u' y:=by
 have D:=h.hm.lt;exact z.to (le_refl _) (fun x E _=>⟨rfl,by omega,fun e=>by have:=Qto h.hO e;omega⟩)
end
mutual
def encP:Pit->List UInt8
 | .txt t=>Q1q t
 | .lst ks=>Q1f 192 (Q35 ks).length++Q35 ks
def Q35:List Pit->List UInt8
 | []=>[]
 | k::ks=>encP k++Q35 ks
end
theorem Qow (t:List UInt8):Q1q t≠[]:=by
 unfold Q1q;split
 ·rename_i h;intro e;rw [e] at h;simp at h
 unfold Q1f;split<;>simp
theorem Qq6 (h n:Nat):Q1f h n≠[]:=by unfold Q1f;split <;> simp
theorem Qg8 (p:Pit):encP p≠[]:=by
 cases p with
 | txt t=>rw [encP];exact Qow t
 | lst ks=>rw [encP];simp [Qq6]
theorem Qmk (l:List UInt8)(D:l.length<=8)(y:l.head?≠some 0):numB (numL l)=l:=by
 have h:=Qc6 l;rw [Q46 l (by omega)] at h;have z:Q3y l=true:=by unfold Q3y;simp [y];omega
 rw [z] at h;simpa using h
theorem Qi9 {c:UInt8}{y:Nat}{r D:List UInt8}{k:Nat}(J:y<=192)(I:y<=c.toNat)(h:hdr c.toNat y r=some (k,D)):c::r=Q1f y k++D:=by
 unfold hdr at h;split at h
 ·simp only [Option.some.injEq,Prod.mk.injEq] at h;obtain ⟨rfl,rfl⟩:=h;unfold Q1f;rw [if_pos (by omega),show y+(c.toNat - y)=c.toNat from by omega];simp
 rename_i L;split at h
 ·simp at h
 rename_i K;split at h
 ·simp at h
 rename_i H;split at h
 ·simp at h
 rename_i E;simp only [Option.some.injEq,Prod.mk.injEq] at h;obtain ⟨rfl,rfl⟩:=h;have z:(r.take (c.toNat - y - 48+1)).length=c.toNat - y - 48+1:=by rw [length_take];omega
 have G:=Qmk (r.take (c.toNat - y - 48+1)) (by rw [z];omega) (fun e=>H (.inl e));unfold Q1f;rw [if_neg E,G,z,show y+48+(c.toNat - y - 48+1 - 1)=c.toNat from by omega,cons_append,List.take_append_drop];simp
theorem Qe7 {f:List UInt8->Option (Pit × List UInt8)}(y:∀ b p r,f b=some (p,r)->b=encP p++r):∀ (m:Nat) (b:List UInt8) (ps:List Pit),parL f m b=some ps->b=Q35 ps
 | m,[],ps,h=>by rw [Q6l] at h;simp at h;subst h;simp [Q35]
 | 0,_::_,ps,h=>by simp [parL] at h
 | m+1,x::b,ps,h=>by
  simp only [parL] at h;cases hx:f (x::b) with
  | none=>rw [hx] at h;simp at h
  | some pr =>
   obtain ⟨p,r⟩:=pr;rw [hx] at h;dsimp only at h;cases hr:parL f m r with
   | none=>rw [hr] at h;simp at h
   | some qs =>
    rw [hr] at h;simp only [Option.some.injEq] at h;subst h;rw [y _ _ _ hx,Qe7 y m r qs hr,Q35]
theorem Qho:∀ (n:Nat)(b:List UInt8)(p:Pit)(r:List UInt8),par n b=some (p,r)->b=encP p++r
 | 0,[],p,r,h=>by simp [par] at h
 | n+1,[],p,r,h=>by simp [par] at h
 | 0,_::_,p,r,h=>by simp [par] at h
 | n+1,c::b,p,r,h=>by
  unfold par at h;split at h
  ·rename_i M;simp only [Option.some.injEq,Prod.mk.injEq] at h;obtain ⟨rfl,rfl⟩:=h;rw [encP,Q1q,if_pos (by simp;omega)];rfl
  rename_i L;split at h
  ·split at h
   ·simp at h
   rename_i k z D;split at h
   ·simp at h
   rename_i E;simp only [Option.some.injEq,Prod.mk.injEq] at h;obtain ⟨rfl,rfl⟩:=h;have J:k<=z.length:=by have:¬ z.length<k:=fun h=>E (.inl h);omega
   have G:(z.take k).length=k:=by rw [length_take];omega
   rw [Qi9 (by omega) (by omega) D,encP,Q1q,G,if_neg,append_assoc,List.take_append_drop];rintro ⟨H,I⟩;apply E;right
   subst H;cases z with
   | nil=>simp at J
   | cons y t=>unfold own1;simp at I |-;omega
  split at h
  ·simp at h
  rename_i k z D;split at h
  ·simp at h
  rename_i E;split at h
  ·simp at h
  rename_i ks K;simp only [Option.some.injEq,Prod.mk.injEq] at h;obtain ⟨rfl,rfl⟩:=h;have G:(z.take k).length=k:=by rw [length_take];omega
  have e:=Qe7 (Qho n) k _ ks K;rw [Qi9 (by omega) (by omega) D,encP,<-e,G,append_assoc,List.take_append_drop]
theorem Qej (y k:Nat)(J:y=128∨y=192)(D:k<18446744073709551616):∃ (c:UInt8) (rest:List UInt8),Q1f y k=c::rest/\y<=c.toNat/\c.toNat<y+64/\∀ x,hdr c.toNat y (rest++x)=some (k,x):=by
 by_cases h48:k<48
 ·refine ⟨UInt8.ofNat (y+k),[],by unfold Q1f;rw [if_pos h48],?_⟩;have e:(UInt8.ofNat (y+k)).toNat=y+k:=by rw [UInt8.toNat_ofNat',Nat.mod_eq_of_lt (by omega)]
  rw [e];refine ⟨by omega,by omega,fun x=>?_⟩;unfold hdr;rw [if_pos (by omega),show y+k - y=k from by omega];rfl
 have I:=Qhy k D;have H:=Qc7 k (by omega) (by unfold W256;omega);have E:=Qc8 k (by unfold W256;omega);have G:(numB k).head?≠some 0:=Q6y (wb k);refine ⟨UInt8.ofNat (y+48+((numB k).length - 1)),numB k,by unfold Q1f;rw [if_neg h48],?_⟩;have e:(UInt8.ofNat (y+48+((numB k).length - 1))).toNat=y+48+((numB k).length - 1):=by rw [UInt8.toNat_ofNat',Nat.mod_eq_of_lt (by omega)]
 rw [e];refine ⟨by omega,by omega,fun x=>?_⟩;have z:y+48+((numB k).length - 1) - y - 48+1=(numB k).length:=by omega
 unfold hdr;rw [if_neg (by omega),z,if_neg (by simp),take_left' rfl,drop_left' rfl,if_neg (by rintro (h|h);exact G h;omega),E,if_neg h48]
theorem Qe4 {f:List UInt8->Option (Pit × List UInt8)}:∀ (ks:List Pit) (m:Nat),(Q35 ks).length<=m->(∀ k∈ks,∀ r,f (encP k++r)=some (k,r))->parL f m (Q35 ks)=some ks
 | [],m,_,_=>by rw [Q35,Q6l]
 | k::ks,m,hm,hf=>by
  have z:=Qg8 k;have E:0<(encP k).length:=by
   rcases Nat.eq_zero_or_pos (encP k).length with h|h
   ·exact absurd (List.eq_nil_of_length_eq_zero h) z
   exact h
  rw [Q35] at hm |-;rw [length_append] at hm;obtain ⟨y,rfl⟩:∃ y,m=y+1:=⟨m - 1,by omega⟩;rw [Q94 (by simp [z]) (hf k List.mem_cons_self (Q35 ks)),Qe4 ks y (by omega) (fun j D=>hf j (List.mem_cons_of_mem _ D))];rfl
theorem Q48 {k:Pit}:∀ {ks:List Pit},k∈ks->(encP k).length<=(Q35 ks).length
 | x::ks,h=>by
  rw [Q35,length_append];rcases List.mem_cons.1 h with rfl|h
  ·omega
  have:=Q48 h;omega
theorem Qbz:∀ (n:Nat)(p:Pit)(r:List UInt8),(encP p).length<=n->(encP p).length<18446744073709551616->par n (encP p++r)=some (p,r)
 | 0,p,r,h,_=>absurd (List.eq_nil_of_length_eq_zero (by omega)) (Qg8 p)
 | n+1,.txt t,r,h,h64=>by
  rw [encP] at h h64 |-;unfold Q1q at h h64 |-;by_cases h1:t.length=1/\(t[0]?.getD 0).toNat<128
  ·rw [if_pos h1];obtain ⟨x,rfl⟩:∃ x,t=[x]:=List.length_eq_one_iff.1 h1.1;have G:x.toNat<128:=by simpa using h1.2
   simp [par,G]
  rw [if_neg h1] at h h64 |-;rw [length_append] at h h64;obtain ⟨c,I,e,c1,E,z⟩:=Qej 128 t.length (.inl rfl) (by omega);rw [e,append_assoc,cons_append,par,if_neg (by omega),if_pos (by omega),z (t++r)];dsimp only;rw [if_neg,take_left' rfl,drop_left' rfl];rintro (y|y)
  ·rw [length_append] at y;omega
  unfold own1 at y;simp only [Bool.and_eq_true,decide_eq_true_eq] at y;apply h1;refine ⟨y.1,?_⟩;obtain ⟨x,rfl⟩:∃ x,t=[x]:=List.length_eq_one_iff.1 y.1;simpa using y.2
 | n+1,.lst ks,r,h,h64=>by
  rw [encP] at h h64 |-;rw [length_append] at h h64;obtain ⟨c,I,e,c1,E,z⟩:=Qej 192 (Q35 ks).length (.inr rfl) (by omega);have J:1<=(Q1f 192 (Q35 ks).length).length:=by rw [e];simp
  rw [e,append_assoc,cons_append,par,if_neg (by omega),if_neg (by omega),z (Q35 ks++r)];dsimp only;rw [if_neg (by simp),take_left' rfl,drop_left' rfl,Qe4 ks _ (le_refl _) (fun k D H=>Qbz n k H (by have:=Q48 D;omega) (by have:=Q48 D;omega))]
theorem Qqe {p q:Pit}(z:(encP p).length<18446744073709551616)(h:encP p=encP q):p=q:=by
 have y:=Qbz (encP p).length p [] (le_refl _) z;have D:=Qbz (encP q).length q [] (le_refl _) (by rw [<-h];exact z);rw [h,D] at y;simpa using y.symm
section
variable {w:World} {zs:List (TypeId × Nat × List Value)} {g9:Nat} {kv:Value} {ks:List Itm} {u:World}
theorem Qc1 {α:Type}{f:α->List Value}{size:Nat}{e:TypeId}{w:World}{B:Nat}{v:Value}{l:List α}(h:Q08 f size e w B v l){k:Nat}(hk:v.ownBlock=some k):k<w.heap.size:=(World.ownsRow.lt h k hk).2
end
theorem Qog (p:Addr)(k:Nat):(p.add k).block=p.block:=by unfold Addr.add;split <;> rfl
theorem Qnn {a:Option Addr}{n c:Nat}{l:List UInt8}{w:World}(h:Q02 w (.slice a n c) l)(y:Nat)(I:y<=n)(x:Int)(N:x=y) :
  ∃ D E,(∀ k w',(Instr.slice 25 (.slice a n c) (some (.int k x)) none none).run Tryz.prog w'=.ok (.slice D (n - y) E) w')/\Q02 w (.slice D (n - y) E) (l.drop y)/\∀ k,(Value.slice D (n - y) E).ownBlock=some k->(Value.slice a n c).ownBlock=some k:=by
 subst N;obtain ⟨L,S,O⟩:=h.fits;obtain ⟨D,E,G,J⟩:=h.part elU8.hf elU8.hsz y n I (le_refl _);obtain ⟨i,K,_,M,_⟩:=elU8.info;have H:Tryz.prog.elem 25=5:=by unfold Program.elem;rw [elU8.ht]
 refine ⟨D,E,fun k w'=>?_,by subst L;simpa using J,fun k z=>?_⟩
 ·rw [run_slice_l (P:=Tryz.prog) w' (t:=25) (a:=a) (len:=n) (cap:=c) (by rw [H];exact elU8.ht) k (y:Int) (by omega) (by omega)];rw [H];simp [sizeOf,typeInfo,K,M,<-G]
 unfold sliced at G;simp only [Value.slice.injEq] at G;rw [<-G.1] at z;cases a with
 | none=>simp [Value.ownBlock] at z
 | some p =>
  by_cases hc:c=y
  ·rw [if_pos hc] at z;exact z
  rw [if_neg hc] at z;simp only [Option.map_some,Value.ownBlock,Qog] at z;exact z
end Go.Proofs.YtbdmkfjgnjfjbaaGreat
