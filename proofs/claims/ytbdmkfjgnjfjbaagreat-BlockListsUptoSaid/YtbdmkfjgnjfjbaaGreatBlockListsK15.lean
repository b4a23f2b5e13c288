/- What nib.Tag and Untag come to. No program in sight. | nib.Tag and the reference's NTag. | The reference's NTag; nib.Untag. | The reference's NUntag. -/
import Derived.Test.YtbdmkfjgnjfjbaaGreatBlockListsK10
set_option linter.unusedSimpArgs false
set_option linter.unusedVariables false
set_option maxHeartbeats 4000000
set_option maxRecDepth 100000
open List (reverse_nil take_nil take_succ_cons take_zero)
open Nat (le_refl)
namespace Go.Proofs.YtbdmkfjgnjfjbaaGreat
open Go.RowKit
def tagN (n:Nat)(leaf:Bool):Nat:=n % 2+2*leaf.toNat
def tagF (n:Nat)(leaf:Bool):UInt8:=UInt8.ofNat (tagN n leaf)
theorem Qkx (n:Nat)(leaf:Bool):tagN n leaf<=3:=by unfold tagN;cases leaf <;> simp <;> omega
theorem Q6e (n:Nat)(leaf:Bool):(tagF n leaf).toNat=tagN n leaf:=by
 have:=Qkx n leaf;unfold tagF;rw [UInt8.toNat_ofNat'];omega
def tagH (n:Nat)(leaf:Bool):List UInt8:=if n % 2=1 then [tagF n leaf] else [tagF n leaf,0]
def tagL (p:List UInt8)(leaf:Bool):List UInt8:=tagH p.length leaf++p
theorem Qh3 {n:Nat}{leaf:Bool}(h:n % 2=1):tagH n leaf=[tagF n leaf]:=by unfold tagH;rw [if_pos h]
theorem Qdm {n:Nat}{leaf:Bool}(h:¬ n % 2=1):tagH n leaf=[tagF n leaf,0]:=by unfold tagH;rw [if_neg h]
theorem Q8f (a b:List UInt8):Q0r (a++b)=(Q0r a || Q0r b):=by unfold Q0r;rw [List.any_append]
theorem Qiy (n:Nat)(leaf:Bool):Q0r (tagH n leaf)=false:=by
 have h:=Qkx n leaf;have y:=Q6e n leaf;unfold tagH Q0r;split<;>simp<;>omega
theorem Q8n (p:List UInt8)(leaf:Bool):Q1e (tagL p leaf)=!Q0r p:=by
 unfold Q1e tagL;rw [Q8f,Qiy,Bool.false_or];have:(tagH p.length leaf++p).length % 2=0:=by
  unfold tagH;split<;>simp<;>omega
 rw [this];rfl
theorem Qoz (p:List UInt8)(leaf:Bool):(tagL p leaf).length<=p.length+2:=by
 unfold tagL tagH;split<;>simp<;>omega
theorem Q67 (b:List UInt8):Q1l (Q0c b)=b:=by
 induction b with
 | nil=>rfl
 | cons x b ih =>
  have e:Q0c (x::b)=x / 16::x % 16::Q0c b:=by simp [Q0c,Qab]
  rw [e,Q1l,ih];congr 1;apply UInt8.toNat_inj.1;have:=x.toNat_lt;rw [UInt8.toNat_add,UInt8.toNat_mul,UInt8.toNat_div,UInt8.toNat_mod,show (16:UInt8).toNat=16 from rfl];omega
def hits (b:List UInt8)(k:Nat)(leaf:Bool):Bool:=Q2d (tagL ((Q0c b).drop k) leaf) == b
theorem Qiu (l:List UInt8)(k:Nat)(h:Q0r l=false):Q0r (l.drop k)=false:=by
 unfold Q0r at *;rw [List.any_eq_false] at *;exact fun x y=>h x (List.mem_of_mem_drop y)
theorem Q8l (b:List UInt8)(k:Nat)(leaf:Bool):Q1e (tagL ((Q0c b).drop k) leaf)=true:=by
 rw [Q8n,Qiu _ _ (Q7n b)];rfl
theorem Qcr (b:List UInt8)(k:Nat)(leaf:Bool):hits b k leaf=true↔tagL ((Q0c b).drop k) leaf=Q0c b:=by
 have y:=Q8l b k leaf;unfold hits;rw [(Q5g y).2,beq_iff_eq];constructor
 ·intro h;rw [<-Q9j _ y,h]
 intro h;rw [h,Q67]
theorem Q5h (b:List UInt8)(h:b≠[]):∃ x y r,Q0c b=x::y::r/\r.length % 2=0/\x.toNat<=15/\y.toNat<=15:=by
 match b,h with
 | z::b,_=>exact ⟨z / 16,z % 16,Q0c b,by simp [Q0c,Qab],by rw [Q10];omega,(Qg3 z).1,(Qg3 z).2⟩
theorem Qcq (b:List UInt8)(leaf:Bool)(x y:UInt8)(r:List UInt8)(h:Q0c b=x::y::r)(E:r.length % 2=0):hits b 1 leaf=decide (x.toNat=1+2*leaf.toNat):=by
 rw [Bool.eq_iff_iff,Qcr,h,decide_eq_true_eq];unfold tagL;have D:((x::y::r).drop 1).length % 2=1:=by simp;omega
 rw [Qh3 D];have z:=Q6e ((x::y::r).drop 1).length leaf;unfold tagN at z;rw [D] at z;constructor
 ·intro e;simp only [List.cons_append,List.nil_append,List.drop_succ_cons,List.drop_zero,List.cons.injEq,and_true] at e;rw [<-e];simpa using z
 intro e;have:tagF ((x::y::r).drop 1).length leaf=x:=UInt8.toNat_inj.1 (by rw [z,e]);rw [this];rfl
theorem Qcp (b:List UInt8)(leaf:Bool)(x y:UInt8)(r:List UInt8)(h:Q0c b=x::y::r)(J:r.length % 2=0):hits b 2 leaf=decide (x.toNat=2*leaf.toNat/\y.toNat=0):=by
 rw [Bool.eq_iff_iff,Qcr,h,decide_eq_true_eq];unfold tagL;have I:¬ ((x::y::r).drop 2).length % 2=1:=by simp;omega
 rw [Qdm I];have z:=Q6e ((x::y::r).drop 2).length leaf;unfold tagN at z;rw [show ((x::y::r).drop 2).length % 2=0 from by omega] at z;constructor
 ·intro e;simp only [List.cons_append,List.nil_append,List.drop_succ_cons,List.drop_zero,List.cons.injEq,and_true] at e;obtain ⟨D,E⟩:=e;refine ⟨by rw [<-D];simpa using z,by rw [<-E];rfl⟩
 rintro ⟨D,E⟩;have G:tagF ((x::y::r).drop 2).length leaf=x:=UInt8.toNat_inj.1 (by rw [z,D];omega);have H:(0:UInt8)=y:=UInt8.toNat_inj.1 (by rw [E];rfl);rw [G,H];rfl
def unAt (b:List UInt8):Nat:=match Q0c b with
 | x::y::_=>if 3<x.toNat then 0 else if x.toNat % 2=1 then 1 else if y.toNat=0 then 2 else 0
 | _=>0
def Q19 (b:List UInt8):Bool:=match Q0c b with
 | x::_=>unAt b != 0&&decide (2<=x.toNat)
 | _=>false
def unP (b:List UInt8):List UInt8:=if unAt b=0 then [] else (Q0c b).drop (unAt b)
def unE (b:List UInt8):Int:=if unAt b=0 then 1 else 0
theorem Qgz (b:List UInt8)(k:Nat)(leaf:Bool)(H:k=1∨k=2)(G:b≠[])(h:hits b k leaf=true):unAt b=k/\Q19 b=leaf/\unP b=(Q0c b).drop k/\unE b=0:=by
 obtain ⟨x,y,r,e,D,I,J⟩:=Q5h b G;have z:unAt b=k/\Q19 b=leaf:=by
  unfold Q19 unAt;rw [e];rcases H with rfl|rfl
  ·rw [Qcq b leaf x y r e D,decide_eq_true_eq] at h;cases leaf<;>simp at h<;>simp [h]
  rw [Qcp b leaf x y r e D,decide_eq_true_eq] at h;obtain ⟨h,E⟩:=h;cases leaf<;>simp at h<;>simp [h,E]
 refine ⟨z.1,z.2,?_,?_⟩
 ·unfold unP;rw [z.1,if_neg (by omega)]
 unfold unE;rw [z.1,if_neg (by omega)]
theorem Qf5 (b:List UInt8)(h:b=[]∨(∀ k leaf,(k=1∨k=2)->hits b k leaf=false)):unAt b=0/\Q19 b=false/\unP b=[]/\unE b=1:=by
 have z:unAt b=0:=by
  rcases h with rfl|h
  ·rfl
  by_cases hb:b=[]
  ·subst hb;rfl
  obtain ⟨x,y,r,e,I,J,K⟩:=Q5h b hb;have D:=h 1 false (.inl rfl);have E:=h 1 true (.inl rfl);have G:=h 2 false (.inr rfl);have H:=h 2 true (.inr rfl);rw [Qcq b _ x y r e I,decide_eq_false_iff_not] at D E;rw [Qcp b _ x y r e I,decide_eq_false_iff_not] at G H;simp at D E G H;unfold unAt;rw [e];simp only;split
  ·rfl
  split
  ·omega
  split
  ·omega
  rfl
 refine ⟨z,?_,?_,?_⟩
 ·unfold Q19;rw [z];split<;>rfl
 ·unfold unP;rw [if_pos z]
 unfold unE;rw [if_pos z]
theorem Qtb {p:List UInt8}{leaf:Bool}(h:Q0r p=true):Q3z (tagL p leaf)=1/\Q2d (tagL p leaf)=[]:=Q7c (by rw [Q8n,h];rfl)
theorem Qh2 {p:List UInt8}{leaf:Bool}(h:p.length % 2=1):tagL p leaf=[if leaf then 3 else 1]++p:=by
 unfold tagL;rw [Qh3 h];congr 2;apply UInt8.toNat_inj.1;rw [Q6e];unfold tagN;rw [h];cases leaf<;>rfl
theorem Qdl {p:List UInt8}{leaf:Bool}(h:p.length % 2=0):tagL p leaf=[if leaf then 2 else 0,0]++p:=by
 unfold tagL;rw [Qdm (by omega)];congr 2;apply UInt8.toNat_inj.1;rw [Q6e];unfold tagN;rw [h];cases leaf<;>rfl
theorem Qr2 (a:Option Addr)(n c:Nat)(l:List UInt8)(z:l.length=n)(w:World)(h:Q02 w (.slice a n c) l)(y:n<=140737488355328) :
  Calls Tryz.prog 166 #[.slice a n c] w fun e w'=>∃ v,e=.returned (.tuple #[v,.int .i64 (Q3z l)])/\Q02 w' v (Q2d l)/\Below w.heap.size w w':=by
 subst z;exact (Qq0 a c l w h y).mono fun e w' ⟨v,h1,h2,h3⟩=>⟨v,h1,h2.row,h3⟩
theorem Qml (a:Option Addr)(n c:Nat)(l:List UInt8)(z:l.length=n)(w:World)(h:Q02 w (.slice a n c) l)(y:n<=140737488355328) :
  Calls Tryz.prog 182 #[.slice a n c] w fun e w'=>∃ v,e=.returned (.tuple #[v,.int .i64 (Q3z l)])/\Q02 w' v (Q2d l)/\Below w.heap.size w w':=by
 subst z;exact (Qmm a c l w h y).mono fun e w' ⟨v,h1,h2,h3⟩=>⟨v,h1,h2.row,h3⟩
theorem Qf3 (a:Option Addr)(n c:Nat)(l:List UInt8)(b:Bool)(z:l.length=n)(y:Q0r l=b)(w:World)(h:Q02 w (.slice a n c) l) :
  Calls Tryz.prog 165 #[.slice a n c] w fun e w'=>e=.returned (.bool b)/\w=w':=by
 subst z;subst y;exact Qde a c l w h
theorem Q8m (a:Option Addr)(n c:Nat)(p:List UInt8)(leaf:Bool)(I:p.length=n)(w:World)(h:Q02 w (.slice a n c) p)(hl:n+2<=140737488355328) :
  Calls Tryz.prog 150 #[.slice a n c,.bool leaf] w fun e w'=>∃ v,e=.returned (.tuple #[v,.int .i64 (Q3z (tagL p leaf))])/\Q02 w' v (Q2d (tagL p leaf))/\Below w.heap.size w w':=by
 cases hw:Q0r p with
 | true =>
  obtain ⟨e1,e2⟩:=Qtb (leaf:=leaf) hw;rw [e1,e2];have K:=Qhd hw;have z:=Qhd I;clear hw I e1 e2;go_enter Tryz.func150,Tryz.ntmps150
  go_wp2_with (go_at_call 165;(with_reducible refine (Qf3 a n c p true z.out K.out _ h).mono ?_);rintro e w1 ⟨rfl,rfl⟩)
  go_ret2;exact ⟨_,rfl,Q05.nil _ _ _,Below.refl _ _⟩
 | false =>
  have K:=Qhd hw;have z:=Qhd I;rcases Nat.mod_two_eq_zero_or_one n with hm|hm
  ·have ht:(n:Int) % 2=0:=by omega
   have D:=Qdl (leaf:=leaf) (show p.length % 2=0 by omega);obtain ⟨T,H⟩:=Qe (tagL p leaf);rw [<-H] at D |-;have G:=Qhd D;clear hw I D H;have a9:bits .or .u8 0 2=2:=by decide
   have E:=fun (x:UInt8) (y:Int) (hy:(x.toNat:Int)=y)=>(Q08.made b8 1 5 w w.heap.size [x] #[.int .u8 y] 1 (by rw [<-hy];rfl) rfl rfl (le_refl _) (by decide)).alloc (.cells #[.int .u8 0] 5);have Z:=E 0 0 rfl;have o2:=E 2 2 rfl;have r0:=fun y:Int=>(show Q05 b8 1 ((w.alloc (.cells #[.int .u8 y] 5)).alloc (.cells #[.int .u8 0] 5)) (.slice (some ⟨w.heap.size+1,0,none⟩) 1 1) [(0:UInt8)] from by
    have:=Q05.one b8 1 (w.alloc (.cells #[.int .u8 y] 5)) (0:UInt8) #[.int .u8 0] 5 rfl rfl;simpa using this)
   have L:=fun y:Int=>((Below.refl w.heap.size w).alloc (le_refl _) (.cells #[.int .u8 y] 5)).alloc (by simp) (.cells #[.int .u8 0] 5);clear E;cases leaf
   all_goals
    go_enter Tryz.func150,Tryz.ntmps150
    go_wp2_with (first
     |(go_at_call 165;(with_reducible refine (Qf3 a n c p false z.out K.out _ h).mono ?_);rintro e w1 ⟨rfl,rfl⟩)
     |(at_builtin;refine Q1v (by rfl) (.tmp 23) (.tmp 24) 25 (by rfl) elU8 (by rfl) (by first|exact Z|exact o2) (by rfl) (r0 _) (L _) (by simp;omega) (by simp) (by simp [maxLen]) ?_;intro v2 w2 a6 a5 _ a8;obtain ⟨a2,c2,rfl,_⟩:=a6.form' 2 rfl)
     |(at_builtin;refine Q1v (by rfl) (.tmp 26) (.tmp 27) 25 (by rfl) elU8 (by rfl) a6 (by rfl) (h.below a5) a5 a8 (by have:=z.out;simp;omega) (by have:=z.out;simp [maxLen];omega) ?_;intro v3 w3 J W _ U;obtain ⟨M,O,rfl,_⟩:=J.form' (2+n) (by have:=z.out;simp;omega))
     |(go_at_call 166;(with_reducible refine (Qr2 M (2+n) O _ (by have:=z.out;simp;omega) _ J.row (by omega)).mono ?_);rintro e w4 ⟨v4,rfl,S,N⟩;have V:=W.trans (N.mono U)))
    go_ret2;exact ⟨_,by rw [G.out];rfl,by rw [G.out];exact S,V⟩
  have ht:(n:Int) % 2=1:=by omega
  have D:=Qh2 (leaf:=leaf) (show p.length % 2=1 by omega);obtain ⟨T,H⟩:=Qe (tagL p leaf);rw [<-H] at D |-;have G:=Qhd D;clear hw I D H;have a9:bits .or .u8 1 2=3:=by decide
  have E:=fun (x:UInt8) (y:Int) (hy:(x.toNat:Int)=y)=>(Q08.made b8 1 5 w w.heap.size [x] #[.int .u8 y] 1 (by rw [<-hy];rfl) rfl rfl (le_refl _) (by decide));have Z:=E 1 1 rfl;have o2:=E 3 3 rfl;have L:=fun y:Int=>(Below.refl w.heap.size w).alloc (le_refl _) (.cells #[.int .u8 y] 5);clear E;cases leaf
  all_goals
   go_enter Tryz.func150,Tryz.ntmps150
   go_wp2_with (first
    |(go_at_call 165;(with_reducible refine (Qf3 a n c p false z.out K.out _ h).mono ?_);rintro e w1 ⟨rfl,rfl⟩)
    |(at_builtin;refine Q1v (by rfl) (.tmp 26) (.tmp 27) 25 (by rfl) elU8 (by rfl) (by first|exact Z|exact o2) (by rfl) (h.below (L _)) (L _) (by simp) (by have:=z.out;simp;omega) (by have:=z.out;simp [maxLen];omega) ?_;intro v3 w3 J W _ U;obtain ⟨M,O,rfl,_⟩:=J.form' (1+n) (by have:=z.out;simp;omega))
    |(go_at_call 166;(with_reducible refine (Qr2 M (1+n) O _ (by have:=z.out;simp;omega) _ J.row (by omega)).mono ?_);rintro e w4 ⟨v4,rfl,S,N⟩;have V:=W.trans (N.mono U)))
   go_ret2;exact ⟨_,by rw [G.out];rfl,by rw [G.out];exact S,V⟩
theorem Qc9 (a:Option Addr)(n c:Nat)(p:List UInt8)(leaf:Bool)(V:p.length=n)(w:World)(h:Q02 w (.slice a n c) p)(hl:n+2<=140737488355328) :
  Calls Tryz.prog 167 #[.slice a n c,.bool leaf] w fun e w'=>∃ v,e=.returned (.tuple #[v,.int .i64 (Q3z (tagL p leaf))])/\Q02 w' v (Q2d (tagL p leaf))/\Below w.heap.size w w':=by
 have z:=Qhd V;rcases Nat.mod_two_eq_zero_or_one n with hm|hm
 ·have ht:(n:Int) % 2=0:=by omega
  have D:=Qdl (leaf:=leaf) (show p.length % 2=0 by omega);obtain ⟨T,I⟩:=Qe (tagL p leaf);rw [<-I] at D |-;have G:=Qhd D;clear V D I;have E:=fun (x:UInt8) (y:Int) (hy:(x.toNat:Int)=y)=>(Q08.made b8 1 5 w w.heap.size [x,0] #[.int .u8 y,.int .u8 0] 2 (by rw [<-hy];rfl) rfl rfl (le_refl _) (by decide));have W:=E 0 0 rfl;have Z:=E 2 2 rfl;have H:=fun y:Int=>((Below.refl w.heap.size w).alloc (le_refl _) (.cells #[.int .u8 y,.int .u8 0] 5));clear E;cases leaf
  all_goals
   go_enter Tryz.func167,Tryz.ntmps167
   go_wp2_with (first
    |(at_builtin;refine Q1v (by rfl) (.tmp 26) (.tmp 27) 25 (by rfl) elU8 (by rfl) (by first|exact W|exact Z) (by rfl) (h.below (H _)) (H _) (by simp) (by have:=z.out;simp;omega) (by have:=z.out;simp [maxLen];omega) ?_;intro v3 w3 J U _ O;obtain ⟨K,M,rfl,_⟩:=J.form' (2+n) (by have:=z.out;simp;omega))
    |(go_at_call 182;(with_reducible refine (Qml K (2+n) M _ (by have:=z.out;simp;omega) _ J.row (by omega)).mono ?_);rintro e w4 ⟨v4,rfl,N,L⟩;have S:=U.trans (L.mono O)))
   go_ret2;exact ⟨_,by rw [G.out];rfl,by rw [G.out];exact N,S⟩
 have ht:(n:Int) % 2=1:=by omega
 have D:=Qh2 (leaf:=leaf) (show p.length % 2=1 by omega);obtain ⟨T,I⟩:=Qe (tagL p leaf);rw [<-I] at D |-;have G:=Qhd D;clear V D I;have E:=fun (x:UInt8) (y:Int) (hy:(x.toNat:Int)=y)=>(Q08.made b8 1 5 w w.heap.size [x] #[.int .u8 y] 1 (by rw [<-hy];rfl) rfl rfl (le_refl _) (by decide));have W:=E 1 1 rfl;have Z:=E 3 3 rfl;have H:=fun y:Int=>(Below.refl w.heap.size w).alloc (le_refl _) (.cells #[.int .u8 y] 5);clear E;cases leaf
 all_goals
  go_enter Tryz.func167,Tryz.ntmps167
  go_wp2_with (first
   |(at_builtin;refine Q1v (by rfl) (.tmp 26) (.tmp 27) 25 (by rfl) elU8 (by rfl) (by first|exact W|exact Z) (by rfl) (h.below (H _)) (H _) (by simp) (by have:=z.out;simp;omega) (by have:=z.out;simp [maxLen];omega) ?_;intro v3 w3 J U _ O;obtain ⟨K,M,rfl,_⟩:=J.form' (1+n) (by have:=z.out;simp;omega))
   |(go_at_call 182;(with_reducible refine (Qml K (1+n) M _ (by have:=z.out;simp;omega) _ J.row (by omega)).mono ?_);rintro e w4 ⟨v4,rfl,N,L⟩;have S:=U.trans (L.mono O)))
  go_ret2;exact ⟨_,by rw [G.out];rfl,by rw [G.out];exact N,S⟩
theorem Q3t (a:Option Addr)(n c m:Nat)(l:List UInt8)(I:l.length=n)(H:m=2*n)(w:World)(h:Q02 w (.slice a n c) l)(G:2*n<=140737488355328) :
  Calls Tryz.prog 90 #[.slice a n c] w fun e w'=>∃ y z,e=.returned (.slice y m z)/\Q02 w' (.slice y m z) (Q0c l)/\Below w.heap.size w w':=by
 subst I;subst H;refine (Q5i a c l w h G).mono ?_;rintro e w' ⟨v,rfl,D,E⟩;obtain ⟨y,z,rfl,_⟩:=D.form' (2*l.length) (Q10 l);exact ⟨y,z,rfl,D.row,E⟩
theorem Q6o (a:Option Addr)(n c m:Nat)(l:List UInt8)(I:l.length=n)(H:m=2*n)(w:World)(h:Q02 w (.slice a n c) l)(G:2*n<=140737488355328) :
  Calls Tryz.prog 95 #[.slice a n c] w fun e w'=>∃ y z,e=.returned (.slice y m z)/\Q02 w' (.slice y m z) (Q0c l)/\Below w.heap.size w w':=by
 subst I;subst H;refine (Q3e a c l w h G).mono ?_;rintro e w' ⟨v,rfl,D,E⟩;obtain ⟨y,z,rfl,_⟩:=D.form' (2*l.length) (Q10 l);exact ⟨y,z,rfl,D.row,E⟩
theorem Qrl (x:UInt8)(h:¬ 3<x.toNat):x=0∨x=1∨x=2∨x=3:=by
 rcases (show x.toNat=0∨x.toNat=1∨x.toNat=2∨x.toNat=3 from by omega) with h|h|h|h
 ·exact .inl (UInt8.toNat_inj.1 h)
 ·exact .inr (.inl (UInt8.toNat_inj.1 h))
 ·exact .inr (.inr (.inl (UInt8.toNat_inj.1 h)))
 exact .inr (.inr (.inr (UInt8.toNat_inj.1 h)))
theorem Quj (b:List UInt8)(x y:UInt8)(r:List UInt8)(h:Q0c b=x::y::r)(k:Nat)(leaf:Bool)
  (hk:k=if 3<x.toNat then 0 else if x.toNat % 2=1 then 1 else if y.toNat=0 then 2 else 0) (hf:leaf=(k != 0&&decide (2<=x.toNat))) :
  Q19 b=leaf/\unP b=(if k=0 then [] else (Q0c b).drop k)/\unE b=(if k=0 then 1 else 0):=by
 have z:unAt b=k:=by rw [hk];unfold unAt;rw [h]
 refine ⟨?_,by unfold unP;rw [z],by unfold unE;rw [z]⟩;rw [hf];unfold Q19;rw [z,h]
theorem Q8i (a:Option Addr)(n c:Nat)(b:List UInt8)(hn:b.length=n)(w:World)(h:Q02 w (.slice a n c) b)(Z:2*n<=140737488355328) :
  Calls Tryz.prog 149 #[.slice a n c] w fun e w'=>∃ v,e=.returned (.tuple #[v,.bool (Q19 b),.int .i64 (unE b)])/\Q02 w' v (unP b)/\Below w.heap.size w w':=by
 obtain ⟨m,hm⟩:=Qe (2*n);have W:=Qhd hn;have V:=Qhd hm;by_cases hb:b=[]
 ·obtain ⟨_,E,G,H⟩:=Qf5 b (.inl hb);rw [E,G,H];have ao:m=0:=by rw [hm,<-hn,hb];rfl
  clear hn E G H hb hm;subst ao;go_enter Tryz.func149,Tryz.ntmps149
  go_wp2_with (go_at_call 90;(with_reducible refine (Q3t a n c 0 b W.out V.out _ h Z).mono ?_);rintro e z ⟨J,c1,rfl,D,L⟩)
  go_ret3
  exact ⟨_,rfl,Q05.nil _ _ _,L⟩
 obtain ⟨x,y,r,hx,hr,az,aA⟩:=Q5h b hb;have M:=Quj b x y r hx;have ab:(Q0c b).length=m:=by rw [Q10,hm,hn]
 have ap:2<=m:=by rw [<-ab,hx];simp
 have ai:∀ (z:World) J c1,Q02 z (.slice J m c1) (Q0c b)->∃ blk off,J=some ⟨blk,off,none⟩/\z.cell? ⟨blk,off,none⟩=some (.int .u8 (x.toNat:Int))/\z.cell? ⟨blk,off+1,none⟩=some (.int .u8 (y.toNat:Int)):=by
  intro z J c1 D;obtain ⟨blk,off,ha,hc⟩:=D.at 0 (by omega);obtain ⟨au,aC,aa,am⟩:=D.at 1 (by omega);rw [ha] at aa;simp only [Option.some.injEq,Addr.mk.injEq,and_true] at aa;obtain ⟨rfl,rfl⟩:=aa;refine ⟨blk,off,ha,?_,?_⟩
  ·rw [Nat.add_zero] at hc;rw [hc];simp [hx]
  rw [am];simp [hx]
 have a0:=Qhd ai;have ar:=Qhd ab;have aB:((m:Int)==0)=false:=by rw [beq_eq_false_iff_ne];omega
 have g0:0<m:=by omega
 have g1:1<m:=by omega
 have ay:(1:Int)<(m:Int):=by omega
 have aw:(0:Int)<(m:Int):=by omega
 clear hn hm hb ai ab hx hr;by_cases h3:3<x.toNat
 ·obtain ⟨E,G,H⟩:=M 0 false (by rw [if_pos h3]) rfl;rw [E,G,H];have hd:(3:Int)<(x.toNat:Int):=by omega
  clear M E G H;go_enter Tryz.func149,Tryz.ntmps149
  go_wp2_with (go_at_call 90;(with_reducible refine (Q3t a n c m b W.out V.out _ h Z).mono ?_);rintro e z ⟨J,c1,rfl,D,L⟩;obtain ⟨blk,off,rfl,I,T⟩:=a0.out _ _ _ D)
  go_ret3
  exact ⟨_,rfl,Q05.nil _ _ _,L⟩
 have aD:bits .and .u8 0 1=0:=by decide
 have aF:bits .and .u8 1 1=1:=by decide
 have aH:bits .and .u8 2 1=0:=by decide
 have aJ:bits .and .u8 3 1=1:=by decide
 have aE:bits .and .u8 0 2=0:=by decide
 have aG:bits .and .u8 1 2=0:=by decide
 have aI:bits .and .u8 2 2=2:=by decide
 have aK:bits .and .u8 3 2=2:=by decide
 have ak:=fun z J c1 (D:Q02 z (.slice J m c1) (Q0c b))=>Q05.from elU8 D 1 (by omega) 1 rfl;have al:=fun z J c1 (D:Q02 z (.slice J m c1) (Q0c b))=>Q05.from elU8 D 2 ap 2 rfl;have ae:=Qhd ak;have af:=Qhd al;clear ak al;rcases Qrl x h3 with rfl|rfl|rfl|rfl
 ·by_cases hy0:y.toNat=0
  ·obtain rfl:y=0:=UInt8.toNat_inj.1 hy0;clear hy0;obtain ⟨E,G,H⟩:=M 2 false (by simp) (by simp);rw [E,G,H];clear M E G H h3;go_enter Tryz.func149,Tryz.ntmps149
   go_wp2_with (go_at_call 90;(with_reducible refine (Q3t a n c m b W.out V.out _ h Z).mono ?_);rintro e z ⟨J,c1,rfl,D,L⟩;obtain ⟨blk,off,rfl,I,T⟩:=a0.out _ _ _ D;obtain ⟨a2,c2,ac,h2⟩:=af.out _ _ _ D;have U:z.cell? ⟨blk,off,none⟩=some (.int .u8 0):=I;clear I;have an:z.cell? ⟨blk,off+1,none⟩=some (.int .u8 0):=T;clear T)
   have k0:=fun u:Ext z=>u.cell U;refine Q03 z 10 (by kernel_rfl) (by kernel_rfl) (Below.refl _ _) ?_;simp only [take_succ_cons,take_zero,take_nil]
   iterate 10 (refine Q06 (by rfl) (fun K N=>?_);go_simp;refine N _ ?_;clear N K)
   refine Q75 rfl ?_;rintro w2 S;simp only [reverse_nil,Q00];have O:=Q05.kept h2 S;have a4:=D00 L S;clear k0
   go_wp2
   go_ret3
   exact ⟨_,rfl,by first|exact O|simpa using O,a4⟩
  obtain ⟨E,G,H⟩:=M 0 false (by simp [hy0]) rfl;rw [E,G,H];have hd:((y.toNat:Int) != 0)=true:=by rw [bne_iff_ne];omega
  clear M E G H h3 hy0;go_enter Tryz.func149,Tryz.ntmps149
  go_wp2_with (go_at_call 90;(with_reducible refine (Q3t a n c m b W.out V.out _ h Z).mono ?_);rintro e z ⟨J,c1,rfl,D,L⟩;obtain ⟨blk,off,rfl,I,T⟩:=a0.out _ _ _ D;have U:z.cell? ⟨blk,off,none⟩=some (.int .u8 0):=I;clear I)
  go_ret3
  exact ⟨_,rfl,Q05.nil _ _ _,L⟩
 ·obtain ⟨E,G,H⟩:=M 1 false (by simp) (by simp);rw [E,G,H];clear M E G H h3;go_enter Tryz.func149,Tryz.ntmps149
  go_wp2_with (go_at_call 90;(with_reducible refine (Q3t a n c m b W.out V.out _ h Z).mono ?_);rintro e z ⟨J,c1,rfl,D,L⟩;obtain ⟨blk,off,rfl,I,T⟩:=a0.out _ _ _ D;obtain ⟨a2,c2,ac,h2⟩:=ae.out _ _ _ D;have U:z.cell? ⟨blk,off,none⟩=some (.int .u8 1):=I;clear I)
  have k0:=fun u:Ext z=>u.cell U;refine Q03 z 10 (by kernel_rfl) (by kernel_rfl) (Below.refl _ _) ?_;simp only [take_succ_cons,take_zero,take_nil]
  iterate 10 (refine Q06 (by rfl) (fun K N=>?_);go_simp;refine N _ ?_;clear N K)
  refine Q75 rfl ?_;rintro w2 S;simp only [reverse_nil,Q00];have O:=Q05.kept h2 S;have a4:=D00 L S;clear k0
  go_wp2
  go_ret3
  exact ⟨_,rfl,by first|exact O|simpa using O,a4⟩
 ·by_cases hy0:y.toNat=0
  ·obtain rfl:y=0:=UInt8.toNat_inj.1 hy0;clear hy0;obtain ⟨E,G,H⟩:=M 2 true (by simp) (by simp);rw [E,G,H];clear M E G H h3;go_enter Tryz.func149,Tryz.ntmps149
   go_wp2_with (go_at_call 90;(with_reducible refine (Q3t a n c m b W.out V.out _ h Z).mono ?_);rintro e z ⟨J,c1,rfl,D,L⟩;obtain ⟨blk,off,rfl,I,T⟩:=a0.out _ _ _ D;obtain ⟨a2,c2,ac,h2⟩:=af.out _ _ _ D;have U:z.cell? ⟨blk,off,none⟩=some (.int .u8 2):=I;clear I;have an:z.cell? ⟨blk,off+1,none⟩=some (.int .u8 0):=T;clear T)
   have k0:=fun u:Ext z=>u.cell U;refine Q03 z 10 (by kernel_rfl) (by kernel_rfl) (Below.refl _ _) ?_;simp only [take_succ_cons,take_zero,take_nil]
   iterate 10 (refine Q06 (by rfl) (fun K N=>?_);go_simp;refine N _ ?_;clear N K)
   refine Q75 rfl ?_;rintro w2 S;simp only [reverse_nil,Q00];have O:=Q05.kept h2 S;have a4:=D00 L S;clear k0
   go_wp2
   go_ret3
   exact ⟨_,rfl,by first|exact O|simpa using O,a4⟩
  obtain ⟨E,G,H⟩:=M 0 false (by simp [hy0]) rfl;rw [E,G,H];have hd:((y.toNat:Int) != 0)=true:=by rw [bne_iff_ne];omega
  clear M E G H h3 hy0;go_enter Tryz.func149,Tryz.ntmps149
  go_wp2_with (go_at_call 90;(with_reducible refine (Q3t a n c m b W.out V.out _ h Z).mono ?_);rintro e z ⟨J,c1,rfl,D,L⟩;obtain ⟨blk,off,rfl,I,T⟩:=a0.out _ _ _ D;have U:z.cell? ⟨blk,off,none⟩=some (.int .u8 2):=I;clear I)
  go_ret3
  exact ⟨_,rfl,Q05.nil _ _ _,L⟩
 obtain ⟨E,G,H⟩:=M 1 true (by simp) (by simp);rw [E,G,H];clear M E G H h3;go_enter Tryz.func149,Tryz.ntmps149
 go_wp2_with (go_at_call 90;(with_reducible refine (Q3t a n c m b W.out V.out _ h Z).mono ?_);rintro e z ⟨J,c1,rfl,D,L⟩;obtain ⟨blk,off,rfl,I,T⟩:=a0.out _ _ _ D;obtain ⟨a2,c2,ac,h2⟩:=ae.out _ _ _ D;have U:z.cell? ⟨blk,off,none⟩=some (.int .u8 3):=I;clear I)
 have k0:=fun u:Ext z=>u.cell U;refine Q03 z 10 (by kernel_rfl) (by kernel_rfl) (Below.refl _ _) ?_;simp only [take_succ_cons,take_zero,take_nil]
 iterate 10 (refine Q06 (by rfl) (fun K N=>?_);go_simp;refine N _ ?_;clear N K)
 refine Q75 rfl ?_;rintro w2 S;simp only [reverse_nil,Q00];have O:=Q05.kept h2 S;have a4:=D00 L S;clear k0
 go_wp2
 go_ret3
 exact ⟨_,rfl,by first|exact O|simpa using O,a4⟩
theorem Q6n (a:Option Addr)(n c:Nat)(b:List UInt8)(k:Nat)(leaf:Bool)(z:((Q0c b).drop k).length=n)(w:World)(h:Q02 w (.slice a n c) ((Q0c b).drop k))(y:n+2<=140737488355328) :
  Calls Tryz.prog 167 #[.slice a n c,.bool leaf] w fun e w'=>∃ v,e=.returned (.tuple #[v,.int .i64 0])/\Q02 w' v (Q2d (tagL ((Q0c b).drop k) leaf))/\Below w.heap.size w w':=by
 have:=Qc9 a n c ((Q0c b).drop k) leaf z w h y;rw [(Q5g (Q8l b k leaf)).1] at this;exact this
theorem Q3q {w:World}{v:Value}{l:List UInt8}(h:Q02 w v l):(convert 25 9 v).run Tryz.prog w=.ok (str l) w:=Q0q elU8.ht (by kernel_rfl) (by kernel_rfl) h
theorem Qaw (a:Option Addr)(n c:Nat)(b:List UInt8)(hn:b.length=n)(w:World)(h:Q02 w (.slice a n c) b)(hl:2*n<=140737488355000) :
  Calls Tryz.prog 153 #[.slice a n c] w fun e w'=>∃ v,e=.returned (.tuple #[v,.bool (Q19 b),.int .i64 (unE b)])/\Q02 w' v (unP b)/\Below w.heap.size w w':=by
 obtain ⟨m,hm⟩:=Qe (2*n);have aT:(2:Int)*(n:Int)=(m:Int):=by omega
 have Hn:=Qhd hn;have Hm:=Qhd hm;have av:(Q0c b).length=m:=by rw [Q10,hm,hn]
 have aD:=Qhd av;have aR:m % 2=0:=by omega
 have aS:m<=140737488355000:=by omega
 have ao:m=0->b=[]:=by intro h0;exact List.eq_nil_of_length_eq_zero (by omega)
 have ap:m≠0->b≠[]:=by rintro h0 rfl;simp at hn;omega
 have aB:=Qhd ao;have aC:=Qhd ap;clear hn hm av ao ap;go_enter Tryz.func153,Tryz.ntmps153
 go_wp2
 go_loopw [5] (fun f wr=>∃ k:Nat,1<=k/\k<=3/\f=.int .i64 (k:Int)/\(∀ j leaf,1<=j->j<k->hits b j leaf=false)/\Below w.heap.size w wr) (fun f _=>3 - (intOf f).toNat)
 case atStart=>exact ⟨1,by omega,by omega,rfl,fun j leaf D J=>by omega,Below.refl _ _⟩
 case round =>
  obtain ⟨k,aO,aP,rfl,an,z⟩:=hrel;have aj:=Qhd an;clear an;by_cases hk:k<=2
  ·by_cases hm0:m=0
   ·obtain ⟨_,G,H,I⟩:=Qf5 b (.inl (aB.out hm0));have y:=Qhd (And.intro G (And.intro H I));have aH:decide ((k:Int)<=2)=true:=by rw [decide_eq_true_eq];omega
    have aI:decide ((k:Int)<=(m:Int))=false:=by rw [decide_eq_false_iff_not];omega
    have aJ:decide (k<=m)=false:=by rw [decide_eq_false_iff_not];omega
    clear hm0 G H I
    go_wp2
    go_ret3
    exact ⟨_,by rw [y.out.1,y.out.2.2];rfl,by rw [y.out.2.1];exact Q05.nil _ _ _,z⟩
   have aH:decide ((k:Int)<=2)=true:=by rw [decide_eq_true_eq];omega
   have aI:decide ((k:Int)<=(m:Int))=true:=by rw [decide_eq_true_eq];omega
   have aJ:decide (k<=m)=true:=by rw [decide_eq_true_eq];omega
   have aL:k<=m:=by omega
   have am:=Qhd (aC.out hm0);clear hm0;have a9:=D01 wr 4 [.bool false,.bool true];have aq:=z.alloc z.size (.cells #[.bool false,.bool true] 4);obtain ⟨g,hg⟩:=Qe (wr.heap.size);rw [<-hg] at a9;have aM:w.heap.size<=g:=by rw [hg];exact z.size
   have Hg:=Qhd hg;clear hg
   go_wp2
   rw [show wr.heap.size=g from Hg.out.symm];clear Hg;obtain ⟨wo,rfl⟩:∃ wo:World,wo=wr:=⟨_,rfl⟩
   go_loopw [24] (fun ix wi=>∃ j:Nat,j<=2/\ix=.int .i64 (j:Int)/\(1<=j->hits b k false=false)/\(2<=j->hits b k true=false)/\Blk 4 wi g [.bool false,.bool true]/\Below w.heap.size w wi) (fun ix _=>2 - (intOf ix).toNat)
   case atStart=>exact ⟨0,by omega,rfl,fun h=>by omega,fun h=>by omega,a9,aq⟩
   case round =>
    clear a9 aq;obtain ⟨j,hj,rfl,hf,ht,a4,z⟩:=hrel;have Hf:=Qhd hf;have Ht:=Qhd ht;clear hf ht;have ay:∀ leaf:Bool,∀ U S c1,Q02 U (.slice S m c1) (Q0c b)->∃ L M,(∀ k' w',(Instr.slice 25 (.slice S m c1) (some (.int k' (k:Int))) none none).run Tryz.prog w'=.ok (.slice L (m - k) M) w')/\Q02 U (.slice L (m - k) M) ((Q0c b).drop k) :=
     fun leaf U S c1 D=>Q05.from elU8 D k aL (k:Int) rfl
    have Z:=Qhd ay;clear ay;have ar:((Q0c b).drop k).length=m - k:=by rw [List.length_drop,aD.out]
    have W:=Qhd ar;clear ar;obtain ⟨q,hq⟩:=Qe (m - k);rw [<-hq] at Z W;have a7:q+2<=140737488355328:=by omega
    clear hq;by_cases hj2:j<2
    ·rcases (show j=0∨j=1 from by omega) with rfl|rfl
     ·have hc:=a4.cell 0;cases hh:hits b k false with
      | true =>
       obtain ⟨_,G,H,I⟩:=Qgz b k false (by omega) am.out hh;have y:=Qhd (And.intro G (And.intro H I));unfold hits at hh;have O:=Qhd hh;clear hh G H I
       go_wp2_with (first
        |(go_at_call 95;(with_reducible refine (Q6o a n c m b Hn.out Hm.out _ (h.below z) (by omega)).mono ?_);rintro e U ⟨S,c1,rfl,D,N⟩;obtain ⟨L,M,ab,J⟩:=Z.out false _ _ _ D)
        |(go_at_call 167;(with_reducible refine (Q6n L q M b k false W.out _ J a7).mono ?_);rintro e w2 ⟨v2,rfl,T,E⟩;have K:=D00 (D00 z N) E;have ac:=Q3q T;have ad:=Q3q (h.below K);have ae:=O.out))
       go_ret3
       have a8:=Q05.kept J E;exact ⟨_,by rw [y.out.1,y.out.2.2];rfl,by rw [y.out.2.1];exact a8,K⟩
      | false =>
       have V:=Qhd hh;unfold hits at hh;have O:=Qhd hh;clear hh
       go_wp2_with (first
        |(go_at_call 95;(with_reducible refine (Q6o a n c m b Hn.out Hm.out _ (h.below z) (by omega)).mono ?_);rintro e U ⟨S,c1,rfl,D,N⟩;obtain ⟨L,M,ab,J⟩:=Z.out false _ _ _ D)
        |(go_at_call 167;(with_reducible refine (Q6n L q M b k false W.out _ J a7).mono ?_);rintro e w2 ⟨v2,rfl,T,E⟩;have K:=D00 (D00 z N) E;have ac:=Q3q T;have ad:=Q3q (h.below K);have ae:=O.out))
       have a':=(a4.kept N).kept E
       go_roundw
       case rel=>exact ⟨1,by omega,by first|rfl|go_num,by first|exact fun _=>V.out|trivial|(intros;first|trivial|exact V.out),fun h=>by omega,a',K⟩
       case measure=>simp [intOf]<;>omega
     have hc:=a4.cell 1;cases hh:hits b k true with
     | true =>
      obtain ⟨_,G,H,I⟩:=Qgz b k true (by omega) am.out hh;have y:=Qhd (And.intro G (And.intro H I));unfold hits at hh;have O:=Qhd hh;clear hh G H I
      go_wp2_with (first
       |(go_at_call 95;(with_reducible refine (Q6o a n c m b Hn.out Hm.out _ (h.below z) (by omega)).mono ?_);rintro e U ⟨S,c1,rfl,D,N⟩;obtain ⟨L,M,ab,J⟩:=Z.out true _ _ _ D)
       |(go_at_call 167;(with_reducible refine (Q6n L q M b k true W.out _ J a7).mono ?_);rintro e w2 ⟨v2,rfl,T,E⟩;have K:=D00 (D00 z N) E;have ac:=Q3q T;have ad:=Q3q (h.below K);have ae:=O.out))
      go_ret3
      have a8:=Q05.kept J E;exact ⟨_,by rw [y.out.1,y.out.2.2];rfl,by rw [y.out.2.1];exact a8,K⟩
     | false =>
      have V:=Qhd hh;unfold hits at hh;have O:=Qhd hh;clear hh
      go_wp2_with (first
       |(go_at_call 95;(with_reducible refine (Q6o a n c m b Hn.out Hm.out _ (h.below z) (by omega)).mono ?_);rintro e U ⟨S,c1,rfl,D,N⟩;obtain ⟨L,M,ab,J⟩:=Z.out true _ _ _ D)
       |(go_at_call 167;(with_reducible refine (Q6n L q M b k true W.out _ J a7).mono ?_);rintro e w2 ⟨v2,rfl,T,E⟩;have K:=D00 (D00 z N) E;have ac:=Q3q T;have ad:=Q3q (h.below K);have ae:=O.out))
      have a':=(a4.kept N).kept E
      go_roundw
      case rel=>exact ⟨2,by omega,by first|rfl|go_num,fun _=>Hf.out (by omega),by first|exact fun _=>V.out|trivial|(intros;first|trivial|exact V.out),a',K⟩
      case measure=>simp [intOf]<;>omega
    obtain rfl:j=2:=by omega
    have HK:=Qhd (And.intro (Hf.out (by omega)) (Ht.out (by omega)))
    go_wp2
    go_roundw
    case rel=>exact ⟨k+1,by omega,by omega,by go_num,fun j leaf D J=>by
     by_cases hjk:j<k
     ·exact aj.out j leaf D hjk
     obtain rfl:j=k:=by omega
     cases leaf
     ·exact HK.out.1
     exact HK.out.2,z⟩
    case measure=>simp [intOf];omega
  obtain rfl:k=3:=by omega
  obtain ⟨_,G,H,I⟩:=Qf5 b (.inr (fun k leaf hk=>aj.out k leaf (by omega) (by omega)));have y:=Qhd (And.intro G (And.intro H I));clear G H I
  go_wp2
  go_ret3
  exact ⟨_,by rw [y.out.1,y.out.2.2];rfl,by rw [y.out.2.1];exact Q05.nil _ _ _,z⟩
end Go.Proofs.YtbdmkfjgnjfjbaaGreat
