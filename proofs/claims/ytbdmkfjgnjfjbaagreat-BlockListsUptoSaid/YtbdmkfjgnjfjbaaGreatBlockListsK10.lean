/- nib.Halves, Join and the reference's NHalves, NJoin. | nib.wrong, Join and the reference's NJoin. | The reference's NJoin. -/
import Derived.Test.YtbdmkfjgnjfjbaaGreatBlockListsK02
import Derived.Test.YtbdmkfjgnjfjbaaGreatBlockListsK01
import Derived.StillTailTactics
set_option linter.unusedSimpArgs false
set_option linter.unusedVariables false
set_option maxHeartbeats 4000000
set_option maxRecDepth 100000
open List (any_eq_false getElem_cons_succ take_nil take_succ_cons take_zero)
open Nat (le_of_lt le_refl zero_le)
namespace Go.Proofs.YtbdmkfjgnjfjbaaGreat
open Go.RowKit
def Qab (x:UInt8):List UInt8:=[x / 16,x % 16]
def Q0c (l:List UInt8):List UInt8:=l.flatMap Qab
def Q1l:List UInt8->List UInt8
 | x::y::l=>(x*16+y)::Q1l l
 | _=>[]
def Q0r (l:List UInt8):Bool:=l.any fun x=>decide (15<x.toNat)
def Q1e (l:List UInt8):Bool:=l.length % 2 == 0 && !Q0r l
theorem Q10 (l:List UInt8):(Q0c l).length=2*l.length:=by
 induction l with
 | nil=>rfl
 | cons x l ih=>simp [Q0c,Qab] at ih |-;omega
theorem Qg2 (l:List UInt8)(x:UInt8):Q0c (l++[x])=Q0c l++[x / 16,x % 16]:=by simp [Q0c,Qab]
theorem Q9u (x:UInt8):(x.toNat:Int) / 16=((x / 16).toNat:Int):=by
 rw [UInt8.toNat_div];rfl
theorem Q9c (x:UInt8):(x.toNat:Int) % 16=((x % 16).toNat:Int):=by
 rw [UInt8.toNat_mod];rfl
theorem Qjx (x:UInt8):[Value.int .u8 ((x.toNat:Int) / 16),Value.int .u8 ((x.toNat:Int) % 16)]=[x / 16,x % 16].flatMap b8:=by
 rw [Q9u,Q9c];rfl
theorem Qro (l:List UInt8)(k:Nat)(h:k<l.length):l.take (k+1)=l.take k++[l[k]]:=by rw [List.take_succ_eq_append_getElem h]

theorem Q5i (a:Option Addr)(c:Nat)(l:List UInt8)(w:World)(h:Q02 w (.slice a l.length c) l)(M:2*l.length<=140737488355328) :
  Calls Tryz.prog 90 #[.slice a l.length c] w fun e w'=>∃ v,e=.returned v/\Q08 b8 1 5 w' w.heap.size v (Q0c l)/\Below w.heap.size w w':=by
 go_enter Tryz.func90,Tryz.ntmps90
 go_wp2
 go_loopw [3,8] (fun v i wr=>∃ k:Nat,k<=l.length/\i=.int .i64 k/\Q08 b8 1 5 wr w.heap.size v (Q0c (l.take k))/\Below w.heap.size w wr/\w.heap.size<=wr.heap.size) (fun _ i _=>l.length - (intOf i).toNat)
 case atStart=>exact ⟨0,zero_le _,rfl,Q08.nil _ _ _ _ _,Below.refl _ _,le_refl _⟩
 case round =>
  obtain ⟨k,L,rfl,z,y,H⟩:=hrel;by_cases hlt:k<l.length
  ·obtain ⟨b,off,rfl,K⟩:=Q02.at (h.below y) k hlt;have O:=Qf6 l[k];have N:(l.take k).length<=l.length:=List.length_take_le' _ _;have E:=Q10 (l.take k);have D:=Qhd E;clear E
   go_wp2_with (at_builtin;refine Q1v rfl (.tmp 12) (.tmp 17) 25 rfl elU8 rfl (z.alloc _) rfl (Q05.made b8 1 _ [l[k] / 16,l[k] % 16] _ _ 2 (Qjx _) rfl rfl (by decide)) (y.alloc H _) (by simp;omega) (by rw [D.out];simp;omega) (by rw [D.out];simp [maxLen];omega) ?_;intro S T G J _ I)
   rw [<-Qg2,<-Qro l k hlt] at G
   go_roundw
   case rel=>exact ⟨k+1,by omega,by go_num,G,J,I⟩
   case measure=>simp [intOf];try omega
  ·obtain rfl:k=l.length:=by omega
   rw [List.take_of_length_le (le_refl _)] at z
   go_wp2
   go_ret;exact ⟨_,rfl,z,y⟩

theorem Qnj (l:List UInt8):∀ (i:Nat) (h:i<2*l.length),(Q0c l)[i]'(by rw [Q10];exact h)=if i % 2=1 then l[i / 2] % 16 else l[i / 2] / 16:=by
 induction l with
 | nil=>intro i h;simp at h
 | cons x l ih =>
  intro i h;have e:Q0c (x::l)=x / 16::x % 16::Q0c l:=by simp [Q0c,Qab]
  simp only [e]
  match i,h with
  | 0,_=>rfl
  | 1,_=>rfl
  | i+2,h =>
   have D:i<2*l.length:=by simp at h;omega
   simp only [getElem_cons_succ];rw [ih i D];have y:(i+2) % 2=i % 2:=by omega
   have z:(i+2) / 2=i / 2+1:=by omega
   simp only [y,z,getElem_cons_succ]
theorem Q3e (a:Option Addr)(c:Nat)(l:List UInt8)(w:World)(h:Q02 w (.slice a l.length c) l)(hl:2*l.length<=140737488355328) :
  Calls Tryz.prog 95 #[.slice a l.length c] w fun e w'=>∃ v,e=.returned v/\Q08 b8 1 5 w' w.heap.size v (Q0c l)/\Below w.heap.size w w':=by
 obtain ⟨T,H⟩:=Qe ((Q0c l).map u8v);have a2:T.length=2*l.length:=by rw [H,List.length_map,Q10]
 obtain ⟨n,U⟩:=Qe (2*l.length);have ab:(2:Int)*(l.length:Int)=(n:Int):=by omega
 have ac:n<=140737488355328:=by omega
 have L:∀ (i:Nat) (x:UInt8),l[i / 2]?=some x->T[i]?=some (u8v (if i % 2=1 then x % 16 else x / 16)):=by
  intro i x E;obtain ⟨h1,rfl⟩:=List.getElem?_eq_some_iff.1 E;subst H;rw [List.getElem?_map,List.getElem?_eq_getElem (by rw [Q10];omega),Qnj l i (by omega)];rfl
 have M:T.length=n:=by omega
 have J:=Qhd U;have W:=Qhd H;have G:=Qhd M;have Z:=Qhd L;clear L H a2 M U;go_enter Tryz.func95,Tryz.ntmps95
 go_wp2_with (refine Q4p rfl (.tmp 7) (.tmp 7) 25 rfl elU8 rfl .i64 .i64 _ _ n rfl rfl ?_ ?_ (Below.refl _ _) (le_refl _) ?_ ?_ ?_)
 ·rfl
 ·rfl
 ·omega
 ·unfold maxLen;omega
 intro w1 y z _ hB
 go_wp2
 go_loopw [11] (fun i wr=>∃ k:Nat,k<=n/\i=.int .i64 k/\Blk 5 wr w.heap.size (Q34 T (.int .u8 0) k)/\Below w.heap.size w wr) (fun i _=>n - (intOf i).toNat)
 case atStart=>exact ⟨0,zero_le _,rfl,by rw [Q55,G.out];exact y,z⟩
 case round =>
  clear y z hB;obtain ⟨k,hk,rfl,y,z⟩:=hrel;by_cases hlt:k<n
  ·have S:k / 2<l.length:=by have:=J.out;omega
   obtain ⟨b,off,rfl,a6,O⟩:=h.later z (k / 2) S;obtain ⟨x,E⟩:=Qe (l[k / 2]);rw [<-E] at O;have Hx:=Qhd E;clear E;have hq:(k:Int) / 2<(l.length:Int):=by omega
   have ae:=Qf6 x;obtain ⟨y1,af⟩:=y.has k (by rw [Q5j _ _ _ (by rw [G.out];omega),G.out];exact hlt);have a8:=y.free k;have a7:=Qk4 (q:=⟨w.heap.size,k,none⟩) (u:=.int .u8 ((x.toNat:Int) / 16)) O (by simp;omega);have I:=y.set k (.int .u8 ((x.toNat:Int) / 16));have a9:=I.free k;have N:=I.set k (.int .u8 ((x.toNat:Int) % 16));have V:=Q56 T (.int .u8 0) k _ (Z.out k x (by rw [List.getElem?_eq_getElem S,Hx.out]));have K:=Qhd V;clear V;by_cases hodd:k % 2=1
   ·have ht:((k:Int) % 2==1)=true:=by rw [beq_iff_eq];omega
    go_wp2
    go_roundw
    case rel =>
     have D:=K.out;rw [if_pos hodd] at D;rw [List.set_set,Q9c,show Value.int .u8 ((x % 16).toNat:Int)=u8v (x % 16) from rfl,D] at N;exact ⟨k+1,by omega,by go_num,by rw [Q9c] ;exact N,(z.setCell (le_refl _) _).setCell (le_refl _) _⟩
    case measure=>simp [intOf];try omega
   have ht:((k:Int) % 2==1)=false:=by rw [beq_eq_false_iff_ne];omega
   go_wp2
   go_roundw
   case rel =>
    have D:=K.out;rw [if_neg hodd] at D;rw [Q9u,show Value.int .u8 ((x / 16).toNat:Int)=u8v (x / 16) from rfl,D] at I;exact ⟨k+1,by omega,by go_num,by rw [Q9u] ;exact I,z.setCell (le_refl _) _⟩
   case measure=>simp [intOf];try omega
  obtain rfl:k=n:=by omega
  have e:Q34 T (.int .u8 0) k=(Q0c l).flatMap b8:=by
   have:=Q6u T (.int .u8 0);rw [G.out] at this;rw [this,W.out,Q22]
  rw [e] at y;have a3:=y.own (B:=w.heap.size) k (fun _=>rfl) (by rw [Q10];exact J.out.symm) (le_refl _) (by unfold maxLen;omega);clear e
  go_wp2
  go_ret;exact ⟨_,rfl,a3,z⟩
theorem Qf4 (l:List UInt8)(k:Nat)(h:∀ j (hj:j<l.length),j<k->(l[j]).toNat<=15)(z:l.length<=k):Q0r l=false:=by
 unfold Q0r;rw [any_eq_false];intro x y;obtain ⟨j,hj,rfl⟩:=List.getElem_of_mem y;have:=h j hj (by omega);simp;omega
theorem Qit (l:List UInt8)(k:Nat)(h:k<l.length)(y:15<(l[k]).toNat):Q0r l=true:=by
 unfold Q0r;rw [List.any_eq_true];exact ⟨l[k],List.getElem_mem h,by simpa using y⟩
theorem Qon (l:List UInt8)(h:Q0r l=false)(k:Nat)(y:k<l.length):(l[k]).toNat<=15:=by
 unfold Q0r at h;rw [any_eq_false] at h;have:=h l[k] (List.getElem_mem y);simpa using this
theorem Qde (a:Option Addr)(c:Nat)(l:List UInt8)(w:World)(h:Q02 w (.slice a l.length c) l) :
  Calls Tryz.prog 165 #[.slice a l.length c] w fun e w'=>e=.returned (.bool (Q0r l))/\w=w':=by
 have J:=h.small;unfold maxLen at J;go_enter Tryz.func165,Tryz.ntmps165
 go_wp2
 go_loop [7] (fun i=>∃ k:Nat,k<=l.length/\i=.int .i64 k/\∀ j (z:j<l.length),j<k->(l[j]).toNat<=15) (fun i=>l.length - (intOf i).toNat)
 case atStart=>exact ⟨0,zero_le _,rfl,fun j _ z=>by omega⟩
 case round =>
  obtain ⟨k,M,rfl,H⟩:=hrel;have E:=Qhd H;clear H;by_cases hlt:k<l.length
  ·obtain ⟨b,off,rfl,I⟩:=h.at k hlt;obtain ⟨x,D⟩:=Qe (l[k]);rw [<-D] at I;have G:=Qhd D;clear D;have N:=Qf6 x;by_cases h15:15<x.toNat
   ·have K:(15:Int)<(x.toNat:Int):=by omega
    have y:=Qhd (Qit l k hlt (by rw [<-G.out];exact h15))
    go_wp2
    go_ret;exact ⟨Qhi y.out.symm,rfl⟩
   have K:(x.toNat:Int)<=15:=by omega
   go_wp2
   go_round
   case rel=>exact ⟨k+1,by omega,by go_num,fun j z L=>by
    by_cases hjk':j<k
    ·exact E.out j z hjk'
    obtain rfl:j=k:=by omega
    rw [<-G.out];omega⟩
   case measure=>simp [intOf];try omega
  have y:=Qhd (Qf4 l k E.out (by omega))
  go_wp2
  go_ret;exact ⟨Qhi y.out.symm,rfl⟩
def Q3z (l:List UInt8):Int:=if Q1e l then 0 else 1
def Q2d (l:List UInt8):List UInt8:=if Q1e l then Q1l l else []
theorem Q5g {l:List UInt8}(h:Q1e l=true):Q3z l=0/\Q2d l=Q1l l:=by unfold Q3z Q2d;simp [h]
theorem Q7c {l:List UInt8}(h:Q1e l=false):Q3z l=1/\Q2d l=[]:=by unfold Q3z Q2d;simp [h]
theorem Qn2 (l:List UInt8):∀ (i:Nat) (h:2*i+1<l.length),Q1l (l.take (2*i+2))=Q1l (l.take (2*i))++[l[2*i]*16+l[2*i+1]]:=by
 induction l using Q1l.induct with
 | case1 x y l ih =>
  intro i h;cases i with
  | zero=>simp [Q1l]
  | succ i =>
   have z:2*(i+1)+2=(2*i+2)+2:=by omega
   have D:2*(i+1)=2*i+2:=by omega
   simp only [z,D,take_succ_cons,Q1l,List.cons_append,getElem_cons_succ];rw [ih i (by simp at h;omega)]
 | case2 l hl =>
  intro i h;exfalso
  match l,hl with
  | [],_=>simp at h
  | [x],_=>simp at h
  | x::y::l,hl=>exact hl x y l rfl
theorem Qi4 (l:List UInt8):2*(Q1l l).length<=l.length:=by
 induction l using Q1l.induct with
 | case1 x y l ih=>simp [Q1l];omega
 | case2 l hl =>
  match l,hl with
  | [],_=>simp [Q1l]
  | [x],_=>simp [Q1l]
  | x::y::l,hl=>exact (hl x y l rfl).elim
theorem Qn3 (x y:UInt8)(z:x.toNat<=15)(D:y.toNat<=15):bits .or .u8 ((x.toNat:Int)*16) (y.toNat:Int)=((x*16+y).toNat:Int):=by
 have h:=u8_or_nat (x.toNat*16) y.toNat (by omega) (by omega);rw [Int.natCast_mul] at h;rw [show ((16:Nat):Int)=16 from rfl] at h;rw [h,nat_join 4 _ _ (by omega) (by omega)];have:(x*16+y).toNat=x.toNat*16+y.toNat:=by
  rw [UInt8.toNat_add,UInt8.toNat_mul,show (16:UInt8).toNat=16 from rfl];omega
 rw [this]
theorem Qq0 (a:Option Addr)(c:Nat)(l:List UInt8)(w:World)(h:Q02 w (.slice a l.length c) l)(hl:l.length<=140737488355328) :
  Calls Tryz.prog 166 #[.slice a l.length c] w fun e w'=>∃ v,e=.returned (.tuple #[v,.int .i64 (Q3z l)])/\Q08 b8 1 5 w' w.heap.size v (Q2d l)/\Below w.heap.size w w':=by
 obtain ⟨n,G⟩:=Qe (l.length);rw [<-G] at h hl |-;have E:=Qhd G;have T:=fun z (b1:Below w.heap.size w z)=>Qde a c l z (by have:=h.below b1;rw [G] at this;exact this);rw [<-G] at T;have a0:=Qhd T;clear T G;by_cases hodd:n % 2=1
 ·have D:Q1e l=false:=by unfold Q1e;rw [<-E.out];simp [hodd]
  rw [(Q7c D).1,(Q7c D).2];have ht:((n:Int) % 2==1)=true:=by rw [beq_iff_eq];omega
  clear D;go_enter Tryz.func166,Tryz.ntmps166
  go_wp2_with fail
  go_ret2;exact ⟨_,rfl,Q08.nil _ _ _ _ _,Below.refl _ _⟩
 have ht:((n:Int) % 2==1)=false:=by rw [beq_eq_false_iff_ne];omega
 by_cases hwb:Q0r l=true
 ·have D:Q1e l=false:=by unfold Q1e;rw [hwb];simp
  rw [(Q7c D).1,(Q7c D).2];clear D;go_enter Tryz.func166,Tryz.ntmps166
  go_wp2_with (go_at_call 165;refine (a0.out _ (Below.refl _ _)).mono ?_;rintro e z ⟨rfl,rfl⟩)
  go_ret2;exact ⟨_,rfl,Q08.nil _ _ _ _ _,Below.refl _ _⟩
 have ad:Q0r l=false:=by simpa using hwb
 have D:Q1e l=true:=by unfold Q1e;rw [ad,<-E.out];simp;omega
 rw [(Q5g D).1,(Q5g D).2];have aa:=Qhd (Qon l ad);clear D hwb;go_enter Tryz.func166,Tryz.ntmps166
 go_wp2_with (go_at_call 165;refine (a0.out _ (Below.refl _ _)).mono ?_;rintro e z ⟨rfl,rfl⟩)
 go_loopw [0,4] (fun p v wr=>∃ i m J L,2*i+m=n/\p=.slice J m L/\Q02 w (.slice J m L) (l.drop (2*i))/\Q08 b8 1 5 wr w.heap.size v (Q1l (l.take (2*i)))/\Below w.heap.size w wr/\w.heap.size<=wr.heap.size) (fun p _ _=>lenV p)
 case atStart=>exact ⟨0,n,a,c,by omega,rfl,by simpa using h,Q08.nil _ _ _ _ _,Below.refl _ _,le_refl _⟩
 case round =>
  obtain ⟨i,m,J,L,M,rfl,S,O,H,hB⟩:=hrel;have aj:=Qhd M;by_cases hm:m=0
  ·have a8:l.take (2*i)=l:=List.take_of_length_le (by have:=E.out;omega);rw [a8] at O;have aB:decide ((0:Int)<(m:Int))=false:=by rw [decide_eq_false_iff_not];omega
   subst hm;clear M a8
   go_wp2
   go_ret2;exact ⟨_,rfl,O,H⟩
  have ay:2<=m:=by omega
  have ax:(l.drop (2*i)).length=m:=by have:=E.out;simp;omega
  obtain ⟨b,off,rfl,aC,a6⟩:=S.later H 0 (by omega);obtain ⟨_,_,e,_,a7⟩:=S.later H 1 (by omega);simp only [Option.some.injEq,Addr.mk.injEq,and_true] at e;obtain ⟨rfl,rfl⟩:=e;obtain ⟨x,U⟩:=Qe ((l.drop (2*i))[0]);obtain ⟨y,W⟩:=Qe ((l.drop (2*i))[1]);rw [<-U,Nat.add_zero] at a6;rw [<-W] at a7;have V:x=l[2*i]'(by have:=E.out;omega):=by rw [U];simp
  have Z:y=l[2*i+1]'(by have:=E.out;omega):=by rw [W];simp
  have ae:x.toNat<=15:=by rw [V];exact aa.out _ _
  have af:y.toNat<=15:=by rw [Z];exact aa.out _ _
  have aK:(x.toNat:Int)<=15/\0<=(x.toNat:Int):=by omega
  have aL:(y.toNat:Int)<=15/\0<=(y.toNat:Int):=by omega
  have N:=Qn2 l i (by have:=E.out;omega);rw [<-V,<-Z] at N;have Hj:=Qhd N;obtain ⟨a2,c2,aF,ab⟩:=Q05.from elU8 S 2 ay 2 rfl;rw [List.drop_drop] at ab;have a9:=Qn3 x y ae af;have ai:Hid ([Value.int .u8 (bits .or .u8 ((x.toNat:Int)*16) (y.toNat:Int))]=b8 (x*16+y)):=by rw [a9];exact Qhd rfl
  have aE:=fun z:World=>(Q05.one b8 1 z (x*16+y) #[.int .u8 (bits .or .u8 ((x.toNat:Int)*16) (y.toNat:Int))] 5 ai.out rfl);have aJ:IntKind.u8.wrap ((x.toNat:Int)*16)=(x.toNat:Int)*16:=by rw [IntKind.wrap_u8'];omega
  have aB:(0:Int)<(m:Int):=by omega
  have aG:(1:Int)<(m:Int):=by omega
  have aH:0<m:=by omega
  have aI:1<m:=by omega
  have aD:(Q1l (l.take (2*i))).length+1<=n:=by
   have:=Qi4 (l.take (2*i));rw [List.length_take] at this;omega
  have a5:((Q1l (l.take (2*i))).length+[x*16+y].length)*1<=140737488355328:=by simp;omega
  have a1:(Q1l (l.take (2*i))).length+[x*16+y].length<=maxLen:=by simp [maxLen];omega
  have ah:=Qhd a5;have ag:=Qhd a1;clear a5 a1;clear N U W V Z M ax ae af a9
  go_wp2
  have k0:=fun u:Ext wr=>u.cell a6;have k1:=fun u:Ext wr=>u.cell a7;refine Q03 wr 10 (by kernel_rfl) (by kernel_rfl) (Below.refl _ _) ?_;simp only [take_succ_cons,take_zero,take_nil]
  iterate 9 (refine Q06 (by rfl) (fun K hK=>?_);go_simp;refine hK _ ?_;clear hK K)
  refine Q0e 27 (fun v z=>Q05 b8 1 z v [x*16+y]) rfl (of_decide_eq_true rfl) (fun v z w2 h1 h2=>Q05.kept h1 h2) (fun z I=>?_) ?_
  ·simp only [Q18,List.filter_nil,Q00];refine ⟨rfl,?_⟩;go_simp;exact Qba _ _
  refine Q0i ?_;intro z I aO ap;change wpList _ _ _ [_,_] _ _;have az:Q08 b8 1 5 z w.heap.size u4 (Q1l (l.take (2*i))):=O.kept I;have au:=H.trans (I.mono hB);have aq:w.heap.size<=z.heap.size:=Nat.le_trans hB I.size
  go_wp2_with (at_builtin;refine Q1v rfl (.tmp 18) (.tmp 27) 25 rfl elU8 rfl az rfl ap au aq ah.out ag.out ?_;intro v4 w4 ac av _ ar)
  rw [<-Hj.out] at ac
  go_roundw
  case rel=>exact ⟨i+1,m - 2,a2,c2,by have:=aj.out;omega,rfl,ab,ac,av,ar⟩
  case measure=>simp [lenV];try omega
theorem Qg3 (x:UInt8):(x / 16).toNat<=15/\(x % 16).toNat<=15:=by
 have:=x.toNat_lt;rw [UInt8.toNat_div,UInt8.toNat_mod,show (16:UInt8).toNat=16 from rfl];omega
theorem Q7n (l:List UInt8):Q0r (Q0c l)=false:=by
 unfold Q0r;rw [any_eq_false];intro x h;unfold Q0c at h;obtain ⟨y,_,z⟩:=List.mem_flatMap.1 h;have:=Qg3 y;simp only [Qab,List.mem_cons,List.not_mem_nil,or_false] at z;rcases z with rfl|rfl
 ·have:=this.1;rw [decide_eq_true_eq];omega
 have:=this.2;rw [decide_eq_true_eq];omega
theorem Q9j (l:List UInt8)(h:Q1e l=true):Q0c (Q1l l)=l:=by
 induction l using Q1l.induct with
 | case1 x y l ih =>
  unfold Q1e at h ih;simp only [Q0r,List.length_cons,List.any_cons,Bool.and_eq_true,Bool.not_eq_true',Bool.or_eq_false_iff,decide_eq_false_iff_not,beq_iff_eq] at h ih;have E:=ih ⟨by omega,h.2.2.2⟩;have G:x.toNat<=15:=by omega
  have H:y.toNat<=15:=by omega
  have z:(x*16+y) / 16=x:=by
   apply UInt8.toNat_inj.1;rw [UInt8.toNat_div,UInt8.toNat_add,UInt8.toNat_mul,show (16:UInt8).toNat=16 from rfl];omega
  have D:(x*16+y) % 16=y:=by
   apply UInt8.toNat_inj.1;rw [UInt8.toNat_mod,UInt8.toNat_add,UInt8.toNat_mul,show (16:UInt8).toNat=16 from rfl];omega
  have:Q0c (Q1l (x::y::l))=(x*16+y) / 16::(x*16+y) % 16::Q0c (Q1l l):=by simp [Q1l,Q0c,Qab]
  rw [this,z,D,E]
 | case2 l hl =>
  match l,hl with
  | [],_=>rfl
  | [x],_=>simp [Q1e] at h
  | x::y::l,hl=>exact (hl x y l rfl).elim
theorem Q53 (l:List UInt8)(h:Q1e l=false):Q0c (Q1l l)≠l:=by
 intro e;have y:=Q7n (Q1l l);have z:=Q10 (Q1l l);rw [e] at y z;unfold Q1e at h;rw [y,z] at h;simp at h
theorem Qeh (l:List UInt8):(Q1l l).length=l.length / 2:=by
 induction l using Q1l.induct with
 | case1 x y l ih=>simp [Q1l];omega
 | case2 l hl =>
  match l,hl with
  | [],_=>rfl
  | [x],_=>simp [Q1l]
  | x::y::l,hl=>exact (hl x y l rfl).elim
theorem Qq1 (l:List UInt8):∀ (i:Nat) (h:2*i+1<l.length),(Q1l l)[i]?=some (l[2*i]*16+l[2*i+1]):=by
 induction l using Q1l.induct with
 | case1 x y l ih =>
  intro i h;cases i with
  | zero=>simp [Q1l]
  | succ i =>
   have z:2*(i+1)=2*i+2:=by omega
   simp only [Q1l,List.getElem?_cons_succ,z,getElem_cons_succ];exact ih i (by simp at h;omega)
 | case2 l hl =>
  intro i h;exfalso
  match l,hl with
  | [],_=>simp at h
  | [x],_=>simp at h
  | x::y::l,hl=>exact hl x y l rfl
theorem Qn1 (x y:UInt8):IntKind.u8.wrap (IntKind.u8.wrap ((x.toNat:Int)*16)+(y.toNat:Int))=((x*16+y).toNat:Int):=by
 rw [IntKind.wrap_u8',IntKind.wrap_u8',UInt8.toNat_add,UInt8.toNat_mul,show (16:UInt8).toNat=16 from rfl];omega
theorem Qmm (a:Option Addr)(c:Nat)(l:List UInt8)(w:World)(h:Q02 w (.slice a l.length c) l)(hl:l.length<=140737488355328) :
  Calls Tryz.prog 182 #[.slice a l.length c] w fun e w'=>∃ v,e=.returned (.tuple #[v,.int .i64 (Q3z l)])/\Q08 b8 1 5 w' w.heap.size v (Q2d l)/\Below w.heap.size w w':=by
 obtain ⟨m,Z⟩:=Qe (l.length / 2);have aG:(l.length:Int) / 2=(m:Int):=by omega
 obtain ⟨T,N⟩:=Qe ((Q1l l).map u8v);have a8:T.length=m:=by rw [N,List.length_map,Qeh,Z]
 have a7:∀ (i:Nat),(h:2*i+1<l.length)->T[i]?=some (u8v (l[2*i]*16+l[2*i+1])):=by
  intro i h;rw [N,List.getElem?_map,Qq1 l i h];rfl
 have aL:2*m<=l.length:=by omega
 have Hm:=Qhd Z;have HT:=Qhd N;have I:=Qhd a8;have ai:=Qhd a7;clear a7 a8 N Z;go_enter Tryz.func182,Tryz.ntmps182
 go_wp2_with (refine Q4p rfl (.tmp 8) (.tmp 8) 25 rfl elU8 rfl .i64 .i64 _ _ m rfl rfl ?_ ?_ (Below.refl _ _) (le_refl _) ?_ ?_ ?_)
 ·rfl
 ·rfl
 ·omega
 ·unfold maxLen;omega
 intro E D H _ hB
 go_wp2
 go_loopw [12] (fun i wr=>∃ k:Nat,k<=m/\i=.int .i64 k/\Blk 5 wr w.heap.size (Q34 T (.int .u8 0) k)/\Below w.heap.size w wr) (fun i _=>m - (intOf i).toNat)
 case atStart=>exact ⟨0,zero_le _,rfl,by rw [Q55,I.out];exact D,H⟩
 case round =>
  clear D H hB;obtain ⟨k,hk,rfl,D,H⟩:=hrel;by_cases hlt:k<m
  ·obtain ⟨b,off,rfl,aE,V⟩:=h.later H (2*k) (by omega);obtain ⟨_,_,e,_,O⟩:=h.later H (2*k+1) (by omega);simp only [Option.some.injEq,Addr.mk.injEq,and_true] at e;obtain ⟨rfl,rfl⟩:=e;have S:=ai.out k (by omega);obtain ⟨x,hx⟩:=Qe (l[2*k]);obtain ⟨y,hy⟩:=Qe (l[2*k+1]);rw [<-hx,<-hy] at S;rw [<-hx] at V;rw [<-hy] at O;obtain ⟨M,aa⟩:=Qe (2*k);obtain ⟨j1,ab⟩:=Qe (M+1);rw [<-aa] at V O;rw [<-ab] at O;have e0:IntKind.i64.wrap (2*(k:Int))=(M:Int):=by rw [IntWalk.i64_in _ (by omega)];omega
   have e1:IntKind.i64.wrap ((M:Int)+1)=(j1:Int):=by rw [IntWalk.i64_in _ (by omega)];omega
   have g0:(M:Int)<(l.length:Int):=by omega
   have g1:(j1:Int)<(l.length:Int):=by omega
   have aB:M<l.length:=by omega
   have aD:j1<l.length:=by omega
   have ae:=Q56 T (.int .u8 0) k _ S;have al:=Qhd ae;obtain ⟨y1,aN⟩:=D.has k (by rw [Q5j _ _ _ (by rw [I.out];omega),I.out];exact hlt);have aH:=D.free k;have aw:=Qn1 x y;obtain ⟨z,hz⟩:=Qe (x*16+y);rw [<-hz] at aw;have Hz:=Qhd hz;clear ae S hx hy aa ab hz;have k0:=fun u:Ext wr=>u.cell V;have k1:=fun u:Ext wr=>u.cell O
   go_wp2
   refine Q03 wr 15 (by kernel_rfl) (by kernel_rfl) (Below.refl _ _) ?_;simp only [take_succ_cons,take_zero,take_nil]
   iterate 15 (refine Q06 (by rfl) (fun K G=>?_);go_simp;refine G _ ?_;clear G K)
   refine Q0i ?_;intro E J;change wpList _ _ _ [_,_] _ _;have U:=D.kept J;have aq:=H.trans (J.mono (le_of_lt D.lt));obtain ⟨y2,aO⟩:=U.has k (by rw [Q5j _ _ _ (by rw [I.out];omega),I.out];exact hlt);have aI:=U.free k;have a':=U.set k (.int .u8 (z.toNat:Int));rw [show Value.int .u8 (z.toNat:Int)=u8v z from rfl,Hz.out,al.out] at a'
   go_wp2
   go_roundw
   case rel =>
    refine ⟨k+1,by omega,by go_num,?_,aq.setCell (le_refl _) _⟩;rw [show Value.int .u8 (z.toNat:Int)=u8v z from rfl,Hz.out];exact a'
   case measure=>simp [intOf];try omega
  obtain rfl:k=m:=by omega
  have e:Q34 T (.int .u8 0) k=(Q1l l).flatMap b8:=by
   have:=Q6u T (.int .u8 0);rw [I.out] at this;rw [this,HT.out,Q22]
  rw [e] at D;have W:(Q1l l).length=k:=by rw [Qeh];exact Hm.out.symm
  have ac:=D.own (B:=w.heap.size) k (fun _=>rfl) W (le_refl _) (by unfold maxLen;omega);have au:=ac.row;have a4:=Qhd W;have hs:∀ u:Ext wr,(convert 25 9 (.slice a l.length c)).run Tryz.prog u.val=.ok (str l) u.val:=fun u=>Q0q elU8.ht (by kernel_rfl) (by kernel_rfl) (h.below (H.trans (u.bel.mono (le_of_lt D.lt))));have ak:Hid (((Q0c (Q1l l))==l)=Q1e l):=by
   cases hok:Q1e l with
   | true=>rw [Q9j l hok];exact Qhd (by simp)
   | false=>exact Qhd (by have:=Q53 l hok;simpa using this)
  clear e W
  go_wp2
  refine Q03 wr 6 (by kernel_rfl) (by kernel_rfl) (Below.refl _ _) ?_;simp only [take_succ_cons,take_zero,take_nil]
  (refine Q06 (by rfl) (fun K G=>?_);go_simp;refine G _ ?_;clear G K)
  refine Q0e 33 (fun v E=>Q02 E v (Q0c (Q1l l))) rfl (of_decide_eq_true rfl) (fun v E w2 h1 h2=>Q05.kept h1 h2) (fun E J=>?_) ?_
  ·simp only [Q18,List.filter_nil,Q00];refine ⟨rfl,?_⟩;go_simp;have hr:=au.below J;rw [<-a4.out] at hr |-;refine (Q3e _ _ (Q1l l) _ hr (by rw [a4.out];omega)).mono ?_;rintro e w2 ⟨v,rfl,hv,hb⟩;exact ⟨v,rfl,hv.row,hb⟩
  refine Q3a (str (Q0c (Q1l l))) (fun E J=>?_) ?_
  ·change Q00 E [(33,_)] _ _;intro ax a6;have hc:=Q0q (P:=Tryz.prog) (w:=E) (src:=25) (dst:=9) elU8.ht (by kernel_rfl) (by kernel_rfl) a6;simp only [Q00];refine ⟨rfl,?_⟩;go_simp;exact Below.refl _ _
  iterate 2 (refine Q06 (by rfl) (fun K G=>?_);go_simp;refine G _ ?_;clear G K)
  refine Q3a (.bool (!Q1e l)) (fun E J=>?_) ?_
  ·change Q00 E [] _ _;simp only [Q00];refine ⟨rfl,?_⟩;go_simp;exact ⟨Below.refl _ _,ak.out⟩
  refine Q75 rfl ?_;rintro w2 af ax a6;simp only [Q00];have a9:=H.trans (af.mono (le_of_lt D.lt));have ar:=ac.kept af;cases hok:Q1e l with
  | true =>
   simp only [hok,Bool.not_true];have L:=Qhd (Q5g hok);clear hok
   go_wp2
   go_ret2;exact ⟨_,by rw [L.out.1];rfl,by rw [L.out.2];exact ar,a9⟩
  | false =>
   simp only [hok,Bool.not_false];have L:=Qhd (Q7c hok);clear hok
   go_wp2
   go_ret2;exact ⟨_,by rw [L.out.1];rfl,by rw [L.out.2];exact Q08.nil _ _ _ _ _,a9⟩
end Go.Proofs.YtbdmkfjgnjfjbaaGreat
