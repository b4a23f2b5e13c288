/- The reference's routePut: its closures, slices.IndexFunc, slices.Clone at routes. | slices.DeleteFunc at routes. | slices.SortFunc at routes: the library's cont -/
import Derived.Test.YtbdmkfjgnjfjbaaGreatBlockListsK04
import Derived.Test.YtbdmkfjgnjfjbaaGreatBlockListsK03
import Derived.Test.YtbdmkfjgnjfjbaaGreatBlockListsK06
import Derived.Test.YtbdmkfjgnjfjbaaGreatBlockListsK07
import Derived.Shelf.SlGeneric
import Derived.Shelf.Lay
import Derived.Shelf.Small.Strs
import Derived.Shelf.SlSortCmp.NoneTotal
import Derived.Ground.SlsfProg
import Derived.Ground.NamesProg
import Derived.Test.YtbdmkfjgnjfjbaaGreatBlockListsK10
import Derived.Test.YtbdmkfjgnjfjbaaGreatBlockListsK11
set_option linter.unusedSimpArgs false
set_option linter.unusedVariables false
set_option maxHeartbeats 4000000
set_option maxRecDepth 100000
open List (filter_append getElem?_eq_getElem length_append length_singleton length_take mem_append mem_cons mem_singleton size_toArray take_length take_succ_eq_append_getElem)
open Nat (le_refl mod_lt)
namespace Go.Proofs.YtbdmkfjgnjfjbaaGreat
open Go.RowKit
theorem Qel (a b:Value)(w:World):(callFunc 139 #[a,b]).run Tryz.prog w=.ok (.enter 139 #[a,b]) w:=by kernel_rfl
theorem Qqz (r:Rt)(p:List UInt8)(y:Nat)(w:World)(G:w.cell? ⟨y,0,none⟩=some (.string ⟨p.toArray⟩)) :
  Calls Tryz.prog 139 #[.agg (Q0d r).toArray,.pointer (some ⟨y,0,none⟩)] w fun e w'=>e=.returned (.bool (decide (r.1=p)))/\Below w.heap.size w w':=by
 obtain ⟨h,E⟩:=r;have H:y<w.heap.size:=World.block_lt_of_cell? w _ G;have D:Below w.heap.size w (w.alloc (.cells #[.string ⟨h.toArray⟩,.string ⟨E.toArray⟩] 168)):=Qba _ _;have I:(w.alloc (.cells #[.string ⟨h.toArray⟩,.string ⟨E.toArray⟩] 168)).cell? ⟨y,0,none⟩=some (.string ⟨p.toArray⟩):=by rw [D.cell H];exact G
 have K:w.heap.size≠y:=by omega
 show Calls Tryz.prog 139 #[.agg #[.string ⟨h.toArray⟩,.string ⟨E.toArray⟩],.pointer (some ⟨y,0,none⟩)] w _;by_cases he:h=p
 ·subst he;have z:decide (h=h)=true:=by simp
  dsimp only;rw [z];clear z;go_enter Tryz.func139,Tryz.ntmps139
  go_wp2_with fail
  go_ret;exact ⟨rfl,D⟩
 have z:decide (h=p)=false:=by simp [he]
 have J:(h==p)=false:=by rw [beq_eq_false_iff_ne];exact he
 dsimp only;rw [z];clear z he;go_enter Tryz.func139,Tryz.ntmps139
 go_wp2_with fail
 go_ret;exact ⟨rfl,D⟩
def Qt1 (l:List Rt)(p:List UInt8)(w:World)(e:Ending)(w':World):Prop :=
 ∃ x:Int,e=.returned (.int .i64 x)/\Below w.heap.size w w'/\((x=-1/\∀ r∈l,r.1≠p)∨∃ (i:Nat) (hi:i<l.length),x=(i:Int)/\l[i].1=p/\∀ r∈l.take i,r.1≠p)
theorem Qpc (a:Option Addr)(n c:Nat)(l:List Rt)(hn:l.length=n)(hN:n<=1000000000)(p:List UInt8)(O:Nat)(w:World)(h:Q05 Q0d 2 w (.slice a n c) l)(hp:w.cell? ⟨O,0,none⟩=some (.string ⟨p.toArray⟩)) :
  Calls Tryz.prog 161 #[.slice a n c,.func (.func 139) #[] #[.pointer (some ⟨O,0,none⟩)]] w (Qt1 l p w):=by
 have ah:O<w.heap.size:=World.block_lt_of_cell? w _ hp;have al:=Qel;have cc:=fun (r:Rt) (u:World) (hu:Below w.heap.size w u)=>Qqz r p O u (by rw [hu.cell ah];exact hp);have Cc:=Qhd cc;have Hn:=Qhd hn;have H:=Qhd h;clear cc hn hp h;go_enter Tryz.func161,Tryz.ntmps161
 go_wp2_with fail
 go_loopw [8] (fun ix wr=>∃ i:Nat,i<=n/\ix=.int .i64 (i:Int)/\Below w.heap.size w wr/\∀ r∈l.take i,r.1≠p) (fun ix _=>n - (intOf ix).toNat)
 case atStart=>exact ⟨0,by omega,rfl,Below.refl _ _,by simp⟩
 case round =>
  obtain ⟨i,am,rfl,I,G⟩:=hrel;by_cases hlti:i<n
  ·have an:(i:Int)<(n:Int):=by omega
   have J:i<l.length:=by rw [Hn.out];exact hlti
   obtain ⟨b1,o1,rfl,L⟩:=Q05.range (f:=Q0d) (size:=2) (fun _=>rfl) (H.out.below I) i J;have D:=Cc.out l[i] wr I;have S:l.take (i+1)=l.take i++[l[i]]:=take_succ_eq_append_getElem J;have ao:IntKind.i64.wrap ((i:Int)+1)=((i+1:Nat):Int):=by rw [IntWalk.i64_in _ (by omega)];omega
   obtain ⟨q,E⟩:=Qe (decide (l[i].1=p));rw [<-E] at D;obtain ⟨y,T⟩:=Qe (l[i]);rw [<-T] at L D E S;obtain ⟨M,y2⟩:=y;obtain ⟨Y1,Z⟩:∃ Y:ByteArray,Y=⟨M.toArray⟩:=⟨_,rfl⟩;obtain ⟨Y2,a0⟩:∃ Y:ByteArray,Y=⟨y2.toArray⟩:=⟨_,rfl⟩;have a2:Q0d (M,y2)=[.string Y1,.string Y2]:=by rw [Z,a0];rfl
   rw [a2] at L D;have a5:=Qhd D;have R1:=Qhd L;have ad:=Qhd S;have N:=Qhd G;have Hy:Hid (∃ hi:i<l.length,l[i]=(M,y2)):=Qhd ⟨J,T.symm⟩;cases q with
   | true =>
    have K:M=p:=by simpa using E.symm
    have U:=Qhd K;clear D L S G E Z a0 a2 K hlti J T
    go_wp2_with (first
     |(refine Qlw 168 14 b1 (o1+i*2) Q0y (by rfl) R1.out ?_)
     |(go_at_call 139;(with_reducible refine a5.out.mono ?_);rintro e w2 ⟨rfl,V⟩;have W:=D00 I V))
    go_ret;obtain ⟨hi,ai⟩:=Hy.out;exact ⟨_,rfl,W,.inr ⟨i,hi,rfl,by rw [ai];exact U.out,N.out⟩⟩
   | false =>
    have K:M≠p:=by simpa using E.symm
    have U:=Qhd K;clear D L S G E Z a0 a2 K hlti J T
    go_wp2_with (first
     |(refine Qlw 168 14 b1 (o1+i*2) Q0y (by rfl) R1.out ?_)
     |(go_at_call 139;(with_reducible refine a5.out.mono ?_);rintro e w2 ⟨rfl,V⟩;have W:=D00 I V))
    go_roundw
    case rel=>exact ⟨i+1,by omega,by go_num,W,fun r z=>by
     rw [ad.out] at z;rcases mem_append.1 z with z|z
     ·exact N.out r z
     rw [mem_singleton] at z;rw [z];exact U.out⟩
    case measure=>simp [intOf];omega
  obtain rfl:i=n:=by omega
  clear hlti;have N:=Qhd G;clear G
  go_wp2_with fail
  go_ret;exact ⟨-1,rfl,I,.inl ⟨rfl,fun r z=>N.out r (by rw [<-Hn.out,take_length];exact z)⟩⟩
theorem Qjg (a:Option Addr)(n c:Nat)(l:List Rt)(M:l.length=n)(w:World)(h:Q05 Q0d 2 w (.slice a n c) l)(N:n<=1000000000) :
  Calls Tryz.prog 138 #[.slice a n c] w fun e w'=>∃ v,e=.returned v/\Q08 Q0d 2 168 w' w.heap.size v l/\Below w.heap.size w w':=by
 have S:=h.small;cases a with
 | none =>
  have G:l=[]/\n=0:=by
   obtain ⟨_,_,_,D,_,_,z⟩:=h;rcases z with ⟨y,H,z⟩|⟨b,off,s,y,H,z⟩
   ·exact ⟨List.eq_nil_of_length_eq_zero (by omega),by omega⟩
   simp only [Value.slice.injEq] at D;rw [<-D.1] at y;simp at y
  obtain ⟨rfl,rfl⟩:=G;have J:∀ w:World,(binOp .eql 150 (.slice none 0 c) (.slice none 0 0)).run Tryz.prog w=.ok (.bool true) w:=fun _=>rfl;go_enter Tryz.func138,Tryz.ntmps138
  go_wp2
  go_ret;exact ⟨_,rfl,Q08.nil Q0d 2 _ _ _,Below.refl _ _⟩
 | some p =>
  have E:=Qhd M;have J:∀ w:World,(binOp .eql 150 (.slice (some p) n c) (.slice none 0 0)).run Tryz.prog w=.ok (.bool false) w:=fun _=>rfl;go_enter Tryz.func138,Tryz.ntmps138
  go_wp2_with (refine Q0x (o:=⟨some 7,_,_,_,_,_⟩) (by rfl) (.tmp 5) (.tmp 6) 150 (by rfl) elRt (by rfl) (Q08.empty Q0d 2 168 w w.heap.size (le_refl _)) (by rfl) (h.alloc _) (by simp) (by simp [E.out];omega) (by simp only [List.length_nil];unfold maxLen at *;omega) ?_;intro T U I K O)
  go_ret;refine ⟨_,rfl,I,?_⟩;exact ((Below.refl _ _).alloc (le_refl _) (.cells #[] 168)).grown K (by simp) (fun j L=>Q08.lt (Q08.empty Q0d 2 168 w w.heap.size (le_refl _)) j L)
theorem Q2c (l:List Rt):(l.flatMap Q0d).length=l.length*2:=Q28 (f:=Q0d) (size:=2) (fun _=>rfl) l
theorem Qbs {e:TypeId}{w:World}{B g n c:Nat}{l:List Rt}(h:Q08 Q0d 2 e w B (.slice (some ⟨g,0,none⟩) n c) l):∃ R,Blk e w g (l.flatMap Q0d++R)/\n=l.length/\n<=c/\c<=maxLen/\B<=g/\(l.flatMap Q0d++R).length=c*2:=by
 obtain ⟨E,y⟩:=h;rcases y with ⟨y,G⟩|⟨M,cap,z,y,G,H,I,J,K,L⟩
 ·simp only [Value.slice.injEq] at y;cases y.1
 simp only [Value.slice.injEq,Option.some.injEq,Addr.mk.injEq,and_true] at y;obtain ⟨rfl,rfl,rfl⟩:=y;have D:z.toList=l.flatMap Q0d++z.toList.drop (l.flatMap Q0d).length:=by
  conv=>lhs;rw [<-List.take_append_drop (l.flatMap Q0d).length z.toList]
  rw [E,L,<-E]
 refine ⟨z.toList.drop (l.flatMap Q0d).length,?_,rfl,I,J,G,?_⟩
 ·unfold Blk;rw [<-D];simpa using H
 rw [<-D,Array.length_toList,K]
theorem Qer {e:TypeId}{w:World}{B g n c:Nat}{l:List Rt}{R:List Value}(h:Blk e w g (l.flatMap Q0d++R))(z:(l.flatMap Q0d++R).length=c*2)(G:n<=c)(y:B<=g)(D:l.length=n)(E:c<=maxLen):Q08 Q0d 2 e w B (.slice (some ⟨g,0,none⟩) n c) l:=by
 subst D;refine ⟨Q2c l,.inr ⟨g,c,(l.flatMap Q0d++R).toArray,rfl,y,h,G,E,by simpa using z,?_⟩⟩;rw [List.take_left' (Q2c l)]
theorem Qli {e:TypeId}{w:World}{B g n c:Nat}{A X Y Z:List Rt}(h:Q08 Q0d 2 e w B (.slice (some ⟨g,0,none⟩) n c) (A++X++Z))(z:X.length=Y.length):Q08 Q0d 2 e (w.setCells g (A.length*2) (Y.flatMap Q0d)) B (.slice (some ⟨g,0,none⟩) n c) (A++Y++Z):=by
 obtain ⟨R,I,K,L,J,H,y⟩:=Qbs h;have G:=I.sets (Y.flatMap Q0d) (A.length*2);have D:(A++X++Z).flatMap Q0d++R=A.flatMap Q0d++(X.flatMap Q0d++(Z.flatMap Q0d++R)):=by simp
 have E:(A++Y++Z).flatMap Q0d++R=A.flatMap Q0d++(Y.flatMap Q0d++(Z.flatMap Q0d++R)):=by simp
 rw [D,<-Q2c A,Q8r _ _ (by rw [Q2c,Q2c,z]),<-E] at G;rw [<-Q2c A];refine Qer G ?_ L H ?_ J
 ·rw [D] at y;rw [E];simp only [length_append,Q2c] at y |-;rw [z] at y;exact y
 rw [K];simp [z]
theorem Qti {e:TypeId}{w:World}{B g n c:Nat}{A Z:List Rt}(h:Q08 Q0d 2 e w B (.slice (some ⟨g,0,none⟩) n c) (A++Z)):Q08 Q0d 2 e w B (.slice (some ⟨g,0,none⟩) A.length c) A:=by
 obtain ⟨R,y,H,D,G,E,z⟩:=Qbs h;rw [List.flatMap_append,List.append_assoc] at y z;exact Qer y z (by rw [H] at D;simp at D;omega) E rfl G
theorem Qbr {e:TypeId}{w:World}{B g n c:Nat}{l:List Rt}(h:Q08 Q0d 2 e w B (.slice (some ⟨g,0,none⟩) n c) l)(j:Nat)(E:j<n*2):(w.cell? ⟨g,j,none⟩).isSome=true/\w.frozen? ⟨g,j,none⟩=false:=by
 obtain ⟨R,y,H,I,G,D,z⟩:=Qbs h;refine ⟨?_,y.free _⟩;rw [y.cell,getElem?_eq_getElem (by rw [z];omega)];rfl
theorem Qp9 (g i n c:Nat)(J:i<n)(u:World)(E:∀ j,i*2<=j->j<n*2->(u.cell? ⟨g,j,none⟩).isSome=true/\u.frozen? ⟨g,j,none⟩=false)(I:TypeId):(Builtin.clear_ #[150] I #[.slice (some ⟨g,i*2,none⟩) (n - i) (c - i)]).run Tryz.prog u=.ok (.tuple #[]) (u.setCells g (i*2) ((List.replicate (n - i) (([],[]):Rt)).flatMap Q0d)):=by
 have G:(Builtin.zeroCells (Value.agg #[.string ByteArray.empty,.string ByteArray.empty]).cells (n - i)).toList=(List.replicate (n - i) (([],[]):Rt)).flatMap Q0d:=by
  generalize n - i=m;apply List.ext_getElem?;intro j;have z:(List.replicate m (([],[]):Rt)).flatMap Q0d=List.replicate (m*2) (Value.string ByteArray.empty):=by
   induction m with
   | zero=>rfl
   | succ m ih =>
    rw [List.replicate_succ,List.flatMap_cons,ih,show (m+1)*2=2+m*2 by omega,<-List.replicate_append_replicate];rfl
  rw [z];by_cases h:j<m*2
  ·rw [List.getElem?_replicate,if_pos h];simp only [Builtin.zeroCells,Value.cells];have y:j % 2=0∨j % 2=1:=by omega
   rcases y with y|y<;>simp [h,y]
  rw [List.getElem?_replicate,if_neg h];simp [Builtin.zeroCells,Value.cells];omega
 have hst:=run_storeCells_cells (P:=Tryz.prog) g (i*2) ((List.replicate (n - i) (([],[]):Rt)).flatMap Q0d) 0 u
  (fun j h=>by rw [Q2c,List.length_replicate] at h;exact (E (i*2+0+j) (by omega) (by omega)).1)
  (fun j h=>by rw [Q2c,List.length_replicate] at h;exact (E (i*2+0+j) (by omega) (by omega)).2)
  (fun v D=>by
   obtain ⟨r,_,z⟩:=List.mem_flatMap.1 D;simp only [Q0d,mem_cons,List.not_mem_nil,or_false] at z;rcases z with rfl|rfl<;>rfl)
 simp only [Nat.add_zero] at hst;have D:∀ w,(zeroValue 168).run Tryz.prog w=.ok (.agg #[.string ByteArray.empty,.string ByteArray.empty]) w:=fun w=>by kernel_rfl
 obtain ⟨m,H⟩:∃ m,n - i=m+1:=⟨n - i - 1,by omega⟩;rw [H] at G hst |-;simp [Builtin.clear_,run_underlying elRt.ht,D,G,hst]
theorem Qrt (g n c i:Nat)(y:i<n)(z:n<=c)(x:Int)(h:x=i)(k:IntKind)(w:World):(Instr.slice 150 (.slice (some ⟨g,0,none⟩) n c) (some (.int k x)) none none).run Tryz.prog w=.ok (.slice (some ⟨g,i*2,none⟩) (n - i) (c - i)) w:=by
 subst h;rw [run_slice_l (P:=Tryz.prog) w (t:=150) (a:=some ⟨g,0,none⟩) (len:=n) (cap:=c) (by kernel_rfl) k (i:Int) (by omega) (by omega)];rw [show (sizeOf (Tryz.prog.elem 150)).run Tryz.prog w=.ok 2 w from by kernel_rfl];simp only [Result.andThen_ok,sliced,Int.toNat_natCast,if_neg (show ¬ c=i by omega)];simp [Addr.add]
 try omega
theorem Qum (g n c i:Nat)(y:i<=n)(z:n<=c)(x:Int)(h:x=i)(k:IntKind)(w:World):(Instr.slice 150 (.slice (some ⟨g,0,none⟩) n c) none (some (.int k x)) none).run Tryz.prog w=.ok (.slice (some ⟨g,0,none⟩) i c) w:=by
 subst h;rw [run_slice_h (P:=Tryz.prog) w (t:=150) (a:=some ⟨g,0,none⟩) (len:=n) (cap:=c) (by kernel_rfl) k (i:Int) (by omega) (by omega)];rw [show (sizeOf (Tryz.prog.elem 150)).run Tryz.prog w=.ok 2 w from by kernel_rfl];simp only [Result.andThen_ok,sliced,Int.toNat_natCast];split<;>simp [Addr.add]
theorem Qnw {A X Y Z:List Rt}(h:X.length=Y.length)(m:Nat)(y:A.length+X.length<=m):(A++X++Z).drop m=(A++Y++Z).drop m:=by
 rw [List.drop_append,List.drop_append (l₁:=A++Y),show (A++X).drop m=[] from List.drop_eq_nil_of_le (by simp;omega),show (A++Y).drop m=[] from List.drop_eq_nil_of_le (by simp;omega)];congr 2;simp [h]
def Q4i (p:List UInt8)(l:List Rt):List Rt:=l.filter fun r=>decide (r.1≠p)
theorem Qpg (v:Value)(l:List Rt)(hN:l.length<=1000000000)(p:List UInt8)(PB:Nat)(z w:World)(hp:z.cell? ⟨PB,0,none⟩=some (.string ⟨p.toArray⟩))(h0:Below z.heap.size z w)(h:Q08 Q0d 2 168 w z.heap.size v l) :
  Calls Tryz.prog 137 #[v,.func (.func 139) #[] #[.pointer (some ⟨PB,0,none⟩)]] w fun e w'=>∃ v',e=.returned v'/\Q08 Q0d 2 168 w' z.heap.size v' (Q4i p l)/\Below z.heap.size z w':=by
 obtain ⟨a,c,rfl,bl⟩:=h.form;obtain ⟨n,hn⟩:=Qe (l.length);rw [<-hn] at h |-;have aJ:PB<z.heap.size:=World.block_lt_of_cell? z _ hp;have bm:=Qel;have ci:=Qpc a n c l hn.symm (by omega) p PB w h.row (by rw [h0.cell aJ];exact hp);have cc:=fun (r:Rt) (u:World) (M:Below z.heap.size z u)=>Qqz r p PB u (by rw [M.cell aJ];exact hp);have Cc:=Qhd cc;have Ci:=Qhd ci;have Hn:=Qhd hn;have H:=Qhd h;have bt:n<=1000000000:=by omega
 clear cc hp ci h hN hn;go_enter Tryz.func137,Tryz.ntmps137
 go_wp2_with (go_at_call 161;(with_reducible refine Ci.out.mono ?_);rintro e w2 ⟨x,rfl,b2,hx⟩;rcases hx with ⟨rfl,bb⟩|⟨i,hi,rfl,aK,aL⟩)
 ·go_ret;exact ⟨_,rfl,by rw [show Q4i p l=l from List.filter_eq_self.2 (fun r hr=>by simpa using bb r hr)];exact H.out.kept b2,D00 h0 b2⟩
 have a5:=H.out.kept b2;obtain ⟨g,rfl⟩:∃ g,a=some ⟨g,0,none⟩:=by
  have bs:0<l.length:=by omega
  rcases a5.2 with ⟨N,h3⟩|⟨g',cap,bk,N,_⟩
  ·omega
  simp only [Value.slice.injEq] at N;exact ⟨g',N.1⟩
 have aM:z.heap.size<=g:=a5.lt g rfl;have aF:=D00 h0 b2;have ae:i<n:=by rw [Hn.out];exact hi
 have aS:wrap64 ((i:Int)+1)=((i+1:Nat):Int):=by rw [IntWalk.wrap64_in _ (by omega)];omega
 have b7:((i:Int)==-1)=false:=by rw [beq_eq_false_iff_ne];omega
 have aR:l.take i=Q4i p (l.take (i+1)):=by
  rw [take_succ_eq_append_getElem hi];unfold Q4i;rw [filter_append,List.filter_eq_self.2 (fun r hr=>by simpa using aL r hr)];simp [aK]
 have aD:=Qhd aR;have aO:n<=c:=a5.row.fits.2.1;clear aK aL aR h0 b2 Ci
 go_wp2_with fail
 go_loopw [5,6,7] (fun ix jx _ wr=>∃ (i j:Nat) (L:List Rt),i<j/\j<=n/\ix=.int .i64 (i:Int)/\jx=.int .i64 (j:Int)/\Q08 Q0d 2 168 wr z.heap.size (.slice (some ⟨g,0,none⟩) n c) L/\L.take i=Q4i p (l.take j)/\L.drop j=l.drop j/\L.length=n/\Below z.heap.size z wr) (fun _ jx _ _=>n - (intOf jx).toNat)
 case atStart=>exact ⟨i,i+1,l,by omega,by omega,rfl,by rw [aS],a5,aD.out,rfl,Hn.out.symm,aF⟩
 case round =>
  clear hi ae aS b7 aD a5 aF;obtain ⟨i,j,L,b',bq,rfl,rfl,own,W,hdr,ac,hb⟩:=hrel;obtain ⟨E,rfl⟩:∃ x,x=wr:=⟨wr,rfl⟩;by_cases hlt:j<n
  ·have br:(j:Int)<(n:Int):=by omega
   have b9:(i:Int)<(n:Int):=by omega
   have af:j<L.length:=by omega
   have ag:j<l.length:=by have:=Hn.out;omega
   have ao:L[j]=l[j]:=by
    have h1:L[j]?=l[j]?:=by
     have e1:(L.drop j)[0]?=(l.drop j)[0]?:=by rw [hdr]
     simpa using e1
    rw [getElem?_eq_getElem af,getElem?_eq_getElem ag] at h1;exact Option.some.inj h1
   obtain ⟨b1,o1,e1,Z⟩:=Q05.range (f:=Q0d) (size:=2) (fun _=>rfl) own.row j af;simp only [Option.some.injEq,Addr.mk.injEq,and_true] at e1;obtain ⟨rfl,rfl⟩:=e1;rw [ao,Nat.zero_add] at Z;have O:=Cc.out l[j];have V:l.take (j+1)=l.take j++[l[j]]:=take_succ_eq_append_getElem ag;have ad:L.drop (j+1)=l.drop (j+1):=by
    have:=congrArg (List.drop 1) hdr;simpa [List.drop_drop] using this
   have bv:IntKind.i64.wrap ((j:Int)+1)=((j+1:Nat):Int):=by rw [IntWalk.i64_in _ (by omega)];omega
   have bu:IntKind.i64.wrap ((i:Int)+1)=((i+1:Nat):Int):=by rw [IntWalk.i64_in _ (by omega)];omega
   obtain ⟨q,S⟩:=Qe (decide (l[j].1=p));simp only [<-S] at O;obtain ⟨y,hy⟩:=Qe (l[j]);simp only [<-hy] at Z O S V;obtain ⟨D,G⟩:=y;obtain ⟨I,ap⟩:∃ Y:ByteArray,Y=⟨D.toArray⟩:=⟨_,rfl⟩;obtain ⟨J,aq⟩:∃ Y:ByteArray,Y=⟨G.toArray⟩:=⟨_,rfl⟩;have T:Q0d (D,G)=[.string I,.string J]:=by rw [ap,aq];rfl
   rw [T] at Z;simp only [T] at O;have bA:Below E.heap.size E (E.alloc (.cells #[.string I,.string J] 168)):=Qba _ _;have zA:=D01 E 168 [.string I,.string J];have aC:=Qhd (O _ (D00 hb bA));have R1:=Qhd Z;have aZ:=Qhd W;have bi:=Qhd V;have aW:=Qhd ad;have aV:=Qhd ac;have bh:=Qhd T;cases q with
   | true =>
    have a4:D=p:=by simpa using S.symm
    have ah:Hid (Q4i p (l.take (j+1))=Q4i p (l.take j)):=Qhd (by
     rw [V];unfold Q4i;rw [filter_append];simp [a4])
    clear O Z W V ad ac hdr S ap aq T a4 hlt af ao hy ag
    go_wp2_with (first
     |(refine Qlw 168 24 g (j*2) Q0y (by rfl) R1.out ?_)
     |((with_reducible refine Qgl 27 ?_);refine Qla 168 7 E.heap.size Q0y zA (by rfl) ?_)
     |(go_at_call 139;(with_reducible refine aC.out.mono ?_);rintro e w3 ⟨rfl,b3⟩;have a1:=D00 bA b3;have a6:=own.kept a1;have a9:=D00 hb a1))
    go_roundw
    case rel=>(repeat apply Exists.intro);refine And.intro ?_ rfl;exact ⟨i,j+1,L,by omega,by omega,rfl,by go_num,a6,by rw [ah.out];exact aZ.out,aW.out,aV.out,a9⟩
    case measure=>simp [intOf];omega
   | false =>
    have a4:D≠p:=by simpa using S.symm
    have ah:Hid (Q4i p (l.take (j+1))=Q4i p (l.take j)++[(D,G)]):=Qhd (by
     rw [V];unfold Q4i;rw [filter_append];simp [a4])
    have aN:i<L.length:=by omega
    have aw:L=L.take i++[L[i]]++L.drop (i+1):=by
     rw [List.append_assoc,List.singleton_append,<-List.drop_eq_getElem_cons aN,List.take_append_drop]
    have K:(L.take i).length=i:=by rw [length_take];omega
    have bc:Hid (∀ u:World,Q08 Q0d 2 168 u z.heap.size (.slice (some ⟨g,0,none⟩) n c) L->Q08 Q0d 2 168 (u.setCells g (i*2) [.string I,.string J]) z.heap.size (.slice (some ⟨g,0,none⟩) n c) (L.take i++[(D,G)]++L.drop (i+1))):=Qhd (fun u M=>by
     rw [aw] at M;have:=Qli (Y:=[(D,G)]) M rfl;rw [K] at this;rw [show ([(D,G)]:List Rt).flatMap Q0d=[.string I,.string J] from by rw [<-T];simp] at this;exact this)
    have U:Hid ((L.take i++[(D,G)]++L.drop (i+1)).take (i+1)=Q4i p (l.take (j+1))/\(L.take i++[(D,G)]++L.drop (i+1)).drop (j+1)=l.drop (j+1)/\(L.take i++[(D,G)]++L.drop (i+1)).length=n):=Qhd (by
     refine ⟨?_,?_,?_⟩
     ·rw [ah.out,<-W,List.take_left' (by rw [length_append,K];rfl)]
     ·rw [Qnw (X:=[(D,G)]) (Y:=[L[i]]) (A:=L.take i) rfl (j+1) (by rw [K];simp;omega),<-aw];exact ad
     simp only [length_append,List.length_drop,K,length_singleton];omega)
    have aP:∀ u∈[Value.string I,Value.string J],u.oneCell'=true:=by
     intro u M;simp only [mem_cons,List.not_mem_nil,or_false] at M;rcases M with rfl|rfl<;>rfl
    have aX:=Qhd aP;clear O Z W V ad ac hdr S ap aq T a4 hlt af ao hy ag aP aw K ah aN
    go_wp2_with (first
     |(refine Qlw 168 24 g (j*2) Q0y (by rfl) R1.out ?_)
     |((with_reducible refine Qgl 27 ?_);refine Qla 168 7 E.heap.size Q0y zA (by rfl) ?_)
     |(go_at_call 139;(with_reducible refine aC.out.mono ?_);rintro e w3 ⟨rfl,b3⟩;have a1:=D00 bA b3;have a6:=own.kept a1;have a9:=D00 hb a1;have bg:=zA.kept b3;have bd:w3.there g (i*2) 2:=(fun j hj=>⟨(Qbr a6 (i*2+j) (by omega)).1,(Qbr a6 (i*2+j) (by omega)).2⟩);have aT:=bc.out _ a6;have aG:Below z.heap.size z (w3.setCells g (i*2) [.string I,.string J]):=a9.grown (Q2r [.string I,.string J] (i*2) ⟨rfl,rfl,rfl,le_refl _,fun _ _ _=>rfl⟩) a9.size (fun k hk=>by cases hk;exact aM))
     |((with_reducible refine Qgl 32 ?_);refine Qla 168 7 E.heap.size Q0y bg (by rfl) ?_)
     |((with_reducible refine Qgs 32 ?_);refine wpList_store_mid (by rfl) 168 (.tmp 33) (.tmp 32) (by rfl) g (i*2) #[.string I,.string J] (by rfl) (by rfl) bd (by kernel_rfl) (all_oneCell_toArray aX.out) ?_))
    go_roundw
    case rel=>first|exact ⟨i+1,j+1,_,by omega,by omega,by go_num,by go_num,aT,U.out.1,U.out.2.1,U.out.2.2,aG⟩|(repeat apply Exists.intro);refine And.intro ?_ rfl;exact ⟨i+1,j+1,_,by omega,by omega,by go_num,by go_num,aT,U.out.1,U.out.2.1,U.out.2.2,aG⟩
    case measure=>simp [intOf];omega
  obtain rfl:n=j:=by omega
  have ae:i<n:=b';have bx:=Qrt g n c i ae aO (i:Int) rfl;have bz:=Qum g n c i (by omega) aO (i:Int) rfl;have b6:=Qp9 g i n c ae E (fun j bp ba=>Qbr own j ba);have b9:(i:Int)<=(n:Int):=by omega
  have bn:(i:Int)<=(c:Int):=by omega
  obtain ⟨CZ,an⟩:=Qe ((List.replicate (n - i) (([],[]):Rt)).flatMap Q0d);have K:(L.take i).length=i:=by rw [length_take];omega
  have aQ:Q08 Q0d 2 168 (E.setCells g (i*2) CZ) z.heap.size (.slice (some ⟨g,0,none⟩) i c) (Q4i p l):=by
   have h1:L=L.take i++L.drop i++[]:=by simp
   rw [h1] at own;have N:=Qli (Y:=List.replicate (n - i) (([],[]):Rt)) own (by rw [List.length_drop,List.length_replicate];omega);rw [K,<-an,List.append_nil] at N;have h3:=Qti N;rw [K,W,show l.take n=l from by rw [Hn.out,take_length]] at h3;exact h3
  have b5:Below z.heap.size z (E.setCells g (i*2) CZ):=hb.grown (Q2r CZ (i*2) ⟨rfl,rfl,rfl,le_refl _,fun _ _ _=>rfl⟩) hb.size (fun k hk=>by cases hk;exact aM);rw [<-an] at b6;have aY:=Qhd aQ;clear own W hdr hlt an aQ ac K
  go_wp2_with fail
  go_ret;exact ⟨_,rfl,aY.out,b5⟩
end Go.Proofs.YtbdmkfjgnjfjbaaGreat
namespace Go.Proofs
open Go.Shelf
shelf_lay Lays.n106 Nm 106 at Tryz as Tryz.strCmp
end Go.Proofs
namespace Go.Proofs.YtbdmkfjgnjfjbaaGreat
open Go.RowKit Go.Shelf Go.Lib Go.Sort
shelf_lay_g SlLaysF0.n6 Slsf 6 at Tryz 140 as Tryz.sortRts
theorem Qpj (x y:Rt)(W:World):Calls Tryz.prog 141 #[.agg (Q0d x).toArray,.agg (Q0d y).toArray] W fun e w'=>e=.returned (.int .i64 (Lib.compareBytes x.1 y.1))/\∃ q os',w'=grow (W.drewN q) os':=by
 obtain ⟨z,J⟩:=x;obtain ⟨D,K⟩:=y;have h:=fun G=>Any.strings_Compare Tryz.strCmp ⟨z.toArray⟩ ⟨D.toArray⟩ G;change ∀ G,Calls Tryz.prog 142 _ _ _ at h;dsimp only at h;obtain ⟨R,E⟩:=Qe (Lib.compareBytes z D);rw [<-E] at h;show Calls Tryz.prog 141 #[.agg #[.string ⟨z.toArray⟩,.string ⟨J.toArray⟩],.agg #[.string ⟨D.toArray⟩,.string ⟨K.toArray⟩]] W fun e w'=>e=.returned (.int .i64 (Lib.compareBytes z D))/\∃ q os',w'=grow (W.drewN q) os';rw [<-E];clear E;obtain ⟨L,H⟩:∃ X:ByteArray,X=⟨z.toArray⟩:=⟨_,rfl⟩;obtain ⟨M,I⟩:∃ X:ByteArray,X=⟨D.toArray⟩:=⟨_,rfl⟩;simp only [<-H,<-I] at h |-;clear H I;go_enter Tryz.func141,Tryz.ntmps141
 go_wp2_with (go_at_call 142;refine (h _).mono ?_;rintro e w' ⟨rfl,rfl⟩)
 go_ret;exact ⟨rfl,0,_,by rw [alloc_eq_grow,alloc_eq_grow,grow_grow];rfl⟩
theorem Qp8 {w:World}{B g n c:Nat}{ls:List Rt}(h:Q08 Q0d 2 168 w B (.slice (some ⟨g,0,none⟩) n c) ls):HoldsK Q0d 2 w g 0 ls.toArray:=by
 obtain ⟨N,y⟩:=h;rcases y with ⟨y,K⟩|⟨M,cap,G,y,K,H,O,S,T,L⟩
 ·cases y
 simp only [Value.slice.injEq,Option.some.injEq,Addr.mk.injEq,and_true] at y;obtain ⟨rfl,rfl,rfl⟩:=y;intro j z;rw [size_flatK,size_toArray] at z;rw [get_flatK Q0d 2 _ j (by simpa using z)];have I:j / 2<ls.length:=(Nat.div_lt_iff_lt_mul (by omega)).2 z;have E:j % 2<2:=mod_lt _ (by omega);have D:=Q89 (f:=Q0d) (size:=2) (fun _=>rfl) ls (j / 2) I (j % 2) E;rw [show j / 2*2+j % 2=j by omega,<-L,List.getElem?_take,if_pos z] at D;refine ⟨?_,frozen_of_row w g (0+j) G _ H⟩;rw [cell_of_row w g (0+j) G _ (0,0) H,Nat.zero_add];rw [Array.getElem?_toList] at D;have J:(Q0d ls[j / 2]).length=2:=rfl;rw [D,getElem!_pos ls.toArray (j / 2) (by simpa using I),List.getElem_toArray,getElem?_eq_getElem (by rw [J];exact E),getElem!_pos (Q0d ls[j / 2]) (j % 2) (by rw [J];exact E)];rfl
theorem Qth {w:World}{g n c:Nat}{ls:List Rt}(h:HoldsK Q0d 2 w g 0 ls.toArray)(L:ls.length=n)(M:n<=c)(K:c<=maxLen):Q05 Q0d 2 w (.slice (some ⟨g,0,none⟩) n c) ls:=by
 subst L;have I:=Q2c ls;refine ⟨I,_,_,rfl,M,K,Or.inr ⟨g,0,none,rfl,.inl rfl,fun j u J=>?_⟩⟩;have G:=(List.getElem?_eq_some_iff.1 J).1;rw [I] at G;have D:j / 2<ls.length:=(Nat.div_lt_iff_lt_mul (by omega)).2 G;have y:j % 2<2:=mod_lt _ (by omega);have z:=Q89 (f:=Q0d) (size:=2) (fun _=>rfl) ls (j / 2) D (j % 2) y;rw [show j / 2*2+j % 2=j by omega,J] at z;have E:=(h.cell (i:=j / 2) (c:=j % 2) (by simpa using D) y).1;rw [show 0+j / 2*2+j % 2=0+j by omega] at E;have H:(Q0d ls[j / 2]).length=2:=rfl;rw [E,getElem!_pos ls.toArray (j / 2) (by simpa using D),List.getElem_toArray,getElem!_pos (Q0d ls[j / 2]) (j % 2) (by rw [H];exact y)];rw [getElem?_eq_getElem (by rw [H];exact y)] at z;exact z.symm
theorem Qgf {B:Nat}{D w:World}(h:Go.RowKit.Below B D w)(g m:Nat)(E:B<=g)(G:g<w.heap.size)(d:Array Rt)(z:Array Obj):Go.RowKit.Below B D (sortWorldK Q0d 2 w g 0 m d z):=by
 refine ⟨h.os,h.tape,h.output,Nat.le_trans h.size (size_sortWorldK_c Q0d 2 w g 0 m d z),fun k y=>?_⟩;rw [<-h.block k y];have H:k<w.heap.size:=Nat.lt_trans (Nat.lt_of_lt_of_le y E) G;unfold sortWorldK grow putRowK putRow mapBlock;simp only [Array.getElem?_append,Array.size_modify,heap_ahead];rw [if_pos H,Array.getElem?_modify,if_neg (by omega)]
theorem Qlj (v:Value)(l:List Rt)(D w:World)(hl:l.length<=1000000000)(L:Go.RowKit.Below D.heap.size D w)(h:Q08 Q0d 2 168 w D.heap.size v l) :
  Calls Tryz.prog 140 #[v,.func (.func 141) #[] #[]] w fun e w'=>e=.returned (.tuple #[])/\∃ z:Array Rt,PermIn 0 l.toArray.size l.toArray z/\SortedIn rtLt 0 l.toArray.size z/\Q05 Q0d 2 w' v z.toList/\Go.RowKit.Below D.heap.size D w':=by
 have S:=h;obtain ⟨a8,E⟩:=S;rcases E with ⟨E,H⟩|⟨g,cap,a4,E,H,h4,T,U,h7,h8⟩
 ·subst E;have a1:l=[]:=List.eq_nil_of_length_eq_zero H;subst a1;have G:=AnyF.slices_SortFunc_none Tryz.sortRts none 0 (.func (.func 141) #[] #[]) w;refine Calls.mono G ?_;rintro e w' ⟨rfl,rfl⟩;exact ⟨rfl,#[],⟨rfl,fun _ _=>rfl,List.Perm.refl _⟩,fun i j _ _ hj=>absurd hj (by simp),Q05.nil Q0d 2 _,L⟩
 subst E;have M:=Qp8 h;have O:∀ args w,(callFunc 141 args).run Tryz.prog w=.ok (.enter 141 args) w:=enters_of Tryz.func141 (by kernel_rfl) rfl;have V:CmpLays Tryz.prog 141 #[] Q0d 2 (fun x y=>Lib.compareBytes x.1 y.1) g 0 l.toArray.size w:=fun _ _ _ _ x y=>Qpj x y _;have I:g<w.heap.size:=by
  have:=h.row;exact (World.ownsRow.lt h g rfl).2
 have G:=AnyQ.slices_SortFunc Tryz.sortRts 2 Tryz.isAgg168 Tryz.sizeOf168 Q0d (fun _=>rfl) (fun x v N=>by simp [Q0d] at N;rcases N with rfl|rfl<;>rfl) (fun x y=>Lib.compareBytes x.1 y.1) Qtg 141 #[] g 0 cap l.toArray w O V M I (by simp;omega);rw [size_toArray] at G;refine Calls.mono G ?_;rintro e w' ⟨rfl,z,m,K,J,hs,rfl⟩;rw [size_toArray];refine ⟨rfl,z,J,hs,?_,Qgf L g m H I z K⟩;have W:=holdsK_sortWorldK_c Q0d 2 w g 0 l.toArray z m K M I J.1;have a3:z.toList.length=l.length:=by have:=J.1;simpa using this
 have Z:HoldsK Q0d 2 (sortWorldK Q0d 2 w g 0 m z K) g 0 z.toList.toArray:=by simpa using W
 exact Qth Z a3 T U
end Go.Proofs.YtbdmkfjgnjfjbaaGreat
namespace Go.Proofs.YtbdmkfjgnjfjbaaGreat
open Go.RowKit
def Qug (l:List Rt)(w:World)(e:Ending)(w':World):Prop:=∃ (a:Option Addr) (n c:Nat),e=.returned (.slice a n c)/\Q05 Q0d 2 w' (.slice a n c) l/\Below w.heap.size w w'
theorem Q8v {l:List Rt}(h:Ord l)(p v:List UInt8)(m:List Rt)(z:m=Q4i p l++(if v=[] then [] else [(p,v)]))(y:Array Rt)(D:Sort.PermIn 0 m.toArray.size m.toArray y)(E:Sort.SortedIn rtLt 0 m.toArray.size y):y.toList=Q1k l p v :=
 Ql2 h p v (d:=m.toArray) (by rw [z];rfl) D E
theorem Qdt (a ka va:Option Addr)(L c V kc S vc:Nat)(l:List Rt)(M v:List UInt8)(hL:l.length=L)(aZ:L<=100000000)(ho:Ord l)(ae:M.length=V)(b0:V<=1000000000)(ag:v.length=S)(w:World)(h:Q05 Q0d 2 w (.slice a L c) l)(hk:Q02 w (.slice ka V kc) M)(hv:Q02 w (.slice va S vc) v) :
  Calls Tryz.prog 111 #[.slice a L c,.slice ka V kc,.slice va S vc] w (Qug (Q1k l (Q0c M) v) w):=by
 have c1:=Q3e ka kc M w (by rw [ae];exact hk) (by omega);rw [ae] at c1;obtain ⟨P,hP⟩:=Qe (Q0c M);rw [<-hP] at c1 |-;have c2:=fun (u:World) (hu:Below w.heap.size w u)=>Qjg a L c l hL u (h.below hu) (by omega);have aD:(Q4i P l).length<=l.length:=List.length_filter_le _ _;have c3:=fun (x:Value) (W0 u:World) (y:Nat) (K:W0.cell? ⟨y,0,none⟩=some (.string ⟨P.toArray⟩)) (h0:Below W0.heap.size W0 u) (hx:Q08 Q0d 2 168 u W0.heap.size x l)=>Qpg x l (by omega) P y W0 u K h0 hx;have c4:=fun (x:Value) (W0 u:World) (m:List Rt) (hm:m.length<=l.length+1) (h0:Below W0.heap.size W0 u) (hx:Q08 Q0d 2 168 u W0.heap.size x m)=>Qlj x m W0 u (by omega) h0 hx;have C1:=Qhd c1;have C2:=Qhd c2;have W:=Qhd c3;have C4:=Qhd c4;have U:=Qhd aD;have HL:=Qhd hL;have Ho:=Qhd ho;have Hv:=Qhd hv;have hst:=fun u:World=>Q0q (P:=Tryz.prog) (w:=u) (src:=25) (dst:=9) elU8.ht (by kernel_rfl) (by kernel_rfl) (v:=.slice va S vc) (l:=v);have a3:=Qhd hst;have aW:=Qhd ag;clear c1 c2 c3 c4 aD hL ho hk hP ae h hv hst;obtain ⟨y,ac⟩:∃ X:ByteArray,X=⟨P.toArray⟩:=⟨_,rfl⟩;have a2:=Qhd ac;simp only [<-ac] at W;clear ac;by_cases hv0:v=[]
 ·subst hv0;simp only [List.length_nil] at ag;subst ag;clear Hv a3;go_enter Tryz.func111,Tryz.ntmps111
  go_wp2_with (first
   |(go_at_call 95;(with_reducible refine C1.out.mono ?_);rintro e z ⟨v1,rfl,N,J⟩;obtain ⟨a1,c1,rfl,_⟩:=N.form;have O:=Q0q (P:=Tryz.prog) (src:=25) (dst:=9) elU8.ht (by kernel_rfl) (by kernel_rfl) N.row;simp only [str] at O;rw [<-a2.out] at O;obtain ⟨D,E⟩:=Qe (z.alloc (.cells #[.string y] 9));have T:D.cell? ⟨z.heap.size,0,none⟩=some (.string y):=(by rw [E];exact (D01 z _ _).cell 0);have H:Below w.heap.size w D:=(by rw [E];exact J.alloc J.size _);have a4:=Qhd E;clear E)
   |(go_at_call 138;rw [<-a4.out];(with_reducible refine (C2.out _ H).mono ?_);rintro e w3 ⟨v3,rfl,o3,b3⟩;have Z:=Qhd (W.out v3 D w3 z.heap.size T b3 o3))
   |(go_at_call 137;(with_reducible refine Z.out.mono ?_);rintro e G ⟨v4,rfl,o4,I⟩;have C6:=Qhd (C4.out v4 D G _ (by have:=U.out;omega) I o4))
   |(go_at_call 140;(with_reducible refine C6.out.mono ?_);rintro e w5 ⟨rfl,d',K,hs,r5,b5⟩))
  obtain ⟨a5,n5,rfl,_⟩:=r5.form;go_ret;exact ⟨_,_,_,rfl,by rw [<-Q8v Ho.out P [] (Q4i P l) (by simp) d' K hs];exact r5,D00 H b5⟩
 have b7:(0:Int)<(S:Int):=by
  have:=List.length_pos_iff.2 hv0;omega
 obtain ⟨VB,ad⟩:∃ X:ByteArray,X=⟨v.toArray⟩:=⟨_,rfl⟩;simp only [<-ad,str] at a3;have aB:∀ u:World,Q05 Q0d 2 (u.alloc (.cells #[.string y,.string VB] 168)) (.slice (some ⟨u.heap.size,0,none⟩) 1 1) [(P,v)]:=by
  rw [a2.out,ad];exact fun u=>D02 (f:=Q0d) (size:=2) (fun _=>rfl) u 168 [(P,v)] 1 rfl (by unfold maxLen;omega)
 have aL:=Qhd aB;have aM:=Qhd hv0;clear hv0 aB ad;have aR:Hid (((Q4i P l).length+[(P,v)].length)*32<=140737488355328):=Qhd (by have:=U.out;have:=HL.out;simp only [length_singleton];omega);have aS:Hid ((Q4i P l).length+[(P,v)].length<=maxLen):=Qhd (by have:=U.out;have:=HL.out;unfold maxLen;simp only [length_singleton];omega);go_enter Tryz.func111,Tryz.ntmps111
 go_wp2_with (first
  |(go_at_call 95;(with_reducible refine C1.out.mono ?_);rintro e z ⟨v1,rfl,N,J⟩;obtain ⟨a1,c1,rfl,_⟩:=N.form;have O:=Q0q (P:=Tryz.prog) (src:=25) (dst:=9) elU8.ht (by kernel_rfl) (by kernel_rfl) N.row;simp only [str] at O;rw [<-a2.out] at O;obtain ⟨D,E⟩:=Qe (z.alloc (.cells #[.string y] 9));have T:D.cell? ⟨z.heap.size,0,none⟩=some (.string y):=(by rw [E];exact (D01 z _ _).cell 0);have H:Below w.heap.size w D:=(by rw [E];exact J.alloc J.size _);have a4:=Qhd E;clear E)
  |(go_at_call 138;rw [<-a4.out];(with_reducible refine (C2.out _ H).mono ?_);rintro e w3 ⟨v3,rfl,o3,b3⟩;have Z:=Qhd (W.out v3 D w3 z.heap.size T b3 o3))
  |(go_at_call 137;(with_reducible refine Z.out.mono ?_);rintro e G ⟨v4,rfl,o4,I⟩;have z4:G.cell? ⟨z.heap.size,0,none⟩=some (.string y):=(by rw [I.cell (World.block_lt_of_cell? D _ T)];exact T);have aP:=D00 H I;have s4:=a3.out G (Hv.out.below aP);have aG:=o4.kept ((Below.refl G.heap.size G).alloc (le_refl _) (.cells #[.string y,.string VB] 168));have bA:=I.alloc I.size (.cells #[.string y,.string VB] 168))
  |(refine Q0x (o:=⟨some 24,_,_,_,_,_⟩) (by rfl) (.tmp 18) (.tmp 23) 150 (by rfl) elRt (by rfl) aG (by rfl) (aL.out G) bA.size aR.out aS.out ?_;intro v5 w5 o5 g5 _;have b5:=bA.grown g5 bA.size aG.lt;have C6:=Qhd (C4.out v5 D w5 _ (by have:=U.out;simp only [length_append,length_singleton];omega) b5 o5))
  |(go_at_call 140;(with_reducible refine C6.out.mono ?_);rintro e w6 ⟨rfl,d',K,hs,r6,b6⟩))
 obtain ⟨a6,n6,rfl,_⟩:=r6.form;go_ret;exact ⟨_,_,_,rfl,by rw [<-Q8v Ho.out P v (Q4i P l++[(P,v)]) (by rw [if_neg aM.out]) d' K hs];exact r6,D00 H b6⟩
def putE (kn vn:Nat):Int:=if 32<kn then 3 else if 1024<vn then 2 else 0
theorem Qdz (I K:Option Addr)(h J y L:Nat)(w:World):Calls Tryz.prog 110 #[.slice I h J,.slice K y L] w fun e w'=>e=.returned (.int .i64 (putE h y))/\w'=w:=by
 obtain ⟨R,D⟩:=Qe (putE h y);rw [<-D];unfold putE at D;have E:=Qhd D;clear D;by_cases h1:32<h
 ·have z:R=3:=by rw [E.out,if_pos h1]
  subst z;have G:(32:Int)<(h:Int):=by omega
  clear h1;go_enter Tryz.func110,Tryz.ntmps110
  go_wp2_with fail
  go_ret;exact ⟨rfl,rfl⟩
 have G:¬ (32:Int)<(h:Int):=by omega
 by_cases h2:1024<y
 ·have z:R=2:=by rw [E.out,if_neg h1,if_pos h2]
  subst z;have H:(1024:Int)<(y:Int):=by omega
  clear h1 h2;go_enter Tryz.func110,Tryz.ntmps110
  go_wp2_with fail
  go_ret;exact ⟨rfl,rfl⟩
 have z:R=0:=by rw [E.out,if_neg h1,if_neg h2]
 subst z;have H:¬ (1024:Int)<(y:Int):=by omega
 clear h1 h2;go_enter Tryz.func110,Tryz.ntmps110
 go_wp2_with fail
 go_ret;exact ⟨rfl,rfl⟩
structure Kvp where
 kv:Value
 k:List UInt8
 vv:Value
 v:List UInt8
def kvc (p:Kvp):List Value:=[p.kv,p.vv]
theorem Q9e (p:Kvp):(kvc p).length=2:=rfl
theorem Qa4:Agg Tryz.prog 107 2:=⟨_,Tryz.underlying107,rfl,by kernel_rfl⟩
def IsKv (w:World)(p:Kvp):Prop:=Q02 w p.kv p.k/\Q02 w p.vv p.v
theorem IsKv.kept {w w':World}{p:Kvp}(h:IsKv w p)(y:Below w.heap.size w w'):IsKv w' p:=⟨h.1.below y,h.2.below y⟩
def Q6t (p:Kvp):Prop:=p.k.length<=32/\p.v.length<=1024
def trB (ps:List Kvp):Pn:=ps.foldl (fun T p=>putQ T (Q0c p.k) p.v) nP
def rlB (ps:List Kvp):List Rt:=ps.foldl (fun l p=>Q1k l (Q0c p.k) p.v) []
def bldE:List Kvp->Int
 | []=>0
 | p::ps=>if 32<p.k.length then 3 else if 1024<p.v.length then 2 else bldE ps
def bldP (ps:List Kvp):Pn × Int:=if bldE ps=0 then (trB ps,0) else (nP,bldE ps)
theorem Qov (ps:List Kvp)(i:Nat)(h:i<ps.length):trB (ps.take (i+1))=putQ (trB (ps.take i)) (Q0c ps[i].k) ps[i].v:=by
 unfold trB;rw [take_succ_eq_append_getElem h,List.foldl_append];rfl
theorem Qpw (ps:List Kvp)(i:Nat)(h:i<ps.length):rlB (ps.take (i+1))=Q1k (rlB (ps.take i)) (Q0c ps[i].k) ps[i].v:=by
 unfold rlB;rw [take_succ_eq_append_getElem h,List.foldl_append];rfl
theorem Qa1:∀ (ps:List Kvp)(i:Nat),(∀ p∈ps.take i,Q6t p)->bldE ps=bldE (ps.drop i)
 | ps,0,_=>rfl
 | [],i+1,_=>rfl
 | p::ps,i+1,h=>by
  have y:=h p List.mem_cons_self;have z:=Qa1 ps i (fun q D=>h q (List.mem_cons_of_mem _ D));unfold Q6t at y;show (if 32<p.k.length then (3:Int) else if 1024<p.v.length then 2 else bldE ps)=bldE (ps.drop i);rw [if_neg (by omega),if_neg (by omega),z]
theorem Qo7 (ps:List Kvp)(i:Nat)(y:i<ps.length)(h:∀ p∈ps.take i,Q6t p):bldE ps=if 32<ps[i].k.length then 3 else if 1024<ps[i].v.length then 2 else bldE (ps.drop (i+1)):=by
 rw [Qa1 ps i h,List.drop_eq_getElem_cons y];rfl
theorem Qik (ps:List Kvp)(h:∀ p∈ps,Q6t p):bldE ps=0:=by
 rw [Qa1 ps ps.length (by rw [take_length];exact h),List.drop_length];rfl
theorem Qbd:∀ (ps:List Kvp)(l:List Rt)(T:Pn),Q1c l T->Ord l->(∀ r∈l,r.1.length<=64/\r.2.length<=1024)->(∀ p∈ps,Q6t p) ->
  Q1c (ps.foldl (fun l p=>Q1k l (Q0c p.k) p.v) l) (ps.foldl (fun T p=>putQ T (Q0c p.k) p.v) T)/\Ord (ps.foldl (fun l p=>Q1k l (Q0c p.k) p.v) l)/\(∀ r∈ps.foldl (fun l p=>Q1k l (Q0c p.k) p.v) l,r.1.length<=64/\r.2.length<=1024)/\(ps.foldl (fun l p=>Q1k l (Q0c p.k) p.v) l).length<=l.length+ps.length
 | [],l,T,h1,h2,h3,_=>⟨h1,h2,h3,by simp⟩
 | p::ps,l,T,h1,h2,h3,h4=>by
  have y:=h4 p List.mem_cons_self;have G:=Q9k p.k;have D:(Q1k l (Q0c p.k) p.v).length<=l.length+1:=by
   unfold Q1k;split
   ·exact Nat.le_succ_of_le (List.length_filter_le _ _)
   rw [(Q88 _ _).length_eq,List.length_cons];exact Nat.succ_le_succ (List.length_filter_le _ _)
  have:=Qbd ps (Q1k l (Q0c p.k) p.v) (putQ T (Q0c p.k) p.v) (Qdx h1 _ _ (Q7o _)) (Qhr h2 _ _) (fun r h=>by
   rcases Qhf h with h|rfl
   ·exact h3 r h
   unfold Q6t at y;exact ⟨by show (Q0c p.k).length<=64;omega,y.2⟩) (fun q z=>h4 q (List.mem_cons_of_mem _ z))
  refine ⟨this.1,this.2.1,this.2.2.1,?_⟩;have E:=this.2.2.2;simp only [List.foldl_cons,List.length_cons];omega
theorem Q6b (ps:List Kvp)(h:∀ p∈ps,Q6t p):Q1c (rlB ps) (trB ps)/\Ord (rlB ps)/\(∀ r∈rlB ps,r.1.length<=64/\r.2.length<=1024)/\(rlB ps).length<=ps.length:=by
 have:=Qbd ps [] nP .none List.Pairwise.nil (fun r z=>by simp at z) h;refine ⟨this.1,this.2.1,this.2.2.1,?_⟩;have y:=this.2.2.2;simpa [rlB] using y
def Qok (R:Pn × Int)(w:World)(e:Ending)(w':World):Prop:=∃ y:Nd,e=.returned (.tuple #[.agg (Q04 y).toArray,.int .i64 R.2])/\Q2a w' w.heap.size y/\erN y=R.1/\Below w.heap.size w w'
theorem Qlz {ps:List Kvp}{T:Pn}{E:Int}{w:World}(h:bldP ps=(T,E))(y:Nd)(u:World)(G:Q2a u w.heap.size y)(D:erN y=T)(z:Below w.heap.size w u):Qok (bldP ps) w (.returned (.tuple #[.agg (Q04 y).toArray,.int .i64 E])) u:=by
 rw [h];exact ⟨y,rfl,G,D,z⟩
theorem Qts (a:Option Addr)(n c:Nat)(ps:List Kvp)(hn:ps.length=n)(hN:n<=1048576)(w:World)(h:Q05 kvc 2 w (.slice a n c) ps)(hk:∀ p∈ps,IsKv w p) :
  Calls Tryz.prog 76 #[.slice a n c] w (Qok (bldP ps) w):=by
 obtain ⟨S,ac⟩:=Qe (w.alloc (.cells (Q04 zN).toArray 70));have hz:Blk 70 S w.heap.size (Q04 zN):=by rw [ac];exact D01 w _ _
 have aw:Below w.heap.size w S:=by rw [ac];exact Qba _ _
 have aV:S=w.alloc (.cells #[.int .i64 0,.slice none 0 0,.slice none 0 0,.slice none 0 0] 70):=by rw [ac];rfl
 have be:=Qhd aV;have aT:∀ u∈Q04 zN,u.oneCell'=true:=by intro u U;simp [Qgo] at U;rcases U with rfl|rfl<;>rfl
 have V:(Q04 zN).length=4:=rfl;have bI:w.heap.size<S.heap.size:=by rw [ac];simp
 have Hn:=Qhd hn;have H:=Qhd (h.below aw);have Hk:Hid (∀ p∈ps,IsKv S p):=Qhd (fun p z=>(hk p z).kept aw);clear ac aV h hk hn;go_enter Tryz.func76,Tryz.ntmps76
 go_wp2_with fail
 rw [show w.alloc (.cells #[.int .i64 0,.slice none 0 0,.slice none 0 0,.slice none 0 0] 70)=S from be.out.symm]
 go_loopw [4,9] (fun nx ix wr=>∃ (i:Nat) (t:Nd),i<=n/\ix=.int .i64 (i:Int)/\nx=nv t/\IsNv wr t/\clN t=trB (ps.take i)/\(∀ p∈ps.take i,Q6t p)/\Below S.heap.size S wr) (fun _ ix _=>n - (intOf ix).toNat)
 case atStart=>exact ⟨0,nilN,by omega,rfl,rfl,IsNv.nil _,rfl,by simp,Below.refl _ _⟩
 case round =>
  obtain ⟨i,t,bK,rfl,aS,a2,a0,T,ab⟩:=hrel;obtain ⟨L,rfl⟩:∃ x,x=wr:=⟨wr,rfl⟩;have aH:=Qhd aS;clear aS;have ap:=D00 aw ab;have zz:=hz.kept ab;have D:=Q6b (ps.take i) T;rw [<-a0] at D;by_cases hlt:i<n
  ·have bL:(i:Int)<(n:Int):=by omega
   have a1:i<ps.length:=by rw [Hn.out];exact hlt
   obtain ⟨b1,o1,rfl,r1⟩:=Q05.range Q9e (H.out.below ab) i a1;obtain ⟨G,O⟩:=(Hk.out _ (List.getElem_mem a1)).kept ab;have Z:=Qo7 ps i a1 T;have hst:=Qov ps i a1;have ax:Q6t ps[i]->∀ p∈ps.take (i+1),Q6t p:=fun hf p z=>by
    rw [take_succ_eq_append_getElem a1] at z;rcases mem_append.1 z with z|z
    ·exact T p z
    rw [mem_singleton] at z;rw [z];exact hf
   obtain ⟨p,z⟩:=Qe (ps[i]);rw [<-z] at r1 G O Z hst ax;obtain ⟨kv,I,vv,v⟩:=p;dsimp only at G O Z hst;obtain ⟨ka,kc,rfl,_⟩:=G.form;obtain ⟨va,vc,rfl,_⟩:=O.form;obtain ⟨N,ay⟩:=Qe (I.length);obtain ⟨J,aA⟩:=Qe (v.length);rw [<-ay] at G Z r1;rw [<-aA] at O Z r1;have aU:L.rangeAt b1 (o1+i*2) [.slice ka N kc,.slice va J vc]:=r1;have bM:IntKind.i64.wrap ((i:Int)+1)=((i+1:Nat):Int):=by rw [IntWalk.i64_in _ (by omega)];omega
   obtain ⟨E,aj⟩:=Qe (L.alloc (.cells #[.slice ka N kc,.slice va J vc] 107));have zp:Blk 107 E L.heap.size [.slice ka N kc,.slice va J vc]:=by rw [aj];exact D01 L _ _
   have W:Below L.heap.size L E:=by rw [aj];exact Qba _ _
   have aL:=D00 ap W;have aZ:=zz.kept W;have am:=Qhd aU;have HE:=Qhd Z;have bd:=Qhd hst;have b':=Qhd a0;have bb:=Qhd ax;have an:=Qhd aj;have a8:=Qhd ay;have aJ:=Qhd aA;clear r1 aU Z hst aj z hlt a1 a0 T ax ay aA;by_cases h32:32<N
   ·have M:bldP ps=(nP,3):=by
     unfold bldP;rw [HE.out,if_pos h32];rfl
    have a9:=Qhd (Qlz (w:=w) M);have bo:(32:Int)<(N:Int):=by omega
    clear h32 M G O D a2
    go_wp2_with (first
     |(refine Qlw 107 11 b1 (o1+i*2) Qa4 (by rfl) am.out ?_)
     |((with_reducible refine Qgs 18 ?_);rw [<-an.out];refine Qsa 70 2 18 w.heap.size (Q04 zN) Q07 aZ V V aT aL (le_refl _) ?_;intro w4 h4 b4 g4))
    exact bodyPost_ret (v:=.tuple #[.agg (Q04 zN).toArray,.int .i64 3]) (Q01 rfl _ _ w.heap.size Q07 h4 V rfl rfl) rfl (a9.out zN w4 (Q2a.zero w4 _) rfl b4)
   have bo:¬ (32:Int)<(N:Int):=by omega
   by_cases hv24:1024<J
   ·have M:bldP ps=(nP,2):=by
     unfold bldP;rw [HE.out,if_neg h32,if_pos hv24];rfl
    have a9:=Qhd (Qlz (w:=w) M);have bv:(1024:Int)<(J:Int):=by omega
    clear h32 M hv24 G O D a2
    go_wp2_with (first
     |(refine Qlw 107 11 b1 (o1+i*2) Qa4 (by rfl) am.out ?_)
     |((with_reducible refine Qgs 24 ?_);rw [<-an.out];refine Qsa 70 2 24 w.heap.size (Q04 zN) Q07 aZ V V aT aL (le_refl _) ?_;intro w4 h4 b4 g4))
    exact bodyPost_ret (v:=.tuple #[.agg (Q04 zN).toArray,.int .i64 2]) (Q01 rfl _ _ w.heap.size Q07 h4 V rfl rfl) rfl (a9.out zN w4 (Q2a.zero w4 _) rfl b4)
   have bv:¬ (1024:Int)<(J:Int):=by omega
   have bJ:=Q9k I;have cH:=fun (u:World) (U:Below E.heap.size E u)=>Q5i ka kc I u (by rw [<-a8.out];exact (G.below W).below U) (by have:=a8.out;omega);rw [<-a8.out] at cH;have cP:=fun (u:World) (U:Below E.heap.size E u) (qa:Option Addr) (qn qc:Nat) (hq:Q02 u (.slice qa qn qc) (Q0c I))=>Qlv (SizeOf.sizeOf t) t (le_refl _) _ D.1 (fun r hr=>by have:=(D.2.2.1 r hr).1;omega) qa va qn qc J vc (Q0c I) v u hq.fits.1.symm aJ.out.symm (by have:=hq.fits.1;have:=a8.out;omega) (Q7o I) ((a2.kept W).kept U) hq ((O.below W).below U);have hT:putQ (clN t) (Q0c I) v=trB (ps.take (i+1)):=by rw [bd.out,b'.out]
   rw [hT] at cP;have aO:=bb.out ⟨by show I.length<=32;have:=a8.out;omega,by show v.length<=1024;have:=aJ.out;omega⟩;rw [<-aH.out] at cP;have CH:=Qhd cH;have CP:=Qhd cP;have ba:=Qhd aO;have bE:=Qhd G;clear h32 hv24 cH cP hT aO G O D a2;have k0:=fun u:Ext E=>u.cell ((zp.cell 0).trans (show _=some (Value.slice ka N kc) from rfl));have k1:=fun u:Ext E=>u.cell ((zp.cell 1).trans (show _=some (Value.slice va J vc) from rfl))
   go_wp2_with (refine Qlw 107 11 b1 (o1+i*2) Qa4 (by rfl) am.out ?_)
   rw [show L.alloc (.cells #[.slice ka N kc,.slice va J vc] 107)=E from an.out.symm];refine Q03 E 7 (by kernel_rfl) (by kernel_rfl) (Below.refl _ _) ?_;simp only [List.take_succ_cons,List.take_zero,List.take_nil]
   iterate 3 (refine Q06 (by rfl) (fun K hK=>?_);go_simp;refine hK _ ?_;clear hK K)
   refine Q0e 28 (SlG (Q0c I)) rfl (of_decide_eq_true rfl) (SlG.mono _) (fun w6 aB=>?_) ?_
   ·simp only [Q18,List.filter_nil,Q00];refine ⟨rfl,?_⟩;go_simp;refine (CH.out w6 aB).mono ?_;rintro e w7 ⟨v7,rfl,o7,b7⟩;obtain ⟨a7,c7,rfl,_⟩:=o7.form;exact ⟨_,rfl,⟨_,_,_,rfl,o7.row⟩,b7⟩
   iterate 2 (refine Q06 (by rfl) (fun K hK=>?_);go_simp;refine hK _ ?_;clear hK K)
   refine Q0e 31 (NvT (trB (ps.take (i+1)))) rfl (of_decide_eq_true rfl) (NvT.mono _) (fun w6 aB=>?_) ?_
   ·change Q00 w6 [(28,_)] _ _;rintro bC ⟨bf,bA,bi,rfl,bm⟩;simp only [Q00];refine ⟨rfl,?_⟩;go_simp;refine (CP.out w6 aB bf bA bi bm).mono ?_;rintro e w7 ⟨t7,rfl,b7,i7,c7⟩;exact ⟨_,rfl,⟨t7,rfl,i7,c7⟩,b7⟩
   refine Q0i ?_;intro u5 bu bC _ bO bn;change wpList _ _ _ [_] _ _;simp only [Act.put,Qzs];obtain ⟨t7,rfl,i7,c7⟩:=bn;obtain ⟨V7,av⟩:=Qe (nv t7);rw [<-av];have b9:=Qhd av;have bg:=D00 ab (D00 W bu);clear av k0 k1
   go_wp2_with fail
   go_roundw
   case rel=>exact ⟨i+1,t7,by omega,by go_num,b9.out,i7,c7,ba.out,bg⟩
   case measure=>simp [intOf];omega
  obtain rfl:n=i:=by omega
  have bt:ps.take n=ps:=by rw [<-Hn.out,take_length]
  rw [bt] at a0 T D;have aM:=Qik ps T;have M:bldP ps=(trB ps,0):=by unfold bldP;rw [if_pos aM]
  have a9:=Qhd (Qlz (w:=w) M);have cS:=(Qh7 (SizeOf.sizeOf t) t (le_refl _) _ D.1 (fun r hr=>by have:=D.2.2.1 r hr;omega)).1 L a2;rw [a0,<-aH.out] at cS;have CS:=Qhd cS;clear cS D a2 a0 T aM M hlt
  go_wp2_with (first
   |(go_at_call 106;(with_reducible refine CS.out.mono ?_);rintro e w6 ⟨y,rfl,oy,ey,b6⟩;have bh:=D00 ap b6;have bD:=zz.kept b6;have br:=oy.is.one;have aQ:=Q0b y)
   |((with_reducible refine Qgs 34 ?_);refine Qsa 70 2 34 w.heap.size (Q04 y) Q07 bD aQ V br bh (le_refl _) ?_;intro w7 h7 b7 g7))
  have bs:w.heap.size<L.heap.size:=zz.lt;exact bodyPost_ret (v:=.tuple #[.agg (Q04 y).toArray,.int .i64 0]) (Q01 rfl _ _ w.heap.size Q07 h7 aQ rfl rfl) rfl (a9.out y w7 ((oy.off g7 bs).lower ap.size) ey b7)
theorem Qsl (a:Option Addr)(n c:Nat)(ps:List Kvp)(hn:ps.length=n)(hN:n<=1048576)(w:World)(h:Q05 kvc 2 w (.slice a n c) ps)(hk:∀ p∈ps,IsKv w p) :
  Calls Tryz.prog 81 #[.slice a n c] w (Qok (bldP ps) w):=by
 obtain ⟨S,a8⟩:=Qe (w.alloc (.cells (Q04 zN).toArray 70));have hz:Blk 70 S w.heap.size (Q04 zN):=by rw [a8];exact D01 w _ _
 have ak:Below w.heap.size w S:=by rw [a8];exact Qba _ _
 have aK:S=w.alloc (.cells #[.int .i64 0,.slice none 0 0,.slice none 0 0,.slice none 0 0] 70):=by rw [a8];rfl
 have aT:=Qhd aK;have be:∀ u∈Q04 zN,u.oneCell'=true:=by intro u V;simp [Qgo] at V;rcases V with rfl|rfl<;>rfl
 have a9:(Q04 zN).length=4:=rfl;have Hn:=Qhd hn;have H:=Qhd (h.below ak);have Hk:Hid (∀ p∈ps,IsKv S p):=Qhd (fun p z=>(hk p z).kept ak);clear a8 aK h hk hn;go_enter Tryz.func81,Tryz.ntmps81
 go_wp2_with fail
 rw [show w.alloc (.cells #[.int .i64 0,.slice none 0 0,.slice none 0 0,.slice none 0 0] 70)=S from aT.out.symm]
 go_loopw [4,10] (fun lx ix wr=>∃ (i:Nat) (la:Option Addr) (ln lc:Nat),i<=n/\ix=.int .i64 (i:Int)/\lx=.slice la ln lc/\Q05 Q0d 2 wr (.slice la ln lc) (rlB (ps.take i))/\(∀ p∈ps.take i,Q6t p)/\Below S.heap.size S wr) (fun _ ix _=>n - (intOf ix).toNat)
 case atStart=>exact ⟨0,none,0,0,by omega,rfl,rfl,Q05.nil Q0d 2 _,by simp,Below.refl _ _⟩
 case round =>
  obtain ⟨i,la,ln,lc,bs,rfl,rfl,G,L,Z⟩:=hrel;obtain ⟨J,rfl⟩:∃ x,x=wr:=⟨wr,rfl⟩;have ag:=D00 ak Z;have zz:=hz.kept Z;have D:=Q6b (ps.take i) L;have an:(rlB (ps.take i)).length<=1048576:=by have:=D.2.2.2;rw [length_take] at this;omega
  by_cases hlt:i<n
  ·have bt:(i:Int)<(n:Int):=by omega
   have T:i<ps.length:=by rw [Hn.out];exact hlt
   obtain ⟨b1,o1,rfl,r1⟩:=Q05.range Q9e (H.out.below Z) i T;obtain ⟨M,N⟩:=(Hk.out _ (List.getElem_mem T)).kept Z;have K:=Qo7 ps i T L;have hst:=Qpw ps i T;have al:Q6t ps[i]->∀ p∈ps.take (i+1),Q6t p:=fun hf p z=>by
    rw [take_succ_eq_append_getElem T] at z;rcases mem_append.1 z with z|z
    ·exact L p z
    rw [mem_singleton] at z;rw [z];exact hf
   obtain ⟨p,z⟩:=Qe (ps[i]);rw [<-z] at r1 M N K hst al;obtain ⟨kv,ar,vv,v⟩:=p;dsimp only at M N K hst;obtain ⟨ka,kc,rfl,_⟩:=M.form;obtain ⟨va,vc,rfl,_⟩:=N.form;obtain ⟨I,am⟩:=Qe (ar.length);obtain ⟨O,ao⟩:=Qe (v.length);rw [<-am] at M K r1;rw [<-ao] at N K r1;have aJ:J.rangeAt b1 (o1+i*2) [.slice ka I kc,.slice va O vc]:=r1;have bu:IntKind.i64.wrap ((i:Int)+1)=((i+1:Nat):Int):=by rw [IntWalk.i64_in _ (by omega)];omega
   obtain ⟨w2,ap⟩:=Qe (J.alloc (.cells #[.slice ka I kc,.slice va O vc] 107));have b2:Below J.heap.size J w2:=by rw [ap];exact Qba _ _
   have aY:=D00 ag b2;have bo:=zz.kept b2;have U:=Qdz ka va I kc O vc;have ay:=Qhd aJ;have aS:=Qhd hst;have aQ:=Qhd al;have aA:=Qhd ap;have aw:=Qhd am;have az:=Qhd ao;clear r1 aJ hst ap z hlt T L al am ao;by_cases h32:32<I∨1024<O
   ·obtain ⟨E,a7⟩:=Qe (putE I O);have aD:¬ E=0:=by
     rw [a7];unfold putE;split
     ·omega
     rw [if_pos (by omega)];omega
    have W:bldP ps=(nP,E):=by
     have:bldE ps=E:=by
      rw [K,a7];unfold putE;by_cases h:32<I
      ·rw [if_pos h,if_pos h]
      rw [if_neg h,if_neg h,if_pos (by omega),if_pos (by omega)]
     unfold bldP;rw [this,if_neg aD]
    rw [<-a7] at U;have ad:=Qhd U;have aj:(E==0)=false:=beq_eq_false_iff_ne.2 aD;have ae:=Qhd (Qlz (w:=w) W);clear h32 W M N D K a7 U G
    go_wp2_with (first
     |(refine Qlw 107 12 b1 (o1+i*2) Qa4 (by rfl) ay.out ?_)
     |(go_at_call 110;(with_reducible refine (ad.out _).mono ?_);rintro e w3 ⟨rfl,rfl⟩)
     |((with_reducible refine Qgs 21 ?_);rw [<-aA.out];refine Qsa 70 2 21 w.heap.size (Q04 zN) Q07 bo a9 a9 be aY (le_refl _) ?_;intro w4 h4 b4 g4))
    exact bodyPost_ret (v:=.tuple #[.agg (Q04 zN).toArray,.int .i64 E]) (Q01 rfl _ _ w.heap.size Q07 h4 a9 rfl rfl) rfl (ae.out zN w4 (Q2a.zero w4 _) rfl b4)
   have aj:putE I O=0:=by unfold putE;rw [if_neg (by omega),if_neg (by omega)]
   rw [aj] at U;have ad:=Qhd U;have cP:=fun (u:World) (V:Below J.heap.size J u)=>Qdt la ka va ln lc I kc O vc (rlB (ps.take i)) ar v G.fits.1.symm (by have:=G.fits.1;omega) D.2.1 aw.out.symm (by omega) az.out.symm u (G.below V) (M.below V) (N.below V);rw [<-aS.out] at cP;have aF:=aQ.out ⟨by show ar.length<=32;have:=aw.out;omega,by show v.length<=1024;have:=az.out;omega⟩;have CP:=Qhd cP;have aP:=Qhd aF;clear h32 cP aF M N D U K aj G an
   go_wp2_with (first
    |(refine Qlw 107 12 b1 (o1+i*2) Qa4 (by rfl) ay.out ?_)
    |(go_at_call 110;(with_reducible refine (ad.out _).mono ?_);rintro e w3 ⟨rfl,rfl⟩)
    |(go_at_call 111;rw [<-aA.out];(with_reducible refine (CP.out _ b2).mono ?_);rintro e w5 ⟨a5,n5,c5,rfl,h5,b5⟩;have aZ:=D00 Z (D00 b2 b5)))
   go_roundw
   case rel=>exact ⟨i+1,a5,n5,c5,by omega,by go_num,rfl,h5,aP.out,aZ⟩
   case measure=>simp [intOf];omega
  obtain rfl:n=i:=by omega
  have bh:ps.take n=ps:=by rw [<-Hn.out,take_length]
  rw [bh] at G L D an;have aC:=Qik ps L;have W:bldP ps=(trB ps,0):=by unfold bldP;rw [if_pos aC]
  have ae:=Qhd (Qlz (w:=w) W);have aE:=G.fits.1;have cS:=Q6s 65 (rlB ps) la ln lc J aE.symm (by omega) (fun r hr=>by have:=D.2.2.1 r hr;omega) (Qhs 65 _ D.2.1 (fun r hr=>by have:=(D.2.2.1 r hr).1;omega)) G;rw [Qnk D.1 65 (fun r hr=>by have:=(D.2.2.1 r hr).1;omega)] at cS;have CS:=Qhd cS;clear cS D L aC W hlt G aE an
  go_wp2_with (first
   |(go_at_call 112;(with_reducible refine CS.out.mono ?_);rintro e w6 ⟨y,rfl,oy,ey,b6⟩;have b0:=D00 ag b6;have bp:=zz.kept b6;have bf:=oy.is.one;have aH:=Q0b y)
   |((with_reducible refine Qgs 31 ?_);refine Qsa 70 2 31 w.heap.size (Q04 y) Q07 bp aH a9 bf b0 (le_refl _) ?_;intro w7 h7 b7 g7))
  have bg:w.heap.size<J.heap.size:=zz.lt;exact bodyPost_ret (v:=.tuple #[.agg (Q04 y).toArray,.int .i64 0]) (Q01 rfl _ _ w.heap.size Q07 h7 aH rfl rfl) rfl (ae.out y w7 ((oy.off g7 bg).lower ag.size) ey b7)
end Go.Proofs.YtbdmkfjgnjfjbaaGreat
