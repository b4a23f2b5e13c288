/- The reference's routePut: its closures, slices.IndexFunc, slices.Clone at routes. | slices.DeleteFunc at routes. | slices.SortFunc at routes: the library's cont -/
import Derived.Test.YtbdmkfjgnjfjbaaGreatLazyServesK07
import Derived.Test.YtbdmkfjgnjfjbaaGreatLazyServesK06
import Derived.Test.YtbdmkfjgnjfjbaaGreatLazyServesK09
import Derived.Test.YtbdmkfjgnjfjbaaGreatLazyServesK10
import Derived.Shelf.SlGeneric
import Derived.Shelf.Lay
import Derived.Shelf.Small.Strs
import Derived.Shelf.SlSortCmp.NoneTotal
import Derived.Ground.SlsfProg
import Derived.Ground.NamesProg
import Derived.Test.YtbdmkfjgnjfjbaaGreatLazyServesK15
import Derived.Test.YtbdmkfjgnjfjbaaGreatLazyServesK16
set_option linter.unusedSimpArgs false
set_option linter.unusedVariables false
set_option maxHeartbeats 4000000
set_option maxRecDepth 100000
namespace Go.Proofs.YtbdmkfjgnjfjbaaGreat
open Go.RowKit
theorem Qae (a b:Value)(w:World):(callFunc 139 #[a,b]).run Tryz.prog w=.ok (.enter 139 #[a,b]) w:=by kernel_rfl
theorem rc_any (r:Rt)(p:List UInt8)(PB:Nat)(w:World)(hp:w.cell? ⟨PB,0,none⟩=some (.string ⟨p.toArray⟩)) :
  Calls Tryz.prog 139 #[.agg (rcells r).toArray,.pointer (some ⟨PB,0,none⟩)] w fun e w'=>e=.returned (.bool (decide (r.1=p)))∧Below w.heap.size w w':=by
 obtain ⟨r1,r2⟩:=r
 have hlt:PB<w.heap.size:=World.block_lt_of_cell? w _ hp
 have hbel:Below w.heap.size w (w.alloc (.cells #[.string ⟨r1.toArray⟩,.string ⟨r2.toArray⟩] 168)):=Qba _ _
 have h1:(w.alloc (.cells #[.string ⟨r1.toArray⟩,.string ⟨r2.toArray⟩] 168)).cell? ⟨PB,0,none⟩=some (.string ⟨p.toArray⟩):=by rw [hbel.cell hlt];exact hp
 have hne:w.heap.size≠PB:=by omega
 show Calls Tryz.prog 139 #[.agg #[.string ⟨r1.toArray⟩,.string ⟨r2.toArray⟩],.pointer (some ⟨PB,0,none⟩)] w _
 by_cases he:r1=p
 ·subst he
  have hee:decide (r1=r1)=true:=by simp
  dsimp only
  rw [hee]
  clear hee
  go_enter Tryz.func139,Tryz.ntmps139
  go_wp2_with fail
  go_ret
  exact ⟨rfl,hbel⟩
 ·have hee:decide (r1=p)=false:=by simp [he]
  have he2:(r1==p)=false:=by rw [beq_eq_false_iff_ne];exact he
  dsimp only
  rw [hee]
  clear hee he
  go_enter Tryz.func139,Tryz.ntmps139
  go_wp2_with fail
  go_ret
  exact ⟨rfl,hbel⟩
def Qm3 (l:List Rt)(p:List UInt8)(w:World)(e:Ending)(w':World):Prop :=
 ∃ x:Int,e=.returned (.int .i64 x)∧Below w.heap.size w w'∧((x=-1∧∀ r∈l,r.1≠p)∨∃ (i:Nat) (hi:i<l.length),x=(i:Int)∧l[i].1=p∧∀ r∈l.take i,r.1≠p)
theorem Qjf (a:Option Addr)(n c:Nat)(l:List Rt)(hn:l.length=n)(hN:n≤1000000000)(p:List UInt8)(PB:Nat)(w:World)(h:RowOf rcells 2 w (.slice a n c) l)(hp:w.cell? ⟨PB,0,none⟩=some (.string ⟨p.toArray⟩)) :
  Calls Tryz.prog 161 #[.slice a n c,.func (.func 139) #[] #[.pointer (some ⟨PB,0,none⟩)]] w (Qm3 l p w):=by
 have hlt:PB<w.heap.size:=World.block_lt_of_cell? w _ hp
 have hent:=Qae
 have cc:=fun (r:Rt) (u:World) (hu:Below w.heap.size w u)=>rc_any r p PB u (by rw [hu.cell hlt];exact hp)
 have Cc:=Qhd cc
 have Hn:=Qhd hn
 have H:=Qhd h
 clear cc hn hp h
 go_enter Tryz.func161,Tryz.ntmps161
 go_wp2_with fail
 go_loopw [8] (fun ix wr=>∃ i:Nat,i≤n∧ix=.int .i64 (i:Int)∧Below w.heap.size w wr∧∀ r∈l.take i,r.1≠p) (fun ix _=>n - (intOf ix).toNat)
 case atStart=>exact ⟨0,by omega,rfl,Below.refl _ _,by simp⟩
 case round =>
  obtain ⟨i,hii,rfl,hbr,hall⟩:=hrel
  by_cases hlti:i<n
  ·have hki:(i:Int)<(n:Int):=by omega
   have hil:i<l.length:=by rw [Hn.out];exact hlti
   obtain ⟨b1,o1,rfl,r1⟩:=RowOf.range (f:=rcells) (size:=2) (fun _=>rfl) (H.out.below hbr) i hil
   have hca:=Cc.out l[i] wr hbr
   have htk:l.take (i+1)=l.take i++[l[i]]:=List.take_succ_eq_append_getElem hil
   have hwi:IntKind.i64.wrap ((i:Int)+1)=((i+1:Nat):Int):=by rw [IntWalk.i64_in _ (by omega)];omega
   obtain ⟨q,hq⟩:∃ q,q=decide (l[i].1=p):=⟨_,rfl⟩
   rw [←hq] at hca
   obtain ⟨y,hy⟩:∃ y,y=l[i]:=⟨_,rfl⟩
   rw [←hy] at r1 hca hq htk
   obtain ⟨y1,y2⟩:=y
   obtain ⟨Y1,hY1⟩:∃ Y:ByteArray,Y=⟨y1.toArray⟩:=⟨_,rfl⟩
   obtain ⟨Y2,hY2⟩:∃ Y:ByteArray,Y=⟨y2.toArray⟩:=⟨_,rfl⟩
   have hrc:rcells (y1,y2)=[.string Y1,.string Y2]:=by rw [hY1,hY2];rfl
   rw [hrc] at r1 hca
   have Hca:=Qhd hca
   have R1:=Qhd r1
   have Htk:=Qhd htk
   have Hall:=Qhd hall
   have Hy:Hid (∃ hi:i<l.length,l[i]=(y1,y2)):=Qhd ⟨hil,hy.symm⟩
   cases q with
   | true =>
    have hyp:y1=p:=by simpa using hq.symm
    have Hyp:=Qhd hyp
    clear hca r1 htk hall hq hY1 hY2 hrc hyp hlti hil hy
    go_wp2_with (first
     |(refine Qlw 168 14 b1 (o1+i*2) Q0k (by rfl) R1.out ?_)
     |(go_at_call 139;(with_reducible refine Hca.out.mono ?_);rintro e w2 ⟨rfl,b2⟩;have bb2:=Below.then hbr b2))
    go_ret
    obtain ⟨hi,hyy⟩:=Hy.out
    exact ⟨_,rfl,bb2,.inr ⟨i,hi,rfl,by rw [hyy];exact Hyp.out,Hall.out⟩⟩
   | false =>
    have hyp:y1≠p:=by simpa using hq.symm
    have Hyp:=Qhd hyp
    clear hca r1 htk hall hq hY1 hY2 hrc hyp hlti hil hy
    go_wp2_with (first
     |(refine Qlw 168 14 b1 (o1+i*2) Q0k (by rfl) R1.out ?_)
     |(go_at_call 139;(with_reducible refine Hca.out.mono ?_);rintro e w2 ⟨rfl,b2⟩;have bb2:=Below.then hbr b2))
    go_roundw
    case rel=>exact ⟨i+1,by omega,by go_num,bb2,fun r hr=>by
     rw [Htk.out] at hr
     rcases List.mem_append.1 hr with hr|hr
     ·exact Hall.out r hr
     ·rw [List.mem_singleton] at hr;rw [hr];exact Hyp.out⟩
    case measure=>simp [intOf];omega
  ·obtain rfl:i=n:=by omega
   clear hlti
   have Hall:=Qhd hall
   clear hall
   go_wp2_with fail
   go_ret
   exact ⟨-1,rfl,hbr,.inl ⟨rfl,fun r hr=>Hall.out r (by rw [←Hn.out,List.take_length];exact hr)⟩⟩
theorem Qeb (a:Option Addr)(n c:Nat)(l:List Rt)(hn:l.length=n)(w:World)(h:RowOf rcells 2 w (.slice a n c) l)(hB:n≤1000000000) :
  Calls Tryz.prog 138 #[.slice a n c] w fun e w'=>∃ v,e=.returned v∧OwnOf rcells 2 168 w' w.heap.size v l∧Below w.heap.size w w':=by
 have hsm:=h.small
 cases a with
 | none =>
  have h0:l=[]∧n=0:=by
   obtain ⟨_,_,_,hv,_,_,h3⟩:=h
   rcases h3 with ⟨h1,h2,h3⟩|⟨b,off,s,h1,h2,h3⟩
   ·exact ⟨List.eq_nil_of_length_eq_zero (by omega),by omega⟩
   ·simp only [Value.slice.injEq] at hv
    rw [←hv.1] at h1
    simp at h1
  obtain ⟨rfl,rfl⟩:=h0
  have he:∀ w:World,(binOp .eql 150 (.slice none 0 c) (.slice none 0 0)).run Tryz.prog w=.ok (.bool true) w:=fun _=>rfl
  go_enter Tryz.func138,Tryz.ntmps138
  go_wp2
  go_ret
  exact ⟨_,rfl,OwnOf.nil rcells 2 _ _ _,Below.refl _ _⟩
 | some p =>
  have Hn:=Qhd hn
  have he:∀ w:World,(binOp .eql 150 (.slice (some p) n c) (.slice none 0 0)).run Tryz.prog w=.ok (.bool false) w:=fun _=>rfl
  go_enter Tryz.func138,Tryz.ntmps138
  go_wp2_with (refine Q0m (o:=⟨some 7,_,_,_,_,_⟩) (by rfl) (.tmp 5) (.tmp 6) 150 (by rfl) elRt (by rfl) (OwnOf.empty rcells 2 168 w w.heap.size (Nat.le_refl _)) (by rfl) (h.alloc _) (by simp) (by simp [Hn.out];omega) (by simp only [List.length_nil];unfold maxLen at *;omega) ?_;intro v2 w2 hA2 hg2 hl2)
  go_ret
  refine ⟨_,rfl,hA2,?_⟩
  exact ((Below.refl _ _).alloc (Nat.le_refl _) (.cells #[] 168)).grown hg2 (by simp) (fun j hj=>OwnOf.lt (OwnOf.empty rcells 2 168 w w.heap.size (Nat.le_refl _)) j hj)
theorem Q1i (l:List Rt):(l.flatMap rcells).length=l.length*2:=Q18 (f:=rcells) (size:=2) (fun _=>rfl) l
theorem Q89 {e:TypeId}{w:World}{B g n c:Nat}{l:List Rt}(h:OwnOf rcells 2 e w B (.slice (some ⟨g,0,none⟩) n c) l):∃ R,Blk e w g (l.flatMap rcells++R)∧n=l.length∧n≤c∧c≤maxLen∧B≤g∧(l.flatMap rcells++R).length=c*2:=by
 obtain ⟨h1,h2⟩:=h
 rcases h2 with ⟨h2,h3⟩|⟨g',cap,cur,h2,h3,h4,h5,h6,h7,h8⟩
 ·simp only [Value.slice.injEq] at h2;cases h2.1
 ·simp only [Value.slice.injEq,Option.some.injEq,Addr.mk.injEq,and_true] at h2
  obtain ⟨rfl,rfl,rfl⟩:=h2
  have e1:cur.toList=l.flatMap rcells++cur.toList.drop (l.flatMap rcells).length:=by
   conv=>lhs;rw [←List.take_append_drop (l.flatMap rcells).length cur.toList]
   rw [h1,h8,←h1]
  refine ⟨cur.toList.drop (l.flatMap rcells).length,?_,rfl,h5,h6,h3,?_⟩
  ·unfold Blk;rw [←e1];simpa using h4
  ·rw [←e1,Array.length_toList,h7]
theorem Qah {e:TypeId}{w:World}{B g n c:Nat}{l:List Rt}{R:List Value}(h:Blk e w g (l.flatMap rcells++R))(hc:(l.flatMap rcells++R).length=c*2)(hn:n≤c)(hB:B≤g)(hl:l.length=n)(hm:c≤maxLen):OwnOf rcells 2 e w B (.slice (some ⟨g,0,none⟩) n c) l:=by
 subst hl
 refine ⟨Q1i l,.inr ⟨g,c,(l.flatMap rcells++R).toArray,rfl,hB,h,hn,hm,by simpa using hc,?_⟩⟩
 rw [List.take_left' (Q1i l)]
theorem Qg3 {e:TypeId}{w:World}{B g n c:Nat}{A X Y Z:List Rt}(h:OwnOf rcells 2 e w B (.slice (some ⟨g,0,none⟩) n c) (A++X++Z))(hl:X.length=Y.length):OwnOf rcells 2 e (w.setCells g (A.length*2) (Y.flatMap rcells)) B (.slice (some ⟨g,0,none⟩) n c) (A++Y++Z):=by
 obtain ⟨R,hb,hn,hnc,hm,hB,hc⟩:=Q89 h
 have hs:=hb.sets (Y.flatMap rcells) (A.length*2)
 have e1:(A++X++Z).flatMap rcells++R=A.flatMap rcells++(X.flatMap rcells++(Z.flatMap rcells++R)):=by simp
 have e2:(A++Y++Z).flatMap rcells++R=A.flatMap rcells++(Y.flatMap rcells++(Z.flatMap rcells++R)):=by simp
 rw [e1,←Q1i A,Q5s _ _ (by rw [Q1i,Q1i,hl]),←e2] at hs
 rw [←Q1i A]
 refine Qah hs ?_ hnc hB ?_ hm
 ·rw [e1] at hc
  rw [e2]
  simp only [List.length_append,Q1i] at hc ⊢
  rw [hl] at hc
  exact hc
 ·rw [hn];simp [hl]
theorem rt_cut {e:TypeId}{w:World}{B g n c:Nat}{A Z:List Rt}(h:OwnOf rcells 2 e w B (.slice (some ⟨g,0,none⟩) n c) (A++Z)):OwnOf rcells 2 e w B (.slice (some ⟨g,0,none⟩) A.length c) A:=by
 obtain ⟨R,hb,hn,hnc,hm,hB,hc⟩:=Q89 h
 rw [List.flatMap_append,List.append_assoc] at hb hc
 exact Qah hb hc (by rw [hn] at hnc;simp at hnc;omega) hB rfl hm
theorem Q88 {e:TypeId}{w:World}{B g n c:Nat}{l:List Rt}(h:OwnOf rcells 2 e w B (.slice (some ⟨g,0,none⟩) n c) l)(j:Nat)(hj:j<n*2):(w.cell? ⟨g,j,none⟩).isSome=true∧w.frozen? ⟨g,j,none⟩=false:=by
 obtain ⟨R,hb,hn,hnc,hm,hB,hc⟩:=Q89 h
 refine ⟨?_,hb.free _⟩
 rw [hb.cell,List.getElem?_eq_getElem (by rw [hc];omega)]
 rfl
theorem Qjc (g i n c:Nat)(hi:i<n)(u:World)(hth:∀ j,i*2≤j→j<n*2→(u.cell? ⟨g,j,none⟩).isSome=true∧u.frozen? ⟨g,j,none⟩=false)(ty:TypeId):(Builtin.clear_ #[150] ty #[.slice (some ⟨g,i*2,none⟩) (n - i) (c - i)]).run Tryz.prog u=.ok (.tuple #[]) (u.setCells g (i*2) ((List.replicate (n - i) (([],[]):Rt)).flatMap rcells)):=by
 have hzc:(Builtin.zeroCells (Value.agg #[.string ByteArray.empty,.string ByteArray.empty]).cells (n - i)).toList=(List.replicate (n - i) (([],[]):Rt)).flatMap rcells:=by
  generalize n - i=m
  apply List.ext_getElem?
  intro j
  have hr:(List.replicate m (([],[]):Rt)).flatMap rcells=List.replicate (m*2) (Value.string ByteArray.empty):=by
   induction m with
   | zero=>rfl
   | succ m ih =>
    rw [List.replicate_succ,List.flatMap_cons,ih,show (m+1)*2=2+m*2 by omega,←List.replicate_append_replicate]
    rfl
  rw [hr]
  by_cases hj:j<m*2
  ·rw [List.getElem?_replicate,if_pos hj]
   simp only [Builtin.zeroCells,Value.cells]
   have h2:j % 2=0∨j % 2=1:=by omega
   rcases h2 with h2|h2<;>simp [hj,h2]
  ·rw [List.getElem?_replicate,if_neg hj]
   simp [Builtin.zeroCells,Value.cells]
   omega
 have hst:=run_storeCells_cells (P:=Tryz.prog) g (i*2) ((List.replicate (n - i) (([],[]):Rt)).flatMap rcells) 0 u
  (fun j hj=>by rw [Q1i,List.length_replicate] at hj;exact (hth (i*2+0+j) (by omega) (by omega)).1)
  (fun j hj=>by rw [Q1i,List.length_replicate] at hj;exact (hth (i*2+0+j) (by omega) (by omega)).2)
  (fun v hv=>by
   obtain ⟨r,_,hr⟩:=List.mem_flatMap.1 hv
   simp only [rcells,List.mem_cons,List.not_mem_nil,or_false] at hr
   rcases hr with rfl|rfl<;>rfl)
 simp only [Nat.add_zero] at hst
 have hv:∀ w,(zeroValue 168).run Tryz.prog w=.ok (.agg #[.string ByteArray.empty,.string ByteArray.empty]) w:=fun w=>by kernel_rfl
 obtain ⟨m,hm⟩:∃ m,n - i=m+1:=⟨n - i - 1,by omega⟩
 rw [hm] at hzc hst ⊢
 simp [Builtin.clear_,run_underlying elRt.ht,hv,hzc,hst]
theorem Ql0 (g n c i:Nat)(hi:i<n)(hnc:n≤c)(x:Int)(hx:x=i)(k:IntKind)(w:World):(Instr.slice 150 (.slice (some ⟨g,0,none⟩) n c) (some (.int k x)) none none).run Tryz.prog w=.ok (.slice (some ⟨g,i*2,none⟩) (n - i) (c - i)) w:=by
 subst hx
 rw [run_slice_l (P:=Tryz.prog) w (t:=150) (a:=some ⟨g,0,none⟩) (len:=n) (cap:=c) (by kernel_rfl) k (i:Int) (by omega) (by omega)]
 rw [show (sizeOf (Tryz.prog.elem 150)).run Tryz.prog w=.ok 2 w from by kernel_rfl]
 simp only [Result.andThen_ok,sliced,Int.toNat_natCast,if_neg (show ¬ c=i by omega)]
 simp [Addr.add]
 try omega
theorem rt_to (g n c i:Nat)(hi:i≤n)(hnc:n≤c)(x:Int)(hx:x=i)(k:IntKind)(w:World):(Instr.slice 150 (.slice (some ⟨g,0,none⟩) n c) none (some (.int k x)) none).run Tryz.prog w=.ok (.slice (some ⟨g,0,none⟩) i c) w:=by
 subst hx
 rw [run_slice_h (P:=Tryz.prog) w (t:=150) (a:=some ⟨g,0,none⟩) (len:=n) (cap:=c) (by kernel_rfl) k (i:Int) (by omega) (by omega)]
 rw [show (sizeOf (Tryz.prog.elem 150)).run Tryz.prog w=.ok 2 w from by kernel_rfl]
 simp only [Result.andThen_ok,sliced,Int.toNat_natCast]
 split<;>simp [Addr.add]
theorem Qi6 {A X Y Z:List Rt}(h:X.length=Y.length)(m:Nat)(hm:A.length+X.length≤m):(A++X++Z).drop m=(A++Y++Z).drop m:=by
 rw [List.drop_append,List.drop_append (l₁:=A++Y),show (A++X).drop m=[] from List.drop_eq_nil_of_le (by simp;omega),show (A++Y).drop m=[] from List.drop_eq_nil_of_le (by simp;omega)]
 congr 2
 simp [h]
def keepR (p:List UInt8)(l:List Rt):List Rt:=l.filter fun r=>decide (r.1≠p)
theorem Qjg (v:Value)(l:List Rt)(hN:l.length≤1000000000)(p:List UInt8)(PB:Nat)(W0 w:World)(hp:W0.cell? ⟨PB,0,none⟩=some (.string ⟨p.toArray⟩))(h0:Below W0.heap.size W0 w)(h:OwnOf rcells 2 168 w W0.heap.size v l) :
  Calls Tryz.prog 137 #[v,.func (.func 139) #[] #[.pointer (some ⟨PB,0,none⟩)]] w fun e w'=>∃ v',e=.returned v'∧OwnOf rcells 2 168 w' W0.heap.size v' (keepR p l)∧Below W0.heap.size W0 w':=by
 obtain ⟨a,c,rfl,hcm⟩:=h.form
 obtain ⟨n,hn⟩:∃ n,n=l.length:=⟨_,rfl⟩
 rw [←hn] at h ⊢
 have hPB:PB<W0.heap.size:=World.block_lt_of_cell? W0 _ hp
 have hent:=Qae
 have ci:=Qjf a n c l hn.symm (by omega) p PB w h.row (by rw [h0.cell hPB];exact hp)
 have cc:=fun (r:Rt) (u:World) (hu:Below W0.heap.size W0 u)=>rc_any r p PB u (by rw [hu.cell hPB];exact hp)
 have Cc:=Qhd cc
 have Ci:=Qhd ci
 have Hn:=Qhd hn
 have H:=Qhd h
 have hn9:n≤1000000000:=by omega
 clear cc hp ci h hN hn
 go_enter Tryz.func137,Tryz.ntmps137
 go_wp2_with (go_at_call 161;(with_reducible refine Ci.out.mono ?_);rintro e w2 ⟨x,rfl,b2,hx⟩;rcases hx with ⟨rfl,hnone⟩|⟨i,hi,rfl,hat,hbef⟩)
 ·go_ret
  exact ⟨_,rfl,by rw [show keepR p l=l from List.filter_eq_self.2 (fun r hr=>by simpa using hnone r hr)];exact H.out.kept b2,Below.then h0 b2⟩
 ·have own2:=H.out.kept b2
  obtain ⟨g,rfl⟩:∃ g,a=some ⟨g,0,none⟩:=by
   have hl0:0<l.length:=by omega
   rcases own2.2 with ⟨h2,h3⟩|⟨g',cap,cur,h2,_⟩
   ·omega
   ·simp only [Value.slice.injEq] at h2;exact ⟨g',h2.1⟩
  have hgB:W0.heap.size≤g:=own2.lt g rfl
  have b02:=Below.then h0 b2
  have hin:i<n:=by rw [Hn.out];exact hi
  have hwi0:wrap64 ((i:Int)+1)=((i+1:Nat):Int):=by rw [IntWalk.wrap64_in _ (by omega)];omega
  have hi1:((i:Int)==-1)=false:=by rw [beq_eq_false_iff_ne];omega
  have htk0:l.take i=keepR p (l.take (i+1)):=by
   rw [List.take_succ_eq_append_getElem hi]
   unfold keepR
   rw [List.filter_append,List.filter_eq_self.2 (fun r hr=>by simpa using hbef r hr)]
   simp [hat]
  have Htk0:=Qhd htk0
  have hnc:n≤c:=own2.row.fits.2.1
  clear hat hbef htk0 h0 b2 Ci
  go_wp2_with fail
  go_loopw [5,6,7] (fun ix jx _ wr=>∃ (i j:Nat) (L:List Rt),i<j∧j≤n∧ix=.int .i64 (i:Int)∧jx=.int .i64 (j:Int)∧OwnOf rcells 2 168 wr W0.heap.size (.slice (some ⟨g,0,none⟩) n c) L∧L.take i=keepR p (l.take j)∧L.drop j=l.drop j∧L.length=n∧Below W0.heap.size W0 wr) (fun _ jx _ _=>n - (intOf jx).toNat)
  case atStart=>exact ⟨i,i+1,l,by omega,by omega,rfl,by rw [hwi0],own2,Htk0.out,rfl,Hn.out.symm,b02⟩
  case round =>
   clear hi hin hwi0 hi1 Htk0 own2 b02
   obtain ⟨i,j,L,hij,hjn,rfl,rfl,own,htk,hdr,hLl,hb⟩:=hrel
   obtain ⟨wo,rfl⟩:∃ x,x=wr:=⟨wr,rfl⟩
   by_cases hlt:j<n
   ·have hki:(j:Int)<(n:Int):=by omega
    have hii:(i:Int)<(n:Int):=by omega
    have hjl:j<L.length:=by omega
    have hjl':j<l.length:=by have:=Hn.out;omega
    have hLj:L[j]=l[j]:=by
     have h1:L[j]?=l[j]?:=by
      have e1:(L.drop j)[0]?=(l.drop j)[0]?:=by rw [hdr]
      simpa using e1
     rw [List.getElem?_eq_getElem hjl,List.getElem?_eq_getElem hjl'] at h1
     exact Option.some.inj h1
    obtain ⟨b1,o1,e1,r1⟩:=RowOf.range (f:=rcells) (size:=2) (fun _=>rfl) own.row j hjl
    simp only [Option.some.injEq,Addr.mk.injEq,and_true] at e1
    obtain ⟨rfl,rfl⟩:=e1
    rw [hLj,Nat.zero_add] at r1
    have hca:=Cc.out l[j]
    have htj:l.take (j+1)=l.take j++[l[j]]:=List.take_succ_eq_append_getElem hjl'
    have hdj:L.drop (j+1)=l.drop (j+1):=by
     have:=congrArg (List.drop 1) hdr
     simpa [List.drop_drop] using this
    have hwj:IntKind.i64.wrap ((j:Int)+1)=((j+1:Nat):Int):=by rw [IntWalk.i64_in _ (by omega)];omega
    have hwi:IntKind.i64.wrap ((i:Int)+1)=((i+1:Nat):Int):=by rw [IntWalk.i64_in _ (by omega)];omega
    obtain ⟨q,hq⟩:∃ q,q=decide (l[j].1=p):=⟨_,rfl⟩
    simp only [←hq] at hca
    obtain ⟨y,hy⟩:∃ y,y=l[j]:=⟨_,rfl⟩
    simp only [←hy] at r1 hca hq htj
    obtain ⟨y1,y2⟩:=y
    obtain ⟨Y1,hY1⟩:∃ Y:ByteArray,Y=⟨y1.toArray⟩:=⟨_,rfl⟩
    obtain ⟨Y2,hY2⟩:∃ Y:ByteArray,Y=⟨y2.toArray⟩:=⟨_,rfl⟩
    have hrc:rcells (y1,y2)=[.string Y1,.string Y2]:=by rw [hY1,hY2];rfl
    rw [hrc] at r1
    simp only [hrc] at hca
    have bA:Below wo.heap.size wo (wo.alloc (.cells #[.string Y1,.string Y2] 168)):=Qba _ _
    have zA:=Blk.new wo 168 [.string Y1,.string Y2]
    have Hca:=Qhd (hca _ (Below.then hb bA))
    have R1:=Qhd r1
    have Htk:=Qhd htk
    have Htj:=Qhd htj
    have Hdj:=Qhd hdj
    have HLl:=Qhd hLl
    have Hrc:=Qhd hrc
    cases q with
    | true =>
     have hyp:y1=p:=by simpa using hq.symm
     have hkeep:Hid (keepR p (l.take (j+1))=keepR p (l.take j)):=Qhd (by
      rw [htj];unfold keepR;rw [List.filter_append];simp [hyp])
     clear hca r1 htk htj hdj hLl hdr hq hY1 hY2 hrc hyp hlt hjl hLj hy hjl'
     go_wp2_with (first
      |(refine Qlw 168 24 g (j*2) Q0k (by rfl) R1.out ?_)
      |((with_reducible refine Qgl 27 ?_);refine Qla 168 7 wo.heap.size Q0k zA (by rfl) ?_)
      |(go_at_call 139;(with_reducible refine Hca.out.mono ?_);rintro e w3 ⟨rfl,b3⟩;have b13:=Below.then bA b3;have own3:=own.kept b13;have bb3:=Below.then hb b13))
     go_roundw
     case rel=>(repeat apply Exists.intro);refine And.intro ?_ rfl;exact ⟨i,j+1,L,by omega,by omega,rfl,by go_num,own3,by rw [hkeep.out];exact Htk.out,Hdj.out,HLl.out,bb3⟩
     case measure=>simp [intOf];omega
    | false =>
     have hyp:y1≠p:=by simpa using hq.symm
     have hkeep:Hid (keepR p (l.take (j+1))=keepR p (l.take j)++[(y1,y2)]):=Qhd (by
      rw [htj];unfold keepR;rw [List.filter_append];simp [hyp])
     have hil:i<L.length:=by omega
     have hsplit:L=L.take i++[L[i]]++L.drop (i+1):=by
      rw [List.append_assoc,List.singleton_append,←List.drop_eq_getElem_cons hil,List.take_append_drop]
     have hlti:(L.take i).length=i:=by rw [List.length_take];omega
     have hset:Hid (∀ u:World,OwnOf rcells 2 168 u W0.heap.size (.slice (some ⟨g,0,none⟩) n c) L→OwnOf rcells 2 168 (u.setCells g (i*2) [.string Y1,.string Y2]) W0.heap.size (.slice (some ⟨g,0,none⟩) n c) (L.take i++[(y1,y2)]++L.drop (i+1))):=Qhd (fun u hu=>by
      rw [hsplit] at hu
      have:=Qg3 (Y:=[(y1,y2)]) hu rfl
      rw [hlti] at this
      rw [show ([(y1,y2)]:List Rt).flatMap rcells=[.string Y1,.string Y2] from by rw [←hrc];simp] at this
      exact this)
     have hrel1:Hid ((L.take i++[(y1,y2)]++L.drop (i+1)).take (i+1)=keepR p (l.take (j+1))∧(L.take i++[(y1,y2)]++L.drop (i+1)).drop (j+1)=l.drop (j+1)∧(L.take i++[(y1,y2)]++L.drop (i+1)).length=n):=Qhd (by
      refine ⟨?_,?_,?_⟩
      ·rw [hkeep.out,←htk,List.take_left' (by rw [List.length_append,hlti];rfl)]
      ·rw [Qi6 (X:=[(y1,y2)]) (Y:=[L[i]]) (A:=L.take i) rfl (j+1) (by rw [hlti];simp;omega),←hsplit]
       exact hdj
      ·simp only [List.length_append,List.length_drop,hlti,List.length_singleton];omega)
     have hone:∀ u∈[Value.string Y1,Value.string Y2],u.oneCell'=true:=by
      intro u hu
      simp only [List.mem_cons,List.not_mem_nil,or_false] at hu
      rcases hu with rfl|rfl<;>rfl
     have Hone:=Qhd hone
     clear hca r1 htk htj hdj hLl hdr hq hY1 hY2 hrc hyp hlt hjl hLj hy hjl' hone hsplit hlti hkeep hil
     go_wp2_with (first
      |(refine Qlw 168 24 g (j*2) Q0k (by rfl) R1.out ?_)
      |((with_reducible refine Qgl 27 ?_);refine Qla 168 7 wo.heap.size Q0k zA (by rfl) ?_)
      |(go_at_call 139;(with_reducible refine Hca.out.mono ?_);rintro e w3 ⟨rfl,b3⟩;have b13:=Below.then bA b3;have own3:=own.kept b13;have bb3:=Below.then hb b13;have zA3:=zA.kept b3;have hth:w3.there g (i*2) 2:=(fun j hj=>⟨(Q88 own3 (i*2+j) (by omega)).1,(Q88 own3 (i*2+j) (by omega)).2⟩);have own4:=hset.out _ own3;have bb4:Below W0.heap.size W0 (w3.setCells g (i*2) [.string Y1,.string Y2]):=bb3.grown (Q1v [.string Y1,.string Y2] (i*2) ⟨rfl,rfl,rfl,Nat.le_refl _,fun _ _ _=>rfl⟩) bb3.size (fun k hk=>by cases hk;exact hgB))
      |((with_reducible refine Qgl 32 ?_);refine Qla 168 7 wo.heap.size Q0k zA3 (by rfl) ?_)
      |((with_reducible refine Qgs 32 ?_);refine wpList_store_mid (by rfl) 168 (.tmp 33) (.tmp 32) (by rfl) g (i*2) #[.string Y1,.string Y2] (by rfl) (by rfl) hth (by kernel_rfl) (all_oneCell_toArray Hone.out) ?_))
     go_roundw
     case rel=>first|exact ⟨i+1,j+1,_,by omega,by omega,by go_num,by go_num,own4,hrel1.out.1,hrel1.out.2.1,hrel1.out.2.2,bb4⟩|(repeat apply Exists.intro);refine And.intro ?_ rfl;exact ⟨i+1,j+1,_,by omega,by omega,by go_num,by go_num,own4,hrel1.out.1,hrel1.out.2.1,hrel1.out.2.2,bb4⟩
     case measure=>simp [intOf];omega
   ·obtain rfl:n=j:=by omega
    have hin:i<n:=hij
    have r38:=Ql0 g n c i hin hnc (i:Int) rfl
    have r41:=rt_to g n c i (by omega) hnc (i:Int) rfl
    have hcl:=Qjc g i n c hin wo (fun j hj1 hj2=>Q88 own j hj2)
    have hii:(i:Int)≤(n:Int):=by omega
    have hic:(i:Int)≤(c:Int):=by omega
    obtain ⟨CZ,hCZ⟩:∃ CZ,CZ=(List.replicate (n - i) (([],[]):Rt)).flatMap rcells:=⟨_,rfl⟩
    have hlti:(L.take i).length=i:=by rw [List.length_take];omega
    have hown:OwnOf rcells 2 168 (wo.setCells g (i*2) CZ) W0.heap.size (.slice (some ⟨g,0,none⟩) i c) (keepR p l):=by
     have h1:L=L.take i++L.drop i++[]:=by simp
     rw [h1] at own
     have h2:=Qg3 (Y:=List.replicate (n - i) (([],[]):Rt)) own (by rw [List.length_drop,List.length_replicate];omega)
     rw [hlti,←hCZ,List.append_nil] at h2
     have h3:=rt_cut h2
     rw [hlti,htk,show l.take n=l from by rw [Hn.out,List.take_length]] at h3
     exact h3
    have hbz:Below W0.heap.size W0 (wo.setCells g (i*2) CZ):=hb.grown (Q1v CZ (i*2) ⟨rfl,rfl,rfl,Nat.le_refl _,fun _ _ _=>rfl⟩) hb.size (fun k hk=>by cases hk;exact hgB)
    rw [←hCZ] at hcl
    have Hown:=Qhd hown
    clear own htk hdr hlt hCZ hown hLl hlti
    go_wp2_with fail
    go_ret
    exact ⟨_,rfl,Hown.out,hbz⟩
end Go.Proofs.YtbdmkfjgnjfjbaaGreat
namespace Go.Proofs
open Go.Shelf
shelf_lay Lays.n106 Nm 106 at Tryz as Tryz.strCmp
end Go.Proofs
namespace Go.Proofs.YtbdmkfjgnjfjbaaGreat
open Go.RowKit Go.Shelf Go.Lib Go.Sort
shelf_lay_g SlLaysF0.n6 Slsf 6 at Tryz 140 as Tryz.sortRts
theorem Qjj (x y:Rt)(W:World):Calls Tryz.prog 141 #[.agg (rcells x).toArray,.agg (rcells y).toArray] W fun e w'=>e=.returned (.int .i64 (Lib.compareBytes x.1 y.1))∧∃ q os',w'=grow (W.drewN q) os':=by
 obtain ⟨x1,x2⟩:=x
 obtain ⟨y1,y2⟩:=y
 have hcon:=fun W'=>Any.strings_Compare Tryz.strCmp ⟨x1.toArray⟩ ⟨y1.toArray⟩ W'
 change ∀ W',Calls Tryz.prog 142 _ _ _ at hcon
 dsimp only at hcon
 obtain ⟨R,hR⟩:∃ R,R=Lib.compareBytes x1 y1:=⟨_,rfl⟩
 rw [←hR] at hcon
 show Calls Tryz.prog 141 #[.agg #[.string ⟨x1.toArray⟩,.string ⟨x2.toArray⟩],.agg #[.string ⟨y1.toArray⟩,.string ⟨y2.toArray⟩]] W fun e w'=>e=.returned (.int .i64 (Lib.compareBytes x1 y1))∧∃ q os',w'=grow (W.drewN q) os'
 rw [←hR]
 clear hR
 obtain ⟨X1,hX1⟩:∃ X:ByteArray,X=⟨x1.toArray⟩:=⟨_,rfl⟩
 obtain ⟨Y1,hY1⟩:∃ X:ByteArray,X=⟨y1.toArray⟩:=⟨_,rfl⟩
 simp only [←hX1,←hY1] at hcon ⊢
 clear hX1 hY1
 go_enter Tryz.func141,Tryz.ntmps141
 go_wp2_with (go_at_call 142;refine (hcon _).mono ?_;rintro e w' ⟨rfl,rfl⟩)
 go_ret
 exact ⟨rfl,0,_,by rw [alloc_eq_grow,alloc_eq_grow,grow_grow];rfl⟩
theorem Qjb {w:World}{B g n c:Nat}{ls:List Rt}(h:OwnOf rcells 2 168 w B (.slice (some ⟨g,0,none⟩) n c) ls):HoldsK rcells 2 w g 0 ls.toArray:=by
 obtain ⟨h1,h2⟩:=h
 rcases h2 with ⟨h2,h3⟩|⟨g',cap,cur,h2,h3,h4,h5,h6,h7,h8⟩
 ·cases h2
 ·simp only [Value.slice.injEq,Option.some.injEq,Addr.mk.injEq,and_true] at h2
  obtain ⟨rfl,rfl,rfl⟩:=h2
  intro j hj
  rw [size_flatK,List.size_toArray] at hj
  rw [get_flatK rcells 2 _ j (by simpa using hj)]
  have hi:j / 2<ls.length:=(Nat.div_lt_iff_lt_mul (by omega)).2 hj
  have hr:j % 2<2:=Nat.mod_lt _ (by omega)
  have hf:=Q4j (f:=rcells) (size:=2) (fun _=>rfl) ls (j / 2) hi (j % 2) hr
  rw [show j / 2*2+j % 2=j by omega,←h8,List.getElem?_take,if_pos hj] at hf
  refine ⟨?_,frozen_of_row w g (0+j) cur _ h4⟩
  rw [cell_of_row w g (0+j) cur _ (0,0) h4,Nat.zero_add]
  rw [Array.getElem?_toList] at hf
  have hl:(rcells ls[j / 2]).length=2:=rfl
  rw [hf,getElem!_pos ls.toArray (j / 2) (by simpa using hi),List.getElem_toArray,List.getElem?_eq_getElem (by rw [hl];exact hr),getElem!_pos (rcells ls[j / 2]) (j % 2) (by rw [hl];exact hr)]
  rfl
theorem rt_row {w:World}{g n c:Nat}{ls:List Rt}(h:HoldsK rcells 2 w g 0 ls.toArray)(hn:ls.length=n)(hnc:n≤c)(hm:c≤maxLen):RowOf rcells 2 w (.slice (some ⟨g,0,none⟩) n c) ls:=by
 subst hn
 have hrl:=Q1i ls
 refine ⟨hrl,_,_,rfl,hnc,hm,Or.inr ⟨g,0,none,rfl,.inl rfl,fun j u hu=>?_⟩⟩
 have hj:=(List.getElem?_eq_some_iff.1 hu).1
 rw [hrl] at hj
 have hi:j / 2<ls.length:=(Nat.div_lt_iff_lt_mul (by omega)).2 hj
 have hr:j % 2<2:=Nat.mod_lt _ (by omega)
 have hf:=Q4j (f:=rcells) (size:=2) (fun _=>rfl) ls (j / 2) hi (j % 2) hr
 rw [show j / 2*2+j % 2=j by omega,hu] at hf
 have hc:=(h.cell (i:=j / 2) (c:=j % 2) (by simpa using hi) hr).1
 rw [show 0+j / 2*2+j % 2=0+j by omega] at hc
 have hl:(rcells ls[j / 2]).length=2:=rfl
 rw [hc,getElem!_pos ls.toArray (j / 2) (by simpa using hi),List.getElem_toArray,getElem!_pos (rcells ls[j / 2]) (j % 2) (by rw [hl];exact hr)]
 rw [List.getElem?_eq_getElem (by rw [hl];exact hr)] at hf
 exact hf.symm
theorem Qbx {B:Nat}{w0 w:World}(h:Go.RowKit.Below B w0 w)(g m:Nat)(hg:B≤g)(hgl:g<w.heap.size)(d:Array Rt)(os:Array Obj):Go.RowKit.Below B w0 (sortWorldK rcells 2 w g 0 m d os):=by
 refine ⟨h.os,h.tape,h.output,Nat.le_trans h.size (size_sortWorldK_c rcells 2 w g 0 m d os),fun k hk=>?_⟩
 rw [←h.block k hk]
 have hkw:k<w.heap.size:=Nat.lt_trans (Nat.lt_of_lt_of_le hk hg) hgl
 unfold sortWorldK grow putRowK putRow mapBlock
 simp only [Array.getElem?_append,Array.size_modify,heap_ahead]
 rw [if_pos hkw,Array.getElem?_modify,if_neg (by omega)]
theorem Qg4 (v:Value)(l:List Rt)(W0 w:World)(hl:l.length≤1000000000)(h0:Go.RowKit.Below W0.heap.size W0 w)(h:OwnOf rcells 2 168 w W0.heap.size v l) :
  Calls Tryz.prog 140 #[v,.func (.func 141) #[] #[]] w fun e w'=>e=.returned (.tuple #[])∧∃ d':Array Rt,PermIn 0 l.toArray.size l.toArray d'∧SortedIn rtLt 0 l.toArray.size d'∧RowOf rcells 2 w' v d'.toList∧Go.RowKit.Below W0.heap.size W0 w':=by
 have h':=h
 obtain ⟨hfl,h2⟩:=h'
 rcases h2 with ⟨h2,h3⟩|⟨g,cap,cur,h2,h3,h4,h5,h6,h7,h8⟩
 ·subst h2
  have hln:l=[]:=List.eq_nil_of_length_eq_zero h3
  subst hln
  have hcon:=AnyF.slices_SortFunc_none Tryz.sortRts none 0 (.func (.func 141) #[] #[]) w
  refine Calls.mono hcon ?_
  rintro e w' ⟨rfl,rfl⟩
  exact ⟨rfl,#[],⟨rfl,fun _ _=>rfl,List.Perm.refl _⟩,fun i j _ _ hj=>absurd hj (by simp),RowOf.nil rcells 2 _,h0⟩
 ·subst h2
  have hH:=Qjb h
  have eg:∀ args w,(callFunc 141 args).run Tryz.prog w=.ok (.enter 141 args) w:=enters_of Tryz.func141 (by kernel_rfl) rfl
  have hcmp:CmpLays Tryz.prog 141 #[] rcells 2 (fun x y=>Lib.compareBytes x.1 y.1) g 0 l.toArray.size w:=fun _ _ _ _ x y=>Qjj x y _
  have hglt:g<w.heap.size:=by
   have:=h.row
   exact (World.ownsRow.lt h g rfl).2
  have hcon:=AnyQ.slices_SortFunc Tryz.sortRts 2 Tryz.isAgg168 Tryz.sizeOf168 rcells (fun _=>rfl) (fun x v hv=>by simp [rcells] at hv;rcases hv with rfl|rfl<;>rfl) (fun x y=>Lib.compareBytes x.1 y.1) rt_swo 141 #[] g 0 cap l.toArray w eg hcmp hH hglt (by simp;omega)
  rw [List.size_toArray] at hcon
  refine Calls.mono hcon ?_
  rintro e w' ⟨rfl,d',m,os,hp,hs,rfl⟩
  rw [List.size_toArray]
  refine ⟨rfl,d',hp,hs,?_,Qbx h0 g m h3 hglt d' os⟩
  have hh:=holdsK_sortWorldK_c rcells 2 w g 0 l.toArray d' m os hH hglt hp.1
  have hsz:d'.toList.length=l.length:=by have:=hp.1;simpa using this
  have hh2:HoldsK rcells 2 (sortWorldK rcells 2 w g 0 m d' os) g 0 d'.toList.toArray:=by simpa using hh
  exact rt_row hh2 hsz h5 h6
end Go.Proofs.YtbdmkfjgnjfjbaaGreat
namespace Go.Proofs.YtbdmkfjgnjfjbaaGreat
open Go.RowKit
def RtPost (l:List Rt)(w:World)(e:Ending)(w':World):Prop:=∃ (a:Option Addr) (n c:Nat),e=.returned (.slice a n c)∧RowOf rcells 2 w' (.slice a n c) l∧Below w.heap.size w w'
theorem Q5v {l:List Rt}(h:Ord l)(p v:List UInt8)(m:List Rt)(hm:m=keepR p l++(if v=[] then [] else [(p,v)]))(d':Array Rt)(hp:Sort.PermIn 0 m.toArray.size m.toArray d')(hs:Sort.SortedIn rtLt 0 m.toArray.size d'):d'.toList=rputP l p v :=
 Qfo h p v (d:=m.toArray) (by rw [hm];rfl) hp hs
theorem Q9s (a ka va:Option Addr)(L c kn kc vn vc:Nat)(l:List Rt)(key v:List UInt8)(hL:l.length=L)(hLs:L≤100000000)(ho:Ord l)(hkn:key.length=kn)(hk1:kn≤1000000000)(hvn:v.length=vn)(w:World)(h:RowOf rcells 2 w (.slice a L c) l)(hk:Bytes w (.slice ka kn kc) key)(hv:Bytes w (.slice va vn vc) v) :
  Calls Tryz.prog 111 #[.slice a L c,.slice ka kn kc,.slice va vn vc] w (RtPost (rputP l (Q0d key) v) w):=by
 have c1:=Q40 ka kc key w (by rw [hkn];exact hk) (by omega)
 rw [hkn] at c1
 obtain ⟨P,hP⟩:∃ P,P=Q0d key:=⟨_,rfl⟩
 rw [←hP] at c1 ⊢
 have c2:=fun (u:World) (hu:Below w.heap.size w u)=>Qeb a L c l hL u (h.below hu) (by omega)
 have hkl:(keepR P l).length≤l.length:=List.length_filter_le _ _
 have c3:=fun (x:Value) (W0 u:World) (PB:Nat) (hp:W0.cell? ⟨PB,0,none⟩=some (.string ⟨P.toArray⟩)) (h0:Below W0.heap.size W0 u) (hx:OwnOf rcells 2 168 u W0.heap.size x l)=>Qjg x l (by omega) P PB W0 u hp h0 hx
 have c4:=fun (x:Value) (W0 u:World) (m:List Rt) (hm:m.length≤l.length+1) (h0:Below W0.heap.size W0 u) (hx:OwnOf rcells 2 168 u W0.heap.size x m)=>Qg4 x m W0 u (by omega) h0 hx
 have C1:=Qhd c1
 have C2:=Qhd c2
 have C3:=Qhd c3
 have C4:=Qhd c4
 have Hkl:=Qhd hkl
 have HL:=Qhd hL
 have Ho:=Qhd ho
 have Hv:=Qhd hv
 have hst:=fun u:World=>Q0h (P:=Tryz.prog) (w:=u) (src:=25) (dst:=9) elU8.ht (by kernel_rfl) (by kernel_rfl) (v:=.slice va vn vc) (l:=v)
 have Hst:=Qhd hst
 have Hvn:=Qhd hvn
 clear c1 c2 c3 c4 hkl hL ho hk hP hkn h hv hst
 obtain ⟨PB,hPB⟩:∃ X:ByteArray,X=⟨P.toArray⟩:=⟨_,rfl⟩
 have HPB:=Qhd hPB
 simp only [←hPB] at C3
 clear hPB
 by_cases hv0:v=[]
 ·subst hv0
  simp only [List.length_nil] at hvn
  subst hvn
  clear Hv Hst
  go_enter Tryz.func111,Tryz.ntmps111
  go_wp2_with (first
   |(go_at_call 95;(with_reducible refine C1.out.mono ?_);rintro e w1 ⟨v1,rfl,o1,b1⟩;obtain ⟨a1,c1,rfl,_⟩:=o1.form;have s1:=Q0h (P:=Tryz.prog) (src:=25) (dst:=9) elU8.ht (by kernel_rfl) (by kernel_rfl) o1.row;simp only [str] at s1;rw [←HPB.out] at s1;obtain ⟨w2,hw2⟩:∃ w2,w2=w1.alloc (.cells #[.string PB] 9):=⟨_,rfl⟩;have z2:w2.cell? ⟨w1.heap.size,0,none⟩=some (.string PB):=(by rw [hw2];exact (Blk.new w1 _ _).cell 0);have b2:Below w.heap.size w w2:=(by rw [hw2];exact b1.alloc b1.size _);have Hw2:=Qhd hw2;clear hw2)
   |(go_at_call 138;rw [←Hw2.out];(with_reducible refine (C2.out _ b2).mono ?_);rintro e w3 ⟨v3,rfl,o3,b3⟩;have C5:=Qhd (C3.out v3 w2 w3 w1.heap.size z2 b3 o3))
   |(go_at_call 137;(with_reducible refine C5.out.mono ?_);rintro e w4 ⟨v4,rfl,o4,b4⟩;have C6:=Qhd (C4.out v4 w2 w4 _ (by have:=Hkl.out;omega) b4 o4))
   |(go_at_call 140;(with_reducible refine C6.out.mono ?_);rintro e w5 ⟨rfl,d',hp,hs,r5,b5⟩))
  obtain ⟨a5,n5,rfl,_⟩:=r5.form
  go_ret
  exact ⟨_,_,_,rfl,by rw [←Q5v Ho.out P [] (keepR P l) (by simp) d' hp hs];exact r5,Below.then b2 b5⟩
 ·have hv1:(0:Int)<(vn:Int):=by
   have:=List.length_pos_iff.2 hv0
   omega
  obtain ⟨VB,hVB⟩:∃ X:ByteArray,X=⟨v.toArray⟩:=⟨_,rfl⟩
  simp only [←hVB,str] at Hst
  have hbuilt:∀ u:World,RowOf rcells 2 (u.alloc (.cells #[.string PB,.string VB] 168)) (.slice (some ⟨u.heap.size,0,none⟩) 1 1) [(P,v)]:=by
   rw [HPB.out,hVB]
   exact fun u=>Row.built (f:=rcells) (size:=2) (fun _=>rfl) u 168 [(P,v)] 1 rfl (by unfold maxLen;omega)
  have Hbuilt:=Qhd hbuilt
  have Hv0:=Qhd hv0
  clear hv0 hbuilt hVB
  have hb1:Hid (((keepR P l).length+[(P,v)].length)*32≤140737488355328):=Qhd (by have:=Hkl.out;have:=HL.out;simp only [List.length_singleton];omega)
  have hb2:Hid ((keepR P l).length+[(P,v)].length≤maxLen):=Qhd (by have:=Hkl.out;have:=HL.out;unfold maxLen;simp only [List.length_singleton];omega)
  go_enter Tryz.func111,Tryz.ntmps111
  go_wp2_with (first
   |(go_at_call 95;(with_reducible refine C1.out.mono ?_);rintro e w1 ⟨v1,rfl,o1,b1⟩;obtain ⟨a1,c1,rfl,_⟩:=o1.form;have s1:=Q0h (P:=Tryz.prog) (src:=25) (dst:=9) elU8.ht (by kernel_rfl) (by kernel_rfl) o1.row;simp only [str] at s1;rw [←HPB.out] at s1;obtain ⟨w2,hw2⟩:∃ w2,w2=w1.alloc (.cells #[.string PB] 9):=⟨_,rfl⟩;have z2:w2.cell? ⟨w1.heap.size,0,none⟩=some (.string PB):=(by rw [hw2];exact (Blk.new w1 _ _).cell 0);have b2:Below w.heap.size w w2:=(by rw [hw2];exact b1.alloc b1.size _);have Hw2:=Qhd hw2;clear hw2)
   |(go_at_call 138;rw [←Hw2.out];(with_reducible refine (C2.out _ b2).mono ?_);rintro e w3 ⟨v3,rfl,o3,b3⟩;have C5:=Qhd (C3.out v3 w2 w3 w1.heap.size z2 b3 o3))
   |(go_at_call 137;(with_reducible refine C5.out.mono ?_);rintro e w4 ⟨v4,rfl,o4,b4⟩;have z4:w4.cell? ⟨w1.heap.size,0,none⟩=some (.string PB):=(by rw [b4.cell (World.block_lt_of_cell? w2 _ z2)];exact z2);have bb4:=Below.then b2 b4;have s4:=Hst.out w4 (Hv.out.below bb4);have o44:=o4.kept ((Below.refl w4.heap.size w4).alloc (Nat.le_refl _) (.cells #[.string PB,.string VB] 168));have bA:=b4.alloc b4.size (.cells #[.string PB,.string VB] 168))
   |(refine Q0m (o:=⟨some 24,_,_,_,_,_⟩) (by rfl) (.tmp 18) (.tmp 23) 150 (by rfl) elRt (by rfl) o44 (by rfl) (Hbuilt.out w4) bA.size hb1.out hb2.out ?_;intro v5 w5 o5 g5 _;have b5:=bA.grown g5 bA.size o44.lt;have C6:=Qhd (C4.out v5 w2 w5 _ (by have:=Hkl.out;simp only [List.length_append,List.length_singleton];omega) b5 o5))
   |(go_at_call 140;(with_reducible refine C6.out.mono ?_);rintro e w6 ⟨rfl,d',hp,hs,r6,b6⟩))
  obtain ⟨a6,n6,rfl,_⟩:=r6.form
  go_ret
  exact ⟨_,_,_,rfl,by rw [←Q5v Ho.out P v (keepR P l++[(P,v)]) (by rw [if_neg Hv0.out]) d' hp hs];exact r6,Below.then b2 b6⟩
def putE (kn vn:Nat):Int:=if 32<kn then 3 else if 1024<vn then 2 else 0
theorem Q9x (ka va:Option Addr)(kn kc vn vc:Nat)(w:World):Calls Tryz.prog 110 #[.slice ka kn kc,.slice va vn vc] w fun e w'=>e=.returned (.int .i64 (putE kn vn))∧w'=w:=by
 obtain ⟨R,hR⟩:∃ R,R=putE kn vn:=⟨_,rfl⟩
 rw [←hR]
 unfold putE at hR
 have HR:=Qhd hR
 clear hR
 by_cases h1:32<kn
 ·have hr:R=3:=by rw [HR.out,if_pos h1]
  subst hr
  have h1i:(32:Int)<(kn:Int):=by omega
  clear h1
  go_enter Tryz.func110,Tryz.ntmps110
  go_wp2_with fail
  go_ret
  exact ⟨rfl,rfl⟩
 ·have h1i:¬ (32:Int)<(kn:Int):=by omega
  by_cases h2:1024<vn
  ·have hr:R=2:=by rw [HR.out,if_neg h1,if_pos h2]
   subst hr
   have h2i:(1024:Int)<(vn:Int):=by omega
   clear h1 h2
   go_enter Tryz.func110,Tryz.ntmps110
   go_wp2_with fail
   go_ret
   exact ⟨rfl,rfl⟩
  ·have hr:R=0:=by rw [HR.out,if_neg h1,if_neg h2]
   subst hr
   have h2i:¬ (1024:Int)<(vn:Int):=by omega
   clear h1 h2
   go_enter Tryz.func110,Tryz.ntmps110
   go_wp2_with fail
   go_ret
   exact ⟨rfl,rfl⟩
end Go.Proofs.YtbdmkfjgnjfjbaaGreat
