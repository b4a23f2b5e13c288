/- slices.Clone of bytes and of slots; world.own; world.find; world.Get; the reference's OGet. -/
import Derived.Test.YtbdmkfjgnjfjbaaGreatLazyServesK34
import Derived.Test.YtbdmkfjgnjfjbaaGreatLazyServesK35
import Derived.Test.YtbdmkfjgnjfjbaaGreatLazyServesK41
import Derived.Laws.Externs
import Derived.Lib.Overlaps
set_option linter.unusedSimpArgs false
set_option linter.unusedVariables false
set_option maxHeartbeats 4000000
set_option maxRecDepth 100000
namespace Go.Proofs.YtbdmkfjgnjfjbaaGreat
open Go.RowKit
theorem elSlot:El Tryz.prog 26 102 (.agg z8s.toArray) 8 64 spc where
 ht:=Tryz.underlying26
 hi:=by kernel_rfl
 hzs:=rfl
 hsz:=by omega
 hf:=Q26
 h1:=Qfn
theorem Qev (a:Option Addr)(n c:Nat)(ls:List (UInt8))(hn:ls.length=n)(w:World)(h:RowOf b8 1 w (.slice a n c) ls)(hB:n*1≤140737488355328) :
  Calls Tryz.prog 123 #[.slice a n c] w fun e w'=>∃ v,e=.returned v∧OwnOf b8 1 5 w' w.heap.size v ls∧Below w.heap.size w w':=by
 have hsm:=h.small
 cases a with
 | none =>
  have h0:ls=[]∧n=0:=by
   obtain ⟨_,_,_,hv,_,_,h3⟩:=h
   rcases h3 with ⟨h1,h2,h3⟩|⟨b,off,s,h1,h2,h3⟩
   ·exact ⟨List.eq_nil_of_length_eq_zero (by omega),by omega⟩
   ·simp only [Value.slice.injEq] at hv
    rw [←hv.1] at h1
    simp at h1
  obtain ⟨rfl,rfl⟩:=h0
  have he:∀ w:World,(binOp .eql 25 (.slice none 0 c) (.slice none 0 0)).run Tryz.prog w=.ok (.bool true) w:=fun _=>rfl
  go_enter Tryz.func123,Tryz.ntmps123
  go_wp2
  go_ret
  exact ⟨_,rfl,OwnOf.nil b8 1 _ _ _,Below.refl _ _⟩
 | some p =>
  have Hn:=Qhd hn
  have he:∀ w:World,(binOp .eql 25 (.slice (some p) n c) (.slice none 0 0)).run Tryz.prog w=.ok (.bool false) w:=fun _=>rfl
  go_enter Tryz.func123,Tryz.ntmps123
  go_wp2_with (refine Q0m (o:=⟨some 7,_,_,_,_,_⟩) (by rfl) (.tmp 5) (.tmp 6) 25 (by rfl) elU8 (by rfl) (OwnOf.empty b8 1 5 w w.heap.size (Nat.le_refl _)) (by rfl) (h.alloc _) (by simp) (by simp [Hn.out];omega) (by simp only [List.length_nil];omega) ?_;intro v2 w2 hA2 hg2 hl2)
  go_ret
  refine ⟨_,rfl,hA2,?_⟩
  exact ((Below.refl _ _).alloc (Nat.le_refl _) (.cells #[] 5)).grown hg2 (by simp) (fun j hj=>OwnOf.lt (OwnOf.empty b8 1 5 w w.heap.size (Nat.le_refl _)) j hj)
theorem Qe5 (a:Option Addr)(n c:Nat)(ls:List (Nat × Nat))(hn:ls.length=n)(w:World)(h:RowOf spc 8 w (.slice a n c) ls)(hB:n*64≤140737488355328) :
  Calls Tryz.prog 124 #[.slice a n c] w fun e w'=>∃ v,e=.returned v∧OwnOf spc 8 102 w' w.heap.size v ls∧Below w.heap.size w w':=by
 have hsm:=h.small
 cases a with
 | none =>
  have h0:ls=[]∧n=0:=by
   obtain ⟨_,_,_,hv,_,_,h3⟩:=h
   rcases h3 with ⟨h1,h2,h3⟩|⟨b,off,s,h1,h2,h3⟩
   ·exact ⟨List.eq_nil_of_length_eq_zero (by omega),by omega⟩
   ·simp only [Value.slice.injEq] at hv
    rw [←hv.1] at h1
    simp at h1
  obtain ⟨rfl,rfl⟩:=h0
  have he:∀ w:World,(binOp .eql 26 (.slice none 0 c) (.slice none 0 0)).run Tryz.prog w=.ok (.bool true) w:=fun _=>rfl
  go_enter Tryz.func124,Tryz.ntmps124
  go_wp2
  go_ret
  exact ⟨_,rfl,OwnOf.nil spc 8 _ _ _,Below.refl _ _⟩
 | some p =>
  have Hn:=Qhd hn
  have he:∀ w:World,(binOp .eql 26 (.slice (some p) n c) (.slice none 0 0)).run Tryz.prog w=.ok (.bool false) w:=fun _=>rfl
  go_enter Tryz.func124,Tryz.ntmps124
  go_wp2_with (refine Q0m (o:=⟨some 7,_,_,_,_,_⟩) (by rfl) (.tmp 5) (.tmp 6) 26 (by rfl) elSlot (by rfl) (OwnOf.empty spc 8 102 w w.heap.size (Nat.le_refl _)) (by rfl) (h.alloc _) (by simp) (by simp [Hn.out];omega) (by simp only [List.length_nil];omega) ?_;intro v2 w2 hA2 hg2 hl2)
  go_ret
  refine ⟨_,rfl,hA2,?_⟩
  exact ((Below.refl _ _).alloc (Nat.le_refl _) (.cells #[] 102)).grown hg2 (by simp) (fun j hj=>OwnOf.lt (OwnOf.empty spc 8 102 w w.heap.size (Nat.le_refl _)) j hj)
structure Acc.Sz (a:Acc):Prop where
 c:a.c.length≤140737488355328
 s:a.s.length*64≤140737488355328
def OwnB (B:Nat)(l:List UInt8):Ty:=fun v u=>OwnOf b8 1 5 u B v l
theorem OwnB.mono (B:Nat)(l:List UInt8):Mono (OwnB B l):=fun _ _ _ h hb=>OwnOf.kept h hb
def OwnS (B:Nat)(l:List (Nat × Nat)):Ty:=fun v u=>OwnOf spc 8 102 u B v l
theorem OwnS.mono (B:Nat)(l:List (Nat × Nat)):Mono (OwnS B l):=fun _ _ _ h hb=>OwnOf.kept h hb
theorem Q3s {a:Acc}{w:World}(hi:a.In w):∀ u∈accs a,u.oneCell'=true:=by
 intro u hu
 obtain ⟨ca,cc,sa,sc,h1,h2⟩:=Q0w hi
 unfold accs at hu
 rw [h1,h2] at hu
 rcases List.mem_append.1 hu with hu|hu
 ·rw [List.mem_singleton] at hu;subst hu;rfl
 ·rcases List.mem_append.1 hu with hu|hu
  ·exact Q38 _ u hu
  ·simp only [List.mem_cons,List.not_mem_nil,or_false] at hu
   rcases hu with rfl|rfl<;>rfl
structure OwnAcc (u:World)(B:Nat)(a:Acc):Prop where
 c:OwnOf b8 1 5 u B a.cv a.c
 s:OwnOf spc 8 102 u B a.sv a.s
theorem OwnAcc.In {u:World}{B:Nat}{a:Acc}(h:OwnAcc u B a):a.In u:=⟨h.c.row,h.s.row⟩
theorem Qit (a:Acc)(hz:a.Sz)(w:World)(h:a.In w):Calls Tryz.prog 97 #[.agg (accs a).toArray] w fun e w'=>∃ a':Acc,e=.returned (.agg (accs a').toArray)∧a'.val=a.val∧OwnAcc w' w.heap.size a'∧Below w.heap.size w w':=by
 obtain ⟨ca,cc,sa,sc,hcv,hsv⟩:=Q0w h
 obtain ⟨w1,hw1⟩:∃ w1,w1=(w.alloc (.cells (accs a).toArray 28)).alloc (.cells z7.toArray 28):=⟨_,rfl⟩
 have z1:Blk 28 w1 w.heap.size (accs a):=by rw [hw1];exact (Blk.new w _ _).alloc _
 have z2:Blk 28 w1 (w.heap.size+1) z7:=by
  rw [hw1]
  have:=Blk.new (w.alloc (.cells (accs a).toArray 28)) 28 z7
  simpa using this
 have hbel:Below w.heap.size w w1:=by rw [hw1];exact (Qba _ _).alloc (by simp) _
 have c5:w1.cell? ⟨w.heap.size,5,none⟩=some (.slice ca a.c.length cc):=by have:=z1.cell 5;rw [show (accs a)[5]?=some a.cv from rfl,hcv] at this;exact this
 have c6:w1.cell? ⟨w.heap.size,6,none⟩=some (.slice sa a.s.length sc):=by have:=z1.cell 6;rw [show (accs a)[6]?=some a.sv from rfl,hsv] at this;exact this
 have hC:Bytes w1 (.slice ca a.c.length cc) a.c:=by rw [←hcv];exact (h.below hbel).1
 have hS:RowOf spc 8 w1 (.slice sa a.s.length sc) a.s:=by rw [←hsv];exact (h.below hbel).2
 have cb:=fun u:Ext w1=>Qev ca a.c.length cc a.c rfl u.val (hC.below u.bel) (by have:=hz.c;omega)
 have cs:=fun u:Ext w1=>Qe5 sa a.s.length sc a.s rfl u.val (hS.below u.bel) hz.s
 obtain ⟨cn,hcn⟩:∃ n,n=a.c.length:=⟨_,rfl⟩
 obtain ⟨sn,hsn⟩:∃ n,n=a.s.length:=⟨_,rfl⟩
 rw [←hcn] at cb c5
 rw [←hsn] at cs c6
 obtain ⟨X,hX⟩:∃ X,X=accs a:=⟨_,rfl⟩
 have hXl:X.length=7:=by rw [hX];rfl
 have hXs:∀ v5 v6:Value,(X.set 5 v5).set 6 v6=accs ⟨a.n,a.m,v5,a.c,v6,a.s⟩:=fun v5 v6=>by rw [hX];rfl
 rw [←hX] at z1 hw1 ⊢
 have Hw1:=Qhd hw1
 have Cb:=Qhd cb
 have Cs:=Qhd cs
 have HXs:=Qhd hXs
 have Hcn:=Qhd hcn
 have Hsn:=Qhd hsn
 clear hw1 cb cs hXs hX hcn hsn hcv hsv hC hS
 go_enter Tryz.func97,Tryz.ntmps97
 go_upto_region 1 with fail
 rw [show ((w.alloc (.cells X.toArray 28)).alloc (.cells #[.int .u64 0,.int .u64 0,.int .u64 0,.int .u64 0,.int .u64 0,.slice none 0 0,.slice none 0 0] 28))=w1 from Hw1.out.symm]
 have k5:=fun u:Ext w1=>u.cell c5
 have k6:=fun u:Ext w1=>u.cell c6
 refine Q02 w1 7 (by kernel_rfl) (by kernel_rfl) (Below.refl _ _) ?_;simp only [List.take_succ_cons,List.take_zero,List.take_nil]
 iterate 2 (refine Q01 (by rfl) (fun K hK=>?_);go_simp;refine hK _ ?_;clear hK K)
 refine Q07 5 (OwnB w1.heap.size a.c) rfl (of_decide_eq_true rfl) (OwnB.mono _ _) (fun w3 hw3=>?_) ?_
 ·show _∧_
  refine ⟨by rfl,?_⟩
  go_simp
  refine (Cb.out ⟨w3,hw3⟩).mono ?_
  rintro e w4 ⟨v,h1,h2,h3⟩
  exact ⟨v,h1,OwnOf.lower h2 hw3.size,h3⟩
 iterate 2 (refine Q01 (by rfl) (fun K hK=>?_);go_simp;refine hK _ ?_;clear hK K)
 refine Q07 8 (OwnS w1.heap.size a.s) rfl (of_decide_eq_true rfl) (OwnS.mono _ _) (fun w3 hw3=>?_) ?_
 ·show _∧_
  refine ⟨by rfl,?_⟩
  go_simp
  refine (Cs.out ⟨w3,hw3⟩).mono ?_
  rintro e w4 ⟨v,h1,h2,h3⟩
  exact ⟨v,h1,OwnOf.lower h2 hw3.size,h3⟩
 (refine Q01 (by rfl) (fun K hK=>?_);go_simp;refine hK _ ?_;clear hK K)
 refine Q09 ?_
 intro y5 b5
 show ∀ v5,OwnB w1.heap.size a.c v5 y5→∀ v8,OwnS w1.heap.size a.s v8 y5→wpList _ _ _ [_,_,_] _ _
 intro v5 h5 v8 h8
 try simp only [Act.put,Qzs]
 obtain ⟨a5,n5,rfl,_⟩:=OwnOf.form' h5 cn Hcn.out.symm
 obtain ⟨a8,n8,rfl,_⟩:=OwnOf.form' h8 sn Hsn.out.symm
 have z15:=z1.kept b5
 have z25:=z2.kept b5
 have q5:y5.cell? ⟨w.heap.size,5,none⟩=some (.slice ca cn cc):=by rw [b5.cell (World.block_lt_of_cell? w1 _ c5)];exact c5
 have q6:y5.cell? ⟨w.heap.size,6,none⟩=some (.slice sa sn sc):=by rw [b5.cell (World.block_lt_of_cell? w1 _ c6)];exact c6
 have f5:=z15.free 5
 have f6:=z15.free 6
 clear k5 k6
 go_upto_region 2 with fail
 have z16:=(z15.set 5 (.slice a5 cn n5)).set 6 (.slice a8 sn n8)
 rw [HXs.out] at z16
 have z26:=(z25.other ⟨w.heap.size,5,none⟩ (by show w.heap.size≠w.heap.size+1;omega) (.slice a5 cn n5)).other ⟨w.heap.size,6,none⟩ (by show w.heap.size≠w.heap.size+1;omega) (.slice a8 sn n8)
 have n5':=h5.notT z15 (by decide)
 have n8':=h8.notT z15 (by decide)
 have o5:=(OwnOf.grown h5 (Q0r (w:=y5) (g:=w.heap.size) 5 (.slice a5 cn n5)) (fun k hk e=>n5' (by cases hk;exact e))).grown (Q0r 6 (.slice a8 sn n8)) (fun k hk e=>n5' (by cases hk;exact e))
 have o8:=(OwnOf.grown h8 (Q0r (w:=y5) (g:=w.heap.size) 5 (.slice a5 cn n5)) (fun k hk e=>n8' (by cases hk;exact e))).grown (Q0r 6 (.slice a8 sn n8)) (fun k hk e=>n8' (by cases hk;exact e))
 have bb6:=((Below.then hbel b5).setCell (p:=⟨w.heap.size,5,none⟩) (Nat.le_refl _) (.slice a5 cn n5)).setCell (p:=⟨w.heap.size,6,none⟩) (Nat.le_refl _) (.slice a8 sn n8)
 obtain ⟨y6,hy6⟩:∃ x,x=(y5.setCell ⟨w.heap.size,5,none⟩ (.slice a5 cn n5)).setCell ⟨w.heap.size,6,none⟩ (.slice a8 sn n8):=⟨_,rfl⟩
 rw [←hy6] at z16 z26 o5 o8 bb6
 try simp only [←hy6]
 obtain ⟨Y,hY⟩:∃ Y,Y=accs ⟨a.n,a.m,.slice a5 cn n5,a.c,.slice a8 sn n8,a.s⟩:=⟨_,rfl⟩
 have hYl:Y.length=7:=by rw [hY];rfl
 have hYo:∀ u∈Y,u.oneCell'=true:=by
  rw [hY]
  intro u hu
  unfold accs at hu
  rcases List.mem_append.1 hu with hu|hu
  ·rw [List.mem_singleton] at hu;subst hu;rfl
  ·rcases List.mem_append.1 hu with hu|hu
   ·exact Q38 _ u hu
   ·simp only [List.mem_cons,List.not_mem_nil,or_false] at hu
    rcases hu with rfl|rfl<;>rfl
 rw [←hY] at z16
 have HY:=Qhd hY
 clear hY hy6 q5 q6 f5 f6 z15 z25 h5 h8
 go_wp2_with (first
  |((with_reducible refine Qgl 11 ?_);refine Qla 28 1 w.heap.size aggAcc z16 hYl ?_)
  |((with_reducible refine Qgs 11 ?_);refine Qsa 28 2 11 (w.heap.size+1) Y aggAcc z26 hYl rfl hYo (Below.refl (w.heap.size+1) y6) (Nat.le_refl _) ?_;intro y7 z7' _ g7))
 refine bodyPost_ret (Q0b rfl _ _ (w.heap.size+1) aggAcc z7' hYl rfl) rfl ?_
 have m5:=o5.notT z26 (by decide)
 have m8:=o8.notT z26 (by decide)
 refine ⟨⟨a.n,a.m,.slice a5 cn n5,a.c,.slice a8 sn n8,a.s⟩,by rw [HY.out],rfl,⟨(o5.grown g7 (fun k hk e=>m5 (by cases hk;exact e))).lower hbel.size,(o8.grown g7 (fun k hk e=>m8 (by cases hk;exact e))).lower hbel.size⟩,bb6.grown g7 bb6.size (fun k hk=>by cases hk;exact Nat.le_succ _)⟩
theorem Qi3 (q:Hol)(A:List UInt8)(hA:A.length=8)(w:World) :
  Calls Tryz.prog 122 #[.agg (hols q).toArray,.agg (by8 A).toArray] w fun e w'=>e=.returned (.int .i64 (ordI q.adr (numL A)))∧Below w.heap.size w w':=by
 obtain ⟨w1,hw1⟩:∃ w1,w1=(w.alloc (.cells (hols q).toArray 123)).alloc (.cells (by8 A).toArray 41):=⟨_,rfl⟩
 have z2:Blk 123 w1 w.heap.size (hols q):=by rw [hw1];exact (Blk.new w _ _).alloc _
 have z3:Blk 41 w1 (w.heap.size+1) (by8 A):=by
  rw [hw1]
  have:=Blk.new (w.alloc (.cells (hols q).toArray 123)) 41 (by8 A)
  simpa using this
 have hbel:Below w.heap.size w w1:=by rw [hw1];exact (Qba _ _).alloc (by simp) _
 have rq:w1.rangeAt w.heap.size 0 (by8 q.f):=fun j v hv=>by
  rw [Nat.zero_add,z2.cell,Q3e q j (by have:=(List.getElem?_eq_some_iff.1 hv).1;rw [Q0n,q.l] at this;exact this)];exact hv
 have cc:=fun u=>Q7u q.f A q.l hA u
 obtain ⟨R,hR⟩:∃ R,R=ordI (numL q.f) (numL A):=⟨_,rfl⟩
 rw [←hR] at cc
 show Calls Tryz.prog 122 _ _ (fun e w'=>e=.returned (.int .i64 (ordI (numL q.f) (numL A)))∧_)
 rw [←hR]
 obtain ⟨V,hV⟩:∃ V,V=by8 q.f:=⟨_,rfl⟩
 obtain ⟨Y,hY⟩:∃ Y,Y=by8 A:=⟨_,rfl⟩
 obtain ⟨X,hX⟩:∃ X,X=hols q:=⟨_,rfl⟩
 have hlV:V.length=8:=by rw [hV,Q0n,q.l]
 have hlY:Y.length=8:=by rw [hY,Q0n,hA]
 rw [←hV,←hY] at cc
 rw [←hV] at rq
 rw [←hY] at z3 hw1 ⊢
 rw [←hX] at hw1 ⊢
 have Cc:=Qhd cc
 have Hw1:=Qhd hw1
 clear cc hw1 hR hV hY hX z2
 go_enter Tryz.func122,Tryz.ntmps122
 go_upto_region 1 with fail
 rw [←Hw1.out]
 go_wp2_with (first
  |((with_reducible refine Qgl 6 ?_);refine Qlw 41 5 w.heap.size 0 Q0v hlV rq ?_)
  |((with_reducible refine Qgl 7 ?_);refine Qla 41 3 (w.heap.size+1) Q0v z3 hlY ?_)
  |(go_at_call 99;refine (Cc.out _).mono ?_;rintro e w2 ⟨rfl,b2⟩))
 go_ret
 exact ⟨rfl,Below.then hbel b2⟩
theorem Qlq {f : FuncId} {fn : Func} {c : Code} (hf : Tryz.prog.funcs[f]? = some fn) (hname : (fn.name == "runtime.NumGoroutine") = false) (hb : fn.body = some c) (a b : Value) (w : World) :
  (callFunc f #[a,b]).run Tryz.prog w=.ok (.enter f #[a,b]) w:=by
 have h1 : fn.name ≠ "runtime.NumGoroutine" := by simpa using hname
 simp [callFunc,hf,h1,hb]
def Rising (l:List Hol):Prop:=∀ i j (hi:i<l.length) (hj:j<l.length),i<j→l[i].adr<l[j].adr
theorem Q5z {l:List Hol}(h:rightB l=true):Rising l:=by
 have hs:∀ i (hi:i+1<l.length),l[i].adr<l[i+1].adr:=fun i hi=>by
  have h1:=List.all_eq_true.1 h (i+1) (List.mem_range.2 hi)
  unfold okH at h1
  rw [List.getElem?_eq_getElem hi] at h1
  simp only [Bool.and_eq_true,Bool.or_eq_true,decide_eq_true_eq] at h1
  have h2:=h1.2.2.2
  rcases h2 with h2|h2
  ·simp at h2
  ·rw [Nat.add_sub_cancel,List.getD_eq_getElem?_getD,List.getElem?_eq_getElem (by omega)] at h2
   exact h2
 intro i j hi hj hij
 obtain ⟨d,rfl⟩:∃ d,j=i+1+d:=⟨j - i - 1,by omega⟩
 clear hij
 induction d with
 | zero=>exact hs i hj
 | succ d ih =>
  have h1:=ih (by omega)
  have h2:=hs (i+1+d) (by omega)
  exact Nat.lt_trans h1 h2
theorem Qlb (A B:Nat):(ordI A B<0)↔A<B:=by
 unfold ordI
 split
 ·omega
 ·split<;>omega
theorem Qld (A B:Nat):(ordI A B=0)↔A=B:=by
 unfold ordI
 split
 ·omega
 ·split<;>omega
def FindP (l:List Hol)(t:Nat)(i:Nat)(ok:Bool):Prop:=i≤l.length∧(∀ k (hk:k<l.length),k<i→l[k].adr<t)∧(∀ k (hk:k<l.length),i≤k→t≤l[k].adr)∧(ok=true↔∃ hi:i<l.length,l[i].adr=t)
theorem Qbw (a:Option Addr)(n c:Nat)(l:List Hol)(hn:l.length=n)(hs:Rising l)(A:List UInt8)(hA:A.length=8)(hB:n≤140737488355328)(w:World)(h:RowOf hols 15 w (.slice a n c) l) :
  Calls Tryz.prog 121 #[.slice a n c,.agg (by8 A).toArray,.func (.func 122) #[] #[]] w fun e w'=>∃ (i:Nat) (ok:Bool),e=.returned (.tuple #[.int .i64 (i:Int),.bool ok])∧FindP l (numL A) i ok∧Below w.heap.size w w':=by
 have Hn:=Qhd hn
 have Hs:=Qhd hs
 have hsm:=h.small
 unfold maxLen at hsm
 rw [hn] at hsm
 have z4:=Blk.new w 41 (by8 A)
 have hbel0:Below w.heap.size w (w.alloc (.cells (by8 A).toArray 41)):=Qba _ _
 have en:=fun a b w=>Qlq Tryz.func122 (by decide) rfl a b w
 have cc:=fun q u=>Qi3 q A hA u
 obtain ⟨T,hT⟩:∃ T,T=numL A:=⟨_,rfl⟩
 rw [←hT] at cc ⊢
 obtain ⟨Y,hY⟩:∃ Y,Y=by8 A:=⟨_,rfl⟩
 have hlY:Y.length=8:=by rw [hY,Q0n,hA]
 rw [←hY] at z4 hbel0 cc ⊢
 have Cc:=Qhd cc
 clear hn hs cc hT hY
 go_enter Tryz.func121,Tryz.ntmps121
 go_wp2_with fail
 go_loopw [9,10] (fun s9 s10 wr=>∃ i j:Nat,s9=.int .i64 (i:Int)∧s10=.int .i64 (j:Int)∧i≤j∧j≤n∧Below w.heap.size w wr∧Blk 41 wr w.heap.size Y∧Hid ((∀ k (hk:k<l.length),k<i→l[k].adr<T)∧(∀ k (hk:k<l.length),j≤k→T≤l[k].adr))) (fun s9 s10 _=>(intOf s10).toNat - (intOf s9).toNat)
 case atStart=>exact ⟨0,n,rfl,rfl,by omega,by omega,hbel0,z4,Qhd ⟨fun k hk h=>by omega,fun k hk h=>by have:=Hn.out;omega⟩⟩
 case round =>
  clear z4 hbel0
  obtain ⟨i,j,rfl,rfl,hij,hjn,hbel,zr,hP⟩:=hrel
  by_cases hlt:i<j
  ·have hz:(i:Int)<(j:Int):=by omega
   obtain ⟨m,hm⟩:∃ m,m=(i+j) / 2:=⟨_,rfl⟩
   have hmn:m<n:=by omega
   have hml:m<l.length:=by rw [Hn.out];exact hmn
   have e1:IntKind.i64.wrap ((i:Int)+(j:Int))=((i+j:Nat):Int):=by rw [IntWalk.i64_in _ (by omega)];omega
   have e2:IntKind.u64.wrap ((i+j:Nat):Int)=((i+j:Nat):Int):=IntWalk.u64_in _ ⟨by omega,by omega⟩
   have e3:((i+j:Nat):Int) / 2=(m:Int):=by omega
   have e4:IntKind.i64.wrap (m:Int)=(m:Int):=IntWalk.i64_in _ (by omega)
   have hmz:(m:Int)<(n:Int):=by omega
   obtain ⟨b,off,rfl,hr⟩:=RowOf.range Q10 (h.below hbel) m hml
   obtain ⟨ij,hij2⟩:∃ x,x=i+j:=⟨_,rfl⟩
   rw [←hij2] at e1 e2 e3
   obtain ⟨q,hq⟩:∃ q,q=l[m]:=⟨_,rfl⟩
   rw [←hq] at hr
   have c1:=fun u=>Cc.out q u
   have hol:=Qlb q.adr T
   obtain ⟨r,hrr⟩:∃ r,r=ordI q.adr T:=⟨_,rfl⟩
   rw [←hrr] at c1 hol
   obtain ⟨X,hX⟩:∃ X,X=hols q:=⟨_,rfl⟩
   have hlX:X.length=15:=by rw [hX];exact Q10 q
   rw [←hX] at hr c1
   have C1:=Qhd c1
   have RX:=Qhd hr
   have RY:=Qhd (Blk.all0 zr)
   have Hq:=Qhd hq
   have Hm:=Qhd hm
   clear c1 hX hrr hr hq hm hij2
   have go:∀ {G:Prop},(r<0→decide (r<0)=true→G)→(¬ r<0→decide (r<0)=false→G)→G:=fun {G} h1 h2=>by
    by_cases hrn:r<0
    ·exact h1 hrn (decide_eq_true hrn)
    ·exact h2 hrn (decide_eq_false hrn)
   refine go (fun hr0 hr1=>?_) (fun hr0 hr1=>?_)
   all_goals clear go
   ·have hlow:q.adr<T:=hol.1 hr0
    have Hlow:=Qhd hlow
    have hadd:IntKind.i64.wrap ((m:Int)+1)=((m+1:Nat):Int):=by rw [IntWalk.i64_in _ (by omega)];omega
    clear hol hlow
    go_upto_region 5 with fail
    refine Q02 wr 7 (by kernel_rfl) (by kernel_rfl) (Below.refl _ _) ?_;simp only [List.take_succ_cons,List.take_zero,List.take_nil]
    iterate 4 (refine Q01 (by rfl) (fun K hK=>?_);go_simp;refine hK _ ?_;clear hK K)
    (refine Q01 (by rfl) (fun K hK=>?_);rw [if_pos (by rfl)];refine ⟨_,fun u=>Q08 _ (.tmp 27) (by rfl) _ _ (by rfl) aggHol hlX (rangeAt.ext RX.out u),hK _ ?_⟩;clear hK K;simp only [Act.put,Qzs])
    (refine Q01 (by rfl) (fun K hK=>?_);rw [if_pos (by rfl)];refine ⟨_,fun u=>Q08 _ (.tmp 4) (by rfl) _ _ (by rfl) Q0v hlY (rangeAt.ext RY.out u),hK _ ?_⟩;clear hK K;simp only [Act.put,Qzs])
    (refine Q01 (by rfl) (fun K hK=>?_);go_simp;first|(refine hK _ ?_;clear hK K)|(apply Exists.intro;refine ⟨fun _=>?_,hK _ ?_⟩;exact C1.out _;clear hK K))
    refine Q09 ?_
    intro y5 b5
    change wpList _ _ _ [_] _ _
    try simp only [Act.put,Qzs]
    go_wp2_with fail
    go_roundw
    case rel =>
     refine ⟨m+1,j,rfl,rfl,by have:=Hm.out;omega,hjn,Below.then hbel b5,zr.kept b5,Qhd ⟨fun k hk hkm=>?_,hP.out.2⟩⟩
     by_cases hkm2:k=m
     ·subst hkm2
      have:=Hlow.out
      rw [Hq.out] at this;exact this
     ·have h1:=Hs.out k m hk hml (by omega)
      have h2:=Hlow.out
      rw [Hq.out] at h2
      exact Nat.lt_trans h1 h2
    case measure=>simp [intOf];have:=Hm.out;omega
   ·have hhigh:T≤q.adr:=Nat.le_of_not_lt (fun h=>hr0 (hol.2 h))
    have Hhigh:=Qhd hhigh
    clear hol hhigh
    go_upto_region 5 with fail
    refine Q02 wr 7 (by kernel_rfl) (by kernel_rfl) (Below.refl _ _) ?_;simp only [List.take_succ_cons,List.take_zero,List.take_nil]
    iterate 4 (refine Q01 (by rfl) (fun K hK=>?_);go_simp;refine hK _ ?_;clear hK K)
    (refine Q01 (by rfl) (fun K hK=>?_);rw [if_pos (by rfl)];refine ⟨_,fun u=>Q08 _ (.tmp 27) (by rfl) _ _ (by rfl) aggHol hlX (rangeAt.ext RX.out u),hK _ ?_⟩;clear hK K;simp only [Act.put,Qzs])
    (refine Q01 (by rfl) (fun K hK=>?_);rw [if_pos (by rfl)];refine ⟨_,fun u=>Q08 _ (.tmp 4) (by rfl) _ _ (by rfl) Q0v hlY (rangeAt.ext RY.out u),hK _ ?_⟩;clear hK K;simp only [Act.put,Qzs])
    (refine Q01 (by rfl) (fun K hK=>?_);go_simp;first|(refine hK _ ?_;clear hK K)|(apply Exists.intro;refine ⟨fun _=>?_,hK _ ?_⟩;exact C1.out _;clear hK K))
    refine Q09 ?_
    intro y5 b5
    change wpList _ _ _ [_] _ _
    try simp only [Act.put,Qzs]
    go_wp2_with fail
    go_roundw
    case rel =>
     refine ⟨i,m,rfl,rfl,by have:=Hm.out;omega,by omega,Below.then hbel b5,zr.kept b5,Qhd ⟨hP.out.1,fun k hk hkm=>?_⟩⟩
     have h2:=Hhigh.out
     rw [Hq.out] at h2
     by_cases hkm2:k=m
     ·subst hkm2;exact h2
     ·have h1:=Hs.out m k hml hk (by omega)
      exact Nat.le_trans h2 (Nat.le_of_lt h1)
    case measure=>simp [intOf];have:=Hm.out;omega
  ·obtain rfl:i=j:=by omega
   have hz:¬ (i:Int)<(i:Int):=by omega
   by_cases hin:i<n
   ·have hil:i<l.length:=by rw [Hn.out];exact hin
    have hinz:(i:Int)<(n:Int):=by omega
    obtain ⟨b,off,rfl,hr⟩:=RowOf.range Q10 (h.below hbel) i hil
    obtain ⟨q,hq⟩:∃ q,q=l[i]:=⟨_,rfl⟩
    rw [←hq] at hr
    have c1:=fun u=>Cc.out q u
    have hol:=Qld q.adr T
    obtain ⟨r,hrr⟩:∃ r,r=ordI q.adr T:=⟨_,rfl⟩
    rw [←hrr] at c1 hol
    obtain ⟨X,hX⟩:∃ X,X=hols q:=⟨_,rfl⟩
    have hlX:X.length=15:=by rw [hX];exact Q10 q
    rw [←hX] at hr c1
    have C1:=Qhd c1
    have RX:=Qhd hr
    have RY:=Qhd (Blk.all0 zr)
    have Hq:=Qhd hq
    obtain ⟨R,hR⟩:∃ R:Bool,R=(r==0):=⟨_,rfl⟩
    have hRb:(r==0)=R:=hR.symm
    have Hfin:Hid (R=true↔∃ hi:i<l.length,l[i].adr=T):=Qhd (by
     rw [hR,beq_iff_eq,hol,hq]
     exact ⟨fun h=>⟨hil,h⟩,fun ⟨_,h⟩=>h⟩)
    clear c1 hX hrr hr hq hR hol
    go_wp2_with fail
    refine Q02 wr 15 (by kernel_rfl) (by kernel_rfl) (Below.refl _ _) ?_;simp only [List.take_succ_cons,List.take_zero,List.take_nil]
    iterate 9 (refine Q01 (by rfl) (fun K hK=>?_);go_simp;refine hK _ ?_;clear hK K)
    (refine Q01 (by rfl) (fun K hK=>?_);rw [if_pos (by rfl)];refine ⟨_,fun u=>Q08 _ (.tmp 43) (by rfl) _ _ (by rfl) aggHol hlX (rangeAt.ext RX.out u),hK _ ?_⟩;clear hK K;simp only [Act.put,Qzs])
    (refine Q01 (by rfl) (fun K hK=>?_);rw [if_pos (by rfl)];refine ⟨_,fun u=>Q08 _ (.tmp 4) (by rfl) _ _ (by rfl) Q0v hlY (rangeAt.ext RY.out u),hK _ ?_⟩;clear hK K;simp only [Act.put,Qzs])
    (refine Q01 (by rfl) (fun K hK=>?_);go_simp;first|(refine hK _ ?_;clear hK K)|(apply Exists.intro;refine ⟨fun _=>?_,hK _ ?_⟩;exact C1.out _;clear hK K))
    iterate 3 (refine Q01 (by rfl) (fun K hK=>?_);go_simp;refine hK _ ?_;clear hK K)
    refine Q09 ?_
    intro y5 b5
    change wpList _ _ _ [_] _ _
    try simp only [Act.put,Qzs]
    go_wp2_with fail
    go_ret2
    exact ⟨i,R,rfl,⟨Nat.le_of_lt hil,hP.out.1,hP.out.2,Hfin.out⟩,Below.then hbel b5⟩
   ·obtain rfl:i=n:=by omega
    have hinz:¬ (i:Int)<(i:Int):=by omega
    go_wp2_with fail
    refine Q02 wr 15 (by kernel_rfl) (by kernel_rfl) (Below.refl _ _) ?_;simp only [List.take_succ_cons,List.take_zero,List.take_nil]
    iterate 15 (refine Q01 (by rfl) (fun K hK=>?_);go_simp;refine hK _ ?_;clear hK K)
    refine Q09 ?_
    intro y5 b5
    change wpList _ _ _ [_] _ _
    try simp only [Act.put,Qzs]
    go_wp2_with fail
    go_ret2
    exact ⟨i,false,rfl,⟨by rw [Hn.out];exact Nat.le_refl _,hP.out.1,hP.out.2,⟨fun h=>by simp at h,fun ⟨hi,_⟩=>absurd hi (by rw [Hn.out];omega)⟩⟩,Below.then hbel b5⟩
theorem Qkc (a:Option Addr)(n c:Nat)(l:List Hol)(hn:l.length=n)(hs:Rising l)(A:List UInt8)(hA:A.length=8)(hB:n≤140737488355328)(w:World)(h:RowOf hols 15 w (.slice a n c) l) :
  Calls Tryz.prog 96 #[.slice a n c,.agg (by8 A).toArray] w fun e w'=>∃ (i:Nat) (ok:Bool),e=.returned (.tuple #[.int .i64 (i:Int),.bool ok])∧FindP l (numL A) i ok∧Below w.heap.size w w':=by
 have z4:=Blk.new w 41 (by8 A)
 have hbel0:Below w.heap.size w (w.alloc (.cells (by8 A).toArray 41)):=Qba _ _
 have cb:=fun u (hu:Below w.heap.size w u)=>Qbw a n c l hn hs A hA hB u (h.below hu)
 obtain ⟨Y,hY⟩:∃ Y,Y=by8 A:=⟨_,rfl⟩
 have hlY:Y.length=8:=by rw [hY,Q0n,hA]
 rw [←hY] at z4 hbel0 cb ⊢
 have Cb:=Qhd cb
 clear cb hY hn hs hA h
 go_enter Tryz.func96,Tryz.ntmps96
 go_wp2_with (first
  |((with_reducible refine Qgl 7 ?_);refine Qla 41 3 w.heap.size Q0v z4 hlY ?_)
  |(go_at_call 121;refine (Cb.out _ hbel0).mono ?_;rintro e w2 ⟨i,ok,rfl,hF,b2⟩))
 go_ret2
 exact ⟨i,ok,rfl,hF,Below.then hbel0 b2⟩
def GetR (l:List Hol)(t:Nat)(V:Nat × Nat × List UInt8 × List (Nat × Nat))(E:Nat):Prop :=
 (rightB l=false∧E=1∧V=zA.val)∨(rightB l=true∧E=0∧((∃ (i:Nat) (hi:i<l.length),l[i].adr=t∧V=l[i].a.val)∨((∀ (i:Nat) (hi:i<l.length),l[i].adr≠t)∧V=zA.val)))
theorem GetR.one {l:List Hol}{t:Nat}{V V':Nat × Nat × List UInt8 × List (Nat × Nat)}{E E':Nat}(h:GetR l t V E)(h':GetR l t V' E'):V=V'∧E=E':=by
 rcases h with ⟨h1,rfl,rfl⟩|⟨h1,rfl,h2⟩
 ·rcases h' with ⟨h3,rfl,rfl⟩|⟨h3,rfl,h4⟩
  ·exact ⟨rfl,rfl⟩
  ·rw [h1] at h3;cases h3
 ·rcases h' with ⟨h3,rfl,rfl⟩|⟨h3,rfl,h4⟩
  ·rw [h1] at h3;cases h3
  ·refine ⟨?_,rfl⟩
   have hr:=Q5z h1
   rcases h2 with ⟨i,hi,e1,rfl⟩|⟨n1,rfl⟩
   ·rcases h4 with ⟨j,hj,e2,rfl⟩|⟨n2,rfl⟩
    ·rcases Nat.lt_trichotomy i j with h|h|h
     ·have:=hr i j hi hj h;omega
     ·subst h;rfl
     ·have:=hr j i hj hi h;omega
    ·exact absurd e1 (n2 i hi)
   ·rcases h4 with ⟨j,hj,e2,rfl⟩|⟨n2,rfl⟩
    ·exact absurd e2 (n1 j hj)
    ·rfl
def Q52 (l:List Hol)(t:Nat)(w:World)(e:Ending)(w':World):Prop:=∃ (a':Acc) (E:Nat),e=.returned (.tuple #[.agg (accs a').toArray,.int .i64 (E:Int)])∧GetR l t a'.val E∧a'.In w'∧Below w.heap.size w w'
theorem Qc8 (a:Option Addr)(n c:Nat)(l:List Hol)(hn:l.length=n)(hk:∀ h∈l,h.a.Ok)(hz:∀ h∈l,h.a.Sz)(A:List UInt8)(hA:A.length=8)(hB:n≤140737488355328)(w:World)(h:RowOf hols 15 w (.slice a n c) l)(hi:∀ h∈l,h.a.In w) :
  Calls Tryz.prog 63 #[.slice a n c,.agg (by8 A).toArray] w (Q52 l (numL A) w):=by
 obtain ⟨w1,hw1⟩:∃ w1,w1=(w.alloc (.cells (by8 A).toArray 41)).alloc (.cells z7.toArray 28):=⟨_,rfl⟩
 have z3:Blk 41 w1 w.heap.size (by8 A):=by rw [hw1];exact (Blk.new w _ _).alloc _
 have z4:Blk 28 w1 (w.heap.size+1) z7:=by
  rw [hw1]
  have:=Blk.new (w.alloc (.cells (by8 A).toArray 41)) 28 z7
  simpa using this
 have hbel:Below w.heap.size w w1:=by rw [hw1];exact (Qba _ _).alloc (by simp) _
 have cr:=Q4n a n c l hn hk w1 (h.below hbel) (fun q hq=>(hi q hq).below hbel)
 have hw:=Q5z (l:=l)
 obtain ⟨xR,hxR⟩:∃ x,x=rightB l:=⟨_,rfl⟩
 rw [←hxR] at cr hw
 have cf:=fun (hr:xR=true) u (hu:Below w.heap.size w u)=>Qkc a n c l hn (hw hr) A hA hB u (h.below hu)
 obtain ⟨T,hT⟩:∃ T,T=numL A:=⟨_,rfl⟩
 rw [←hT] at cf ⊢
 obtain ⟨Y,hY⟩:∃ Y,Y=by8 A:=⟨_,rfl⟩
 have hlY:Y.length=8:=by rw [hY,Q0n,hA]
 rw [←hY] at z3 hw1 cf ⊢
 have Cr:=Qhd cr
 have Cf:=Qhd cf
 have Hw1:=Qhd hw1
 have HxR:=Qhd hxR
 have Hn:=Qhd hn
 have Hz:=Qhd hz
 have Hi:=Qhd hi
 have hzo:∀ u∈z7,u.oneCell'=true:=by intro u hu;unfold z7 at hu;simp only [List.mem_cons,List.not_mem_nil,or_false] at hu;rcases hu with rfl|rfl|rfl|rfl|rfl|rfl|rfl<;>rfl
 clear cr cf hw1 hxR hT hY hn hz hi hk hw hA
 cases xR with
 | false =>
  go_enter Tryz.func63,Tryz.ntmps63
  go_wp2_with (first
   |(go_at_call 67;rw [show ((w.alloc (.cells Y.toArray 41)).alloc (.cells #[.int .u64 0,.int .u64 0,.int .u64 0,.int .u64 0,.int .u64 0,.slice none 0 0,.slice none 0 0] 28))=w1 from Hw1.out.symm];refine Cr.out.mono ?_;rintro e w2 ⟨rfl,b2⟩;have bb2:=Below.then hbel b2;have z42:=z4.kept b2)
   |((with_reducible refine Qgs 11 ?_);refine Qsa 28 4 11 (w.heap.size+1) z7 aggAcc z42 rfl rfl hzo bb2 (Nat.le_succ _) ?_;intro w5 hb5 bb5 _))
  refine bodyPost_ret (Q04 rfl _ _ (w.heap.size+1) aggAcc hb5 rfl rfl rfl) rfl ?_
  exact ⟨zA,1,rfl,.inl ⟨HxR.out.symm,rfl,rfl⟩,zA_in _,bb5⟩
 | true =>
  go_enter Tryz.func63,Tryz.ntmps63
  go_upto_region 4 with (first
   |(go_at_call 67;rw [show ((w.alloc (.cells Y.toArray 41)).alloc (.cells #[.int .u64 0,.int .u64 0,.int .u64 0,.int .u64 0,.int .u64 0,.slice none 0 0,.slice none 0 0] 28))=w1 from Hw1.out.symm];refine Cr.out.mono ?_;rintro e w2 ⟨rfl,b2⟩;have bb2:=Below.then hbel b2;have z42:=z4.kept b2;have z32:=z3.kept b2)
   |((with_reducible refine Qgl 14 ?_);refine Qla 41 3 w.heap.size Q0v z32 hlY ?_)
   |(go_at_call 96;refine (Cf.out (by trivial) _ bb2).mono ?_;rintro e w3 ⟨i,ok,rfl,hF,b3⟩;have bb3:=Below.then bb2 b3;have z43:=z42.kept b3;have HF:=Qhd hF;clear hF))
  cases ok with
  | true =>
   obtain ⟨hil,hadr⟩:=HF.out.2.2.2.1 rfl
   have hiz:(i:Int)<(n:Int):=by have:=Hn.out;omega
   have hin:i<n:=by have:=Hn.out;omega
   obtain ⟨b,off,rfl,hr⟩:=RowOf.range Q10 (h.below bb3) i hil
   have hsz:=Hz.out _ (List.getElem_mem hil)
   have hii:=(Hi.out _ (List.getElem_mem hil)).below bb3
   obtain ⟨q,hq⟩:∃ q,q=l[i]:=⟨_,rfl⟩
   rw [←hq] at hr hsz hii hadr
   have hra:w3.rangeAt b (off+i*15+8) (accs q.a):=fun j v hv=>by
    have:=hr (8+j) v (by rw [Q20];exact hv)
    rw [show off+i*15+8+j=off+i*15+(8+j) from by omega];exact this
   have co:=Qit q.a hsz w3 hii
   have Hg:Hid (∀ V,V=q.a.val→GetR l T V 0):=Qhd (fun V hV=>.inr ⟨HxR.out.symm,rfl,.inl ⟨i,hil,by rw [←hq];exact hadr,by rw [←hq];exact hV⟩⟩)
   obtain ⟨X,hX⟩:∃ X,X=accs q.a:=⟨_,rfl⟩
   have hlX:X.length=7:=by rw [hX];rfl
   rw [←hX] at hra co
   have Co:=Qhd co
   clear co hX hr hsz hii hadr hq
   go_wp2_with (first
    |((with_reducible refine Qgl 23 ?_);refine Qlw 28 22 b (off+i*15+8) aggAcc hlX hra ?_)
    |(go_at_call 97;refine Co.out.mono ?_;rintro e w4 ⟨a',rfl,hv,ho,b4⟩;have bb4:=Below.then bb3 b4;have z44:=z43.kept b4;have hoA:=Q3s ho.In;obtain ⟨XA,hXA⟩:∃ X,X=accs a':=⟨_,rfl⟩;have hXAl:XA.length=7:=(by rw [hXA];rfl);rw [←hXA] at hoA ⊢;have HXA:=Qhd hXA;have Hv:=Qhd hv;clear hXA hv)
    |((with_reducible refine Qgs 24 ?_);refine Qsa 28 4 24 (w.heap.size+1) XA aggAcc z44 hXAl rfl hoA bb4 (Nat.le_succ _) ?_;intro w5 hb5 bb5 g5))
   refine bodyPost_ret (Q04 rfl _ _ (w.heap.size+1) aggAcc hb5 hXAl rfl rfl) rfl ?_
   have n5:=ho.c.notT z44 (by decide)
   have n6:=ho.s.notT z44 (by decide)
   exact ⟨a',0,by rw [HXA.out];rfl,Hg.out _ Hv.out,⟨(ho.c.grown g5 (fun k hk e=>n5 (by cases hk;exact e))).row,(ho.s.grown g5 (fun k hk e=>n6 (by cases hk;exact e))).row⟩,bb5⟩
  | false =>
   have Hg:Hid (GetR l T zA.val 0):=Qhd (.inr ⟨HxR.out.symm,rfl,.inr ⟨fun j hj e=>by
    have h1:=HF.out.2.1
    have h2:=HF.out.2.2.1
    have h3:=HF.out.2.2.2.2
    by_cases hji:j<i
    ·have:=h1 j hj hji;omega
    ·have hil:i<l.length:=by omega
     have h4:l[i].adr≠T:=fun e2=>by have:=h3 ⟨hil,e2⟩;cases this
     have h5:=h2 i hil (Nat.le_refl _)
     by_cases hij:i=j
     ·subst hij;exact h4 e
     ·have:=Q5z HxR.out.symm i j hil hj (by omega);omega,rfl⟩⟩)
   go_wp2_with ((with_reducible refine Qgs 25 ?_);refine Qsa 28 4 25 (w.heap.size+1) z7 aggAcc z43 rfl rfl hzo bb3 (Nat.le_succ _) ?_;intro w5 hb5 bb5 _)
   refine bodyPost_ret (Q04 rfl _ _ (w.heap.size+1) aggAcc hb5 rfl rfl rfl) rfl ?_
   exact ⟨zA,0,rfl,Hg.out,zA_in _,bb5⟩
theorem Qm1 (h:Hol){A:List UInt8}(hA:A.length=8)(e:h.adr=numL A):h.f=A:=Q8k h.f A (by rw [h.l,hA]) e
theorem Qbf (L M:List UInt8):((L.map fun x=>(x.toNat:Int)) == (M.map fun x=>(x.toNat:Int)))=(L == M):=by
 rw [Bool.eq_iff_iff]
 simp only [beq_iff_eq]
 constructor
 ·intro e
  have inj:∀ a b:UInt8,(a.toNat:Int)=(b.toNat:Int)→a=b:=fun a b h=>UInt8.toNat_inj.1 (by omega)
  apply List.ext_getElem?
  intro i
  have h1:=congrArg (fun l:List Int=>l[i]?) e
  simp only [List.getElem?_map] at h1
  cases h3:L[i]? with
  | none=>rw [h3] at h1;cases h4:M[i]? with
   | none=>rfl
   | some y=>rw [h4] at h1;simp at h1
  | some x=>rw [h3] at h1;cases h4:M[i]? with
   | none=>rw [h4] at h1;simp at h1
   | some y=>rw [h4] at h1;simp only [Option.map_some,Option.some.injEq] at h1;rw [inj x y h1]
 ·intro e;rw [e]
theorem Qd6 (K:List UInt8):(K.map fun x=>(x.toNat:Int)).map (Value.int .u8)=K.map u8v:=by rw [List.map_map];rfl
theorem Qja (L M:List UInt8)(hl:L.length=8)(hm:M.length=8)(w1:World):(binOp .eql 41 (.agg (by8 L).toArray) (.agg (by8 M).toArray)).run Tryz.prog w1=.ok (.bool (L == M)) w1:=by
 have:=Qg2 (P:=Tryz.prog) w1 Tryz.underlying41 Tryz.underlying5 (by kernel_rfl) (L.map fun x=>(x.toNat:Int)) (M.map fun x=>(x.toNat:Int)) (by rw [List.length_map,hl]) (by rw [List.length_map,hm])
 rw [Qd6,Qd6,Qbf] at this
 exact this
theorem Qep (L M:List UInt8)(o1 o2:Operand)(w1:World):(eqGuard .eql 41 o1 o2 (.agg (by8 L).toArray) (.agg (by8 M).toArray)).run Tryz.prog w1=.ok () w1 :=
 run_eqGuard_agg (P:=Tryz.prog) (w:=w1) .eql 41 o1 o2 _ _ (by kernel_rfl)
theorem Qd0 (a:Option Addr)(n c:Nat)(l:List Hol)(hn:l.length=n)(hk:∀ h∈l,h.a.Ok)(A:List UInt8)(hA:A.length=8)(w:World)(h:RowOf hols 15 w (.slice a n c) l)(hi:∀ h∈l,h.a.In w) :
  Calls Tryz.prog 65 #[.slice a n c,.agg (by8 A).toArray] w (Q52 l (numL A) w):=by
 obtain ⟨w1,hw1⟩:∃ w1,w1=(w.alloc (.cells (by8 A).toArray 41)).alloc (.cells z7.toArray 28):=⟨_,rfl⟩
 have z3:Blk 41 w1 w.heap.size (by8 A):=by rw [hw1];exact (Blk.new w _ _).alloc _
 have z4:Blk 28 w1 (w.heap.size+1) z7:=by
  rw [hw1]
  have:=Blk.new (w.alloc (.cells (by8 A).toArray 41)) 28 z7
  simpa using this
 have hbel:Below w.heap.size w w1:=by rw [hw1];exact (Qba _ _).alloc (by simp) _
 have cr:=Q7d a n c l hn hk w1 (h.below hbel) (fun q hq=>(hi q hq).below hbel)
 obtain ⟨xR,hxR⟩:∃ x,x=rightB l:=⟨_,rfl⟩
 rw [←hxR] at cr
 have hsm:=h.small
 unfold maxLen at hsm
 rw [hn] at hsm
 obtain ⟨T,hT⟩:∃ T,T=numL A:=⟨_,rfl⟩
 rw [←hT]
 obtain ⟨Y,hY⟩:∃ Y,Y=by8 A:=⟨_,rfl⟩
 have hlY:Y.length=8:=by rw [hY,Q0n,hA]
 rw [←hY] at z3 hw1 ⊢
 have Cr:=Qhd cr
 have Hw1:=Qhd hw1
 have HxR:=Qhd hxR
 have Hn:=Qhd hn
 have Hi:=Qhd hi
 have HT:=Qhd hT
 have HY:=Qhd hY
 have HA:=Qhd hA
 have hzo:∀ u∈z7,u.oneCell'=true:=by intro u hu;unfold z7 at hu;simp only [List.mem_cons,List.not_mem_nil,or_false] at hu;rcases hu with rfl|rfl|rfl|rfl|rfl|rfl|rfl<;>rfl
 clear cr hw1 hxR hT hY hn hi hk hA
 cases xR with
 | false =>
  go_enter Tryz.func65,Tryz.ntmps65
  go_wp2_with (first
   |(go_at_call 58;rw [show ((w.alloc (.cells Y.toArray 41)).alloc (.cells #[.int .u64 0,.int .u64 0,.int .u64 0,.int .u64 0,.int .u64 0,.slice none 0 0,.slice none 0 0] 28))=w1 from Hw1.out.symm];refine Cr.out.mono ?_;rintro e w2 ⟨rfl,b2⟩;have bb2:=Below.then hbel b2;have z42:=z4.kept b2;have z32:=z3.kept b2)
   |((with_reducible refine Qgs 11 ?_);refine Qsa 28 4 11 (w.heap.size+1) z7 aggAcc z42 rfl rfl hzo bb2 (Nat.le_succ _) ?_;intro w5 hb5 bb5 _))
  refine bodyPost_ret (Q04 rfl _ _ (w.heap.size+1) aggAcc hb5 rfl rfl rfl) rfl ?_
  exact ⟨zA,1,rfl,.inl ⟨HxR.out.symm,rfl,rfl⟩,zA_in _,bb5⟩
 | true =>
  go_enter Tryz.func65,Tryz.ntmps65
  go_wp2_with (first|(go_at_call 58;rw [show ((w.alloc (.cells Y.toArray 41)).alloc (.cells #[.int .u64 0,.int .u64 0,.int .u64 0,.int .u64 0,.int .u64 0,.slice none 0 0,.slice none 0 0] 28))=w1 from Hw1.out.symm];refine Cr.out.mono ?_;rintro e w2 ⟨rfl,b2⟩;have bb2:=Below.then hbel b2;have z42:=z4.kept b2;have z32:=z3.kept b2))
  have Q0:Below w.heap.size w w2∧Blk 41 w2 w.heap.size Y∧Blk 28 w2 (w.heap.size+1) z7:=⟨bb2,z32,z42⟩
  go_loopw [14] (fun ix wr=>∃ k:Nat,k≤n∧ix=.int .i64 (k:Int)∧(Below w.heap.size w wr∧Blk 41 wr w.heap.size Y∧Blk 28 wr (w.heap.size+1) z7)∧Hid (∀ j (hj:j<l.length),j<k→l[j].adr≠T)) (fun ix _=>n - (intOf ix).toNat)
  case atStart=>exact ⟨0,by omega,rfl,Q0,Qhd (fun j hj h=>by omega)⟩
  case round =>
   clear Q0 bb2 z32 z42 b2 z3 z4 hbel
   obtain ⟨k,hkn,rfl,⟨hbr,y3,y4⟩,hno⟩:=hrel
   by_cases hlt:k<n
   ·have hki:(k:Int)<(n:Int):=by omega
    have hil:k<l.length:=by rw [Hn.out];exact hlt
    obtain ⟨b,off,rfl,hr⟩:=RowOf.range Q10 (h.below hbr) k hil
    have hip:=(Hi.out _ (List.getElem_mem hil)).below hbr
    obtain ⟨p,hp⟩:∃ p,p=l[k]:=⟨_,rfl⟩
    rw [←hp] at hr hip
    obtain ⟨P8,hP8⟩:∃ P,P=hols p:=⟨_,rfl⟩
    have hl8:P8.length=15:=by rw [hP8];exact Q10 p
    have ho8:∀ u∈P8,u.oneCell'=true:=by rw [hP8];exact Q4f hip
    obtain ⟨V,hV⟩:∃ Y,Y=accs p.a:=⟨_,rfl⟩
    obtain ⟨Z,hZ⟩:∃ Z,Z=by8 p.f:=⟨_,rfl⟩
    have hlV:V.length=7:=by rw [hV];rfl
    have hlZ:Z.length=8:=by rw [hZ,Q0n,p.l]
    have hoV:∀ u∈V,u.oneCell'=true:=by rw [hV];exact Q3s hip
    have hr4:∀ u x,Blk 123 u x P8→u.rangeAt x 0 Z∧u.rangeAt x 8 V:=fun u x h=>by
     rw [hP8] at h
     refine ⟨fun j v hv=>?_,fun j v hv=>?_⟩
     ·rw [Nat.zero_add,h.cell,Q3e p j (by have:=(List.getElem?_eq_some_iff.1 hv).1;omega),←hZ];exact hv
     ·rw [h.cell,Q20,←hV];exact hv
    have g1:=Qep p.f A
    have q1:=Qja p.f A p.l HA.out
    rw [←hP8] at hr
    rw [←hZ,←HY.out] at g1 q1
    have Hr4:=Qhd hr4
    have n4:=Blk.newA wr 123 z15.toArray
    have hb4:Below wr.heap.size wr (wr.alloc (.cells z15.toArray 123)):=Qba _ _
    have Hp:=Qhd hp
    have HV:=Qhd hV
    have Hip:=Qhd hip
    clear hr4 hV hP8 hip hp
    by_cases he:p.f=A
    ·have hne:(p.f==A)=true:=by simp [he]
     rw [hne] at q1
     have Q1:=Qhd q1
     have G1:=Qhd g1
     have Hg:Hid (GetR l T p.a.val 0):=Qhd (.inr ⟨HxR.out.symm,rfl,.inl ⟨k,hil,by rw [←Hp.out,HT.out];unfold Hol.adr;rw [he],by rw [←Hp.out]⟩⟩)
     clear q1 g1 hne he
     go_wp2_with (first
      |((with_reducible refine Qgl 17 ?_);refine Qlw 123 16 b (off+k*15) aggHol hl8 hr ?_)
      |((with_reducible refine Qgs 17 ?_);refine Qsa 123 7 17 wr.heap.size P8 aggHol n4 hl8 (by rfl) ho8 hb4 (Nat.le_refl _) ?_;intro w2 z2 b2 _;have R2:=Qhd (Hr4.out _ _ z2);have z3:=y3.kept b2;have z4:=y4.kept b2;have bb2:=Below.then hbr b2)
      |((with_reducible refine Qgl 19 ?_);refine Qlw 41 18 wr.heap.size 0 Q0v hlZ R2.out.1 ?_)
      |((with_reducible refine Qgl 20 ?_);refine Qla 41 3 w.heap.size Q0v z3 hlY ?_)
      |((with_reducible refine Qgl 21 ?_);refine Q1r (o:=⟨some 21,_,_,_,_,_⟩) 41 (.tmp 19) (.tmp 20) 41 (by rfl) (by rfl) (by rfl) G1.out Q1.out (by rfl) ?_)
      |((with_reducible refine Qgl 23 ?_);refine Qlw 28 22 wr.heap.size 8 aggAcc hlV R2.out.2 ?_)
      |((with_reducible refine Qgs 23 ?_);refine Qsa 28 4 23 (w.heap.size+1) V aggAcc z4 hlV rfl hoV bb2 (Nat.le_succ _) ?_;intro w5 hb5 bb5 g5))
     refine bodyPost_ret (Q04 rfl _ _ (w.heap.size+1) aggAcc hb5 hlV rfl rfl) rfl ?_
     exact ⟨p.a,0,by rw [HV.out];rfl,Hg.out,(Hi.out _ (Hp.out▸List.getElem_mem hil)).below bb5,bb5⟩
    ·have hne:(p.f==A)=false:=by simp [he]
     rw [hne] at q1
     have Q1:=Qhd q1
     have G1:=Qhd g1
     have Hne:Hid (p.adr≠T):=Qhd (fun e=>he (Qm1 p HA.out (by rw [e,HT.out])))
     clear q1 g1 hne he
     go_wp2_with (first
      |((with_reducible refine Qgl 17 ?_);refine Qlw 123 16 b (off+k*15) aggHol hl8 hr ?_)
      |((with_reducible refine Qgs 17 ?_);refine Qsa 123 7 17 wr.heap.size P8 aggHol n4 hl8 (by rfl) ho8 hb4 (Nat.le_refl _) ?_;intro w2 z2 b2 _;have R2:=Qhd (Hr4.out _ _ z2);have z3:=y3.kept b2;have z4:=y4.kept b2;have bb2:=Below.then hbr b2)
      |((with_reducible refine Qgl 19 ?_);refine Qlw 41 18 wr.heap.size 0 Q0v hlZ R2.out.1 ?_)
      |((with_reducible refine Qgl 20 ?_);refine Qla 41 3 w.heap.size Q0v z3 hlY ?_)
      |((with_reducible refine Qgl 21 ?_);refine Q1r (o:=⟨some 21,_,_,_,_,_⟩) 41 (.tmp 19) (.tmp 20) 41 (by rfl) (by rfl) (by rfl) G1.out Q1.out (by rfl) ?_))
     go_roundw
     case rel=>exact ⟨k+1,by omega,by go_num,⟨bb2,z3,z4⟩,Qhd (fun j hj h=>by
      by_cases hjk:j=k
      ·subst hjk;rw [←Hp.out];exact Hne.out
      ·exact hno.out j hj (by omega))⟩
     case measure=>simp [intOf];omega
   ·obtain rfl:k=n:=by omega
    have hki:¬ (k:Int)<(k:Int):=by omega
    go_wp2_with ((with_reducible refine Qgs 25 ?_);refine Qsa 28 4 25 (w.heap.size+1) z7 aggAcc y4 rfl rfl hzo hbr (Nat.le_succ _) ?_;intro w5 hb5 bb5 _)
    refine bodyPost_ret (Q04 rfl _ _ (w.heap.size+1) aggAcc hb5 rfl rfl rfl) rfl ?_
    exact ⟨zA,0,rfl,.inr ⟨HxR.out.symm,rfl,.inr ⟨fun j hj=>hno.out j hj (by rw [←Hn.out];exact hj),rfl⟩⟩,zA_in _,bb5⟩
end Go.Proofs.YtbdmkfjgnjfjbaaGreat
