/- world.WriteLeaf. | The reference's OWriteLeaf. | Words by ==; slots by their cells. -/
import Derived.Test.YtbdmkfjgnjfjbaaGreatLazyServesK30
import Derived.Test.YtbdmkfjgnjfjbaaGreatLazyServesK26
import Derived.Test.YtbdmkfjgnjfjbaaGreatLazyServesK20
set_option linter.unusedSimpArgs false
set_option linter.unusedVariables false
set_option maxHeartbeats 4000000
set_option maxRecDepth 100000
namespace Go.Proofs.YtbdmkfjgnjfjbaaGreat
open Go.RowKit
def FrT (B:Nat)(t:List UInt8):Ty:=fun v w=>Bytes w v t∧∀ k,v.ownBlock=some k→B≤k∧k<w.heap.size
theorem FrT.mono (B:Nat)(t:List UInt8):Mono (FrT B t):=fun _ _ _ ⟨h1,h2⟩ hb=>⟨RowOf.kept h1 hb,fun k hk=>⟨(h2 k hk).1,Nat.lt_of_lt_of_le (h2 k hk).2 hb.size⟩⟩
theorem FrT.own {B:Nat}{t:List UInt8}{v:Value}{w:World}(h:OwnOf b8 1 5 w B v t):FrT B t v w:=⟨h.row,fun k hk=>⟨h.lt k hk,Q4t h hk⟩⟩
theorem FrT.lower {B B':Nat}{t:List UInt8}{v:Value}{w:World}(h:FrT B t v w)(hB:B'≤B):FrT B' t v w:=⟨h.1,fun k hk=>⟨Nat.le_trans hB (h.2 k hk).1,(h.2 k hk).2⟩⟩
def WrPost (t:List UInt8)(w:World)(e:Ending)(w':World):Prop:=∃ v,e=.returned v∧FrT w.heap.size t v w'∧Below w.heap.size w w'
theorem Qf6 (l:Lf)(k:l.Ok)(w:World):Calls Tryz.prog 12 #[.agg (lfcs l).toArray] w (WrPost (wL l) w):=by
 obtain ⟨w1,hw1⟩:∃ w1,w1=w.alloc (.cells (lfcs l).toArray 32):=⟨_,rfl⟩
 have hz1:Blk 32 w1 w.heap.size (lfcs l):=by rw [hw1];exact Blk.new w _ _
 have hbel1:Below w.heap.size w w1:=by rw [hw1];exact Qba _ _
 have s32:=fun off u=>sl32 w.heap.size off u
 have i0:=fun u:Ext w1=>u.cell ((hz1.cell 0).trans (show _=some (Value.int .u64 (l.n:Int)) from rfl))
 have RV:w1.rangeAt w.heap.size 1 (wcs l.m):=by have:=hz1.range 1 4;rw [lfcs_m] at this;exact this
 have hwl:=Q0u l.m
 have ci:=fun u=>Qhn l.n k.n u
 have cn:=fun u=>Q8j l.n u
 have cm:∀ u:World,Calls Tryz.prog 50 #[.agg (wcs l.m).toArray] u _:=fun u=>Q8j l.m u
 obtain ⟨T0,h0⟩:∃ T,T=numB l.n:=⟨_,rfl⟩
 obtain ⟨T1,h1⟩:∃ T,T=numB l.m:=⟨_,rfl⟩
 have HL:Hid (T0.length≤32∧T1.length≤32):=Qhd (by rw [h0,h1];exact ⟨Q2r _,Q2r _⟩)
 have HT:Hid (encP (.lst [.txt T0,.txt T1,.txt l.s,.txt l.c])=wL l):=Qhd (by rw [h0,h1];unfold wL;rw [Qlk];rfl)
 rw [←h0] at cn
 rw [←h1] at cm
 obtain ⟨WV,hWV⟩:∃ W,W=wcs l.m:=⟨_,rfl⟩
 rw [←hWV] at cm RV hwl
 have Hs:Hid (∀ u,Below w1.heap.size w1 u→Bytes u (.slice (some ⟨w.heap.size,5,none⟩) 32 32) l.s):=Qhd fun u hu=>(hz1.kept hu).bytesAt 5 32 _ (lfcs_s k) k.s (by unfold maxLen;omega)
 have Hc:Hid (∀ u,Below w1.heap.size w1 u→Bytes u (.slice (some ⟨w.heap.size,37,none⟩) 32 32) l.c):=Qhd fun u hu=>(hz1.kept hu).bytesAt 37 32 _ (lfcs_c k) k.c (by unfold maxLen;omega)
 have Ks:Hid (l.s.length=32):=Qhd k.s
 have Kc:Hid (l.c.length=32):=Qhd k.c
 have Ci:=Qhd ci
 have Cn:=Qhd cn
 have Cm:=Qhd cm
 have Hw1:=Qhd hw1
 have Rv:=Qhd RV
 clear hw1 hz1 k ci cn cm h0 h1 hWV RV
 go_enter Tryz.func12,Tryz.ntmps12
 go_wp2_with fail
 rw [←Hw1.out]
 refine Q02 w1 18 (by kernel_rfl) (by kernel_rfl) (Below.refl _ _) ?_;simp only [List.take_succ_cons,List.take_zero,List.take_nil]
 iterate 2 (refine Q01 (by rfl) (fun K hK=>?_);go_simp;refine hK _ ?_;clear hK K)
 refine wpX_eq (wv l.n) (fun w2 hw2=>?_) ?_
 ·simp only [relOf,List.filter_nil,Q00]
  refine ⟨rfl,?_⟩
  go_simp
  exact (Ci.out w2).mono fun e w' q=>⟨_,q.1,rfl,q.2⟩
 refine Q07 6 (TxB 0 T0) rfl (of_decide_eq_true rfl) (TxB.mono _ _) (fun w2 hw2=>?_) ?_
 ·simp only [relOf,List.filter_nil,Q00]
  refine ⟨rfl,?_⟩
  go_simp
  refine (Cn.out w2).mono ?_
  rintro e w3 ⟨v,rfl,o3,b3⟩
  exact ⟨v,rfl,⟨o3.row,fun _ _=>Nat.zero_le _⟩,b3⟩
 refine Q07 7 (PItm (.txt T0) 33) rfl (of_decide_eq_true rfl) (PItm.mono _ _) (fun w2 hw2=>?_) ?_
 ·change Q00 w2 [(6,_)] _ _
  intro v5 h5
  obtain ⟨a5,c5,rfl,_⟩:=h5.1.form
  simp only [Q00]
  refine ⟨rfl,?_⟩
  go_simp
  refine (Q0z _ _ _ _).mono ?_
  rintro e w3 ⟨rfl,b3⟩
  refine ⟨_,rfl,⟨false,a5,_,c5,none,0,0,T0,[],rfl,IsItm.txt (RowOf.kept (f:=b8) (size:=1) h5.1 b3),by rw [erI_mk];rfl,?_⟩,b3⟩
  have:=Q33 (.slice a5 T0.length c5) T0
  unfold txt at this
  rw [this];have:=HL.out;omega
 (refine Q01 (by rfl) (fun K hK=>?_);go_simp;refine hK _ ?_;clear hK K)
 (refine Q01 (by rfl) (fun K hK=>?_);rw [if_pos (by rfl)];refine ⟨_,fun u=>Q08 _ (.tmp 8) (by rfl) _ _ (by rfl) Q0f hwl (rangeAt.ext Rv.out u),hK _ ?_⟩;clear hK K;simp only [Act.put,Qzs])
 refine Q07 10 (TxB 0 T1) rfl (of_decide_eq_true rfl) (TxB.mono _ _) (fun w2 hw2=>?_) ?_
 ·simp only [relOf,List.filter_nil,List.filter_cons,Q00]
  try simp only [Q00]
  refine ⟨rfl,?_⟩
  go_simp
  refine (Cm.out w2).mono ?_
  rintro e w3 ⟨v,rfl,o3,b3⟩
  exact ⟨v,rfl,⟨o3.row,fun _ _=>Nat.zero_le _⟩,b3⟩
 refine Q07 11 (PItm (.txt T1) 33) rfl (of_decide_eq_true rfl) (PItm.mono _ _) (fun w2 hw2=>?_) ?_
 ·change Q00 w2 [(10,_)] _ _
  intro v5 h5
  obtain ⟨a5,c5,rfl,_⟩:=h5.1.form
  simp only [Q00]
  refine ⟨rfl,?_⟩
  go_simp
  refine (Q0z _ _ _ _).mono ?_
  rintro e w3 ⟨rfl,b3⟩
  refine ⟨_,rfl,⟨false,a5,_,c5,none,0,0,T1,[],rfl,IsItm.txt (RowOf.kept (f:=b8) (size:=1) h5.1 b3),by rw [erI_mk];rfl,?_⟩,b3⟩
  have:=Q33 (.slice a5 T1.length c5) T1
  unfold txt at this
  rw [this];have:=HL.out;omega
 iterate 2 (refine Q01 (by rfl) (fun K hK=>?_);go_simp;refine hK _ ?_;clear hK K)
 refine Q07 14 (PItm (.txt l.s) 33) rfl (of_decide_eq_true rfl) (PItm.mono _ _) (fun w2 hw2=>?_) ?_
 ·simp only [relOf,List.filter_nil,List.filter_cons,Q00]
  try simp only [Q00]
  refine ⟨rfl,?_⟩
  go_simp
  refine (Q0z _ _ _ _).mono ?_
  rintro e w3 ⟨rfl,b3⟩
  refine ⟨_,rfl,⟨false,_,_,_,none,0,0,l.s,[],rfl,IsItm.txt (RowOf.kept (f:=b8) (size:=1) (Hs.out w2 hw2) b3),by rw [erI_mk];rfl,?_⟩,b3⟩
  have:=Q33 (.slice (some ⟨w.heap.size,5,none⟩) 32 32) l.s
  unfold txt at this
  rw [this,Ks.out];omega
 iterate 2 (refine Q01 (by rfl) (fun K hK=>?_);go_simp;refine hK _ ?_;clear hK K)
 refine Q07 17 (PItm (.txt l.c) 33) rfl (of_decide_eq_true rfl) (PItm.mono _ _) (fun w2 hw2=>?_) ?_
 ·simp only [relOf,List.filter_nil,List.filter_cons,Q00]
  try simp only [Q00]
  refine ⟨rfl,?_⟩
  go_simp
  refine (Q0z _ _ _ _).mono ?_
  rintro e w3 ⟨rfl,b3⟩
  refine ⟨_,rfl,⟨false,_,_,_,none,0,0,l.c,[],rfl,IsItm.txt (RowOf.kept (f:=b8) (size:=1) (Hc.out w2 hw2) b3),by rw [erI_mk];rfl,?_⟩,b3⟩
  have:=Q33 (.slice (some ⟨w.heap.size,37,none⟩) 32 32) l.c
  unfold txt at this
  rw [this,Kc.out];omega
 refine Q07 18 (PRow [.txt T0,.txt T1,.txt l.s,.txt l.c] 132) rfl (of_decide_eq_true rfl) (PRow.mono _ _) (fun w2 hw2=>?_) ?_
 ·change Q00 w2 [(17,_),(14,_),(11,_),(7,_)] _ _
  rintro v17 ⟨l4,a4,n4,c4,a4',n4',c4',t4,ks4,rfl,i4,e4,b4⟩ v12 ⟨l3,a3,n3,c3,a3',n3',c3',t3,ks3,rfl,i3,e3,b3⟩ v9 ⟨l2,a2,n2,c2,a2',n2',c2',t2,ks2,rfl,i2,e2,b2⟩ v6 ⟨l1,a1,n1,c1,a1',n1',c1',t1,ks1,rfl,i1,e1,b1⟩
  simp only [Q00]
  refine ⟨rfl,?_⟩
  go_simp
  have hb18:Below w2.heap.size w2 (w2.alloc (.cells #[.bool l1,.slice a1 n1 c1,.slice a1' n1' c1',.bool l2,.slice a2 n2 c2,.slice a2' n2' c2',.bool l3,.slice a3 n3 c3,.slice a3' n3' c3',.bool l4,.slice a4 n4 c4,.slice a4' n4' c4'] 77)):=Qba _ _
  refine ⟨hb18,some ⟨w2.heap.size,0,none⟩,4,4,[.mk l1 (.slice a1 n1 c1) t1 (.slice a1' n1' c1') ks1,.mk l2 (.slice a2 n2 c2) t2 (.slice a2' n2' c2') ks2,.mk l3 (.slice a3 n3 c3) t3 (.slice a3' n3' c3') ks3,.mk l4 (.slice a4 n4 c4) t4 (.slice a4' n4' c4') ks4],rfl,Row.built Q0p w2 77 _ 4 rfl (by unfold maxLen;omega),?_,?_,?_⟩
  ·intro i hi
   simp only [List.mem_cons,List.not_mem_nil,or_false] at hi
   rcases hi with rfl|rfl|rfl|rfl
   ·exact i1.kept hb18
   ·exact i2.kept hb18
   ·exact i3.kept hb18
   ·exact i4.kept hb18
  ·simp only [List.map_cons,List.map_nil,e1,e2,e3,e4]
  ·simp only [bulkL];omega
 refine Q07 19 (PItm (.lst [.txt T0,.txt T1,.txt l.s,.txt l.c]) 133) rfl (of_decide_eq_true rfl) (PItm.mono _ _) (fun w2 hw2=>?_) ?_
 ·change Q00 w2 [(18,_)] _ _
  rintro v13 ⟨a,n,c,its,rfl,r,hi,he,hb⟩
  simp only [Q00]
  refine ⟨rfl,?_⟩
  go_simp
  refine (Q2i _ _ _ _).mono ?_
  rintro e w3 ⟨rfl,b3⟩
  refine ⟨_,rfl,⟨true,none,0,0,a,n,c,[],its,rfl,IsItm.lst (RowOf.kept r b3) (fun i h=>(hi i h).kept b3),?_,?_⟩,b3⟩
  ·rw [erI_mk,if_pos rfl,he]
  ·have:=Q2m (.slice a n c) its
   unfold lst at this
   rw [this];omega
 refine Q07 20 (FrT w1.heap.size (wL l)) rfl (of_decide_eq_true rfl) (FrT.mono _ _) (fun w2 hw2=>?_) ?_
 ·change Q00 w2 [(19,_)] _ _
  rintro v14 ⟨l1,a1,n1,c1,a1',n1',c1',t1,ks1,rfl,i1,e1,b1⟩
  simp only [Q00]
  refine ⟨rfl,?_⟩
  go_simp
  have enc:=Q4y 133 _ w2 b1 (by omega) i1
  unfold Q53 at enc
  rw [Qlr,e1,HT.out] at enc
  refine enc.mono ?_
  rintro e w3 ⟨v,rfl,o3,b3⟩
  exact ⟨v,rfl,(FrT.own o3).lower hw2.size,b3⟩
 refine Q09 ?_
 intro u2 hb2 v6 h6 v7 h7 v10 h10 v11 h11 v14 h14 v17 h17 v18 h18 v19 h19 v20 h20
 change wpList _ _ _ [_] _ _
 have hbel2:=Below.then hbel1 hb2
 go_wp2_with fail
 go_ret
 exact ⟨_,rfl,h20.lower hbel1.size,hbel2⟩
structure LwW (w u2:World)(g9:Nat)(kv:Value)(ks:List Itm)(u:World):Prop where
 hb:Below w.heap.size w u
 hm:Blk 77 u g9 [.bool true,.slice none 0 0,kv]
 hO:OwnOf icells 3 77 u u2.heap.size kv ks
 hB:∀ x,x<u2.heap.size→x≠g9→u.heap[x]?=u2.heap[x]?
 hs:u2.heap.size≤u.heap.size
 hF:∀ k∈ks,Fp (fun x=>x<u2.heap.size∧x≠g9) u2 k
 h1:w.heap.size≤g9
 h2:g9<u2.heap.size
section
variable {w u2:World} {g9:Nat} {kv:Value} {ks:List Itm} {u:World}
theorem LwW.kept {u':World}(h:LwW w u2 g9 kv ks u)(hb:Below u.heap.size u u'):LwW w u2 g9 kv ks u' :=
 ⟨Below.then h.hb hb,h.hm.kept hb,h.hO.kept hb,fun x hx hn=>by rw [hb.block x (Nat.lt_of_lt_of_le hx h.hs)];exact h.hB x hx hn,Nat.le_trans h.hs hb.size,h.hF,h.h1,h.h2⟩
theorem LwW.hn (h:LwW w u2 g9 kv ks u):kv.ownBlock≠some g9:=fun e=>by have h1:=h.hO.lt _ e;have h2:=h.h2;omega
theorem LwW.grew {u':World}{kv':Value}{it:Itm}(h:LwW w u2 g9 kv ks u)(hit:Fp (fun x=>x<u2.heap.size∧x≠g9) u2 it)(hg:u.grownBy u' kv.ownBlock)(hO:OwnOf icells 3 77 u' u2.heap.size kv' (ks++[it])):LwW w u2 g9 kv' (ks++[it]) (u'.setCell ⟨g9,2,none⟩ kv'):=by
 have q1:=h.h1
 have q2:=h.h2
 have q3:=h.hs
 have hst:u'.grownBy (u'.setCell ⟨g9,2,none⟩ kv') (some g9):=Q0r 2 kv'
 have hn':kv'.ownBlock≠some g9:=fun e=>by have h1:=hO.lt _ e;omega
 have hb2:=h.hb.grown hg h.hb.size (fun k hk=>by have:=h.hO.lt k hk;omega)
 refine ⟨hb2.setCell (by show w.heap.size≤g9;omega) _,(h.hm.grown hg h.hn).set 2 kv',hO.grown hst (fun k hk e=>by cases hk;exact hn' e),fun x hx hn=>?_,Nat.le_trans q3 (Nat.le_trans hg.size hst.size),fun k hk=>?_,q1,q2⟩
 ·rw [hst.block x (Nat.lt_of_lt_of_le (Nat.lt_of_lt_of_le hx q3) hg.size) (by simp;omega),hg.block x (Nat.lt_of_lt_of_le hx q3) (fun e=>by have:=h.hO.lt x e.symm;omega)]
  exact h.hB x hx hn
 ·rcases List.mem_append.1 hk with hk|hk
  ·exact h.hF k hk
  ·rw [List.mem_singleton] at hk;subst hk;exact hit
theorem LwW.is (h:LwW w u2 g9 kv ks u):IsItm u (lst kv ks):=IsItm.lst h.hO.row (fun k hk=>h.hF k hk u (fun x hx _=>h.hB x hx.1 hx.2))
end
theorem fp_on {S:Nat→Prop}{w:World}{v:Value}{t:List UInt8}(h:Bytes w v t)(hS:∀ b,v.ownBlock=some b→b<w.heap.size→S b):Fp S w (txt v t):=by
 intro u hu
 exact .mk false v t _ [] (Bytes.onto h (fun b h1 h2=>hu b (hS b h1 h2) h2)) (RowOf.nil icells 3 u) (by simp)
def TxsG (g9 n:Nat)(ts:List (List UInt8)):Ty:=fun u w=>∃ g ps,u=.slice (some ⟨g,0,none⟩) n n∧Texts w u ps∧ps.map (·.2)=ts∧g≠g9∧∀ p∈ps,p.1.ownBlock≠some g9
theorem TxsG.mono (g9 n:Nat)(ts:List (List UInt8)):Mono (TxsG g9 n ts):=fun _ _ _ ⟨g,ps,h1,h2,h3,h4,h5⟩ hb=>⟨g,ps,h1,h2.below hb,h3,h4,h5⟩
theorem Qei (l:Lf)(k:l.Ok)(w:World):Calls Tryz.prog 13 #[.agg (lfcs l).toArray] w (WrPost (wL l) w):=by
 obtain ⟨w1,hw1⟩:∃ w1,w1=w.alloc (.cells (lfcs l).toArray 32):=⟨_,rfl⟩
 have hz1:Blk 32 w1 w.heap.size (lfcs l):=by rw [hw1];exact Blk.new w _ _
 have hbel1:Below w.heap.size w w1:=by rw [hw1];exact Qba _ _
 have hsz1:w.heap.size<w1.heap.size:=by rw [hw1];simp
 have s32:=fun off u=>sl32 w.heap.size off u
 have hwl:=Q0u l.m
 have ci:=fun u=>Qc7 l.n k.n u
 have cn:=fun u=>Qgg l.n u
 have cm:∀ u:World,Calls Tryz.prog 53 #[.agg (wcs l.m).toArray] u _:=fun u=>Qgg l.m u
 obtain ⟨T0,h0⟩:∃ T,T=numB l.n:=⟨_,rfl⟩
 obtain ⟨T1,h1⟩:∃ T,T=numB l.m:=⟨_,rfl⟩
 have HL:Hid (T0.length≤32∧T1.length≤32∧l.s.length=32∧l.c.length=32):=Qhd (by rw [h0,h1];exact ⟨Q2r _,Q2r _,k.s,k.c⟩)
 have HT:Hid (lTs l=[T0,T1,l.s,l.c]):=Qhd (by rw [h0,h1];rfl)
 rw [←h0] at cn
 rw [←h1] at cm
 have K:=Qhd k
 have Ci:=Qhd ci
 have Cn:=Qhd cn
 have Cm:=Qhd cm
 have Hw1:=Qhd hw1
 clear hw1 k ci cn cm h0 h1
 go_enter Tryz.func13,Tryz.ntmps13
 go_wp2_with (first
  |(go_at_call 52;rw [←Hw1.out];refine (Q49 none 0 0 _).mono ?_;rintro e w4 ⟨rfl,b4⟩;have hs4:=b4.size)
  |((with_reducible refine Qgs 6 ?_);refine Qsa 77 3 6 w4.heap.size [.bool true,.slice none 0 0,.slice none 0 0] Q0a (Blk.new w4 77 [.bool false,.slice none 0 0,.slice none 0 0]) (by rfl) (by rfl) (by intro u hu;simp at hu;rcases hu with rfl|rfl<;>rfl) (b4.alloc (by omega) (.cells #[.bool false,.slice none 0 0,.slice none 0 0] 77)) (by omega) ?_;intro w8 hm8 b8 g8))
 obtain ⟨g9,hg9⟩:∃ g9,g9=w4.heap.size:=⟨_,rfl⟩
 rw [←hg9] at hm8
 rw [←hg9]
 have h9:w1.heap.size≤g9:=by omega
 have hlt9:=hm8.lt
 have hbel8:=Below.then hbel1 b8
 have hz8:=hz1.kept b8
 have i0:=fun u:Ext w8=>u.cell ((hz8.cell 0).trans (show _=some (Value.int .u64 (l.n:Int)) from rfl))
 have RV:w8.rangeAt w.heap.size 1 (wcs l.m):=by have:=hz8.range 1 4;rw [lfcs_m] at this;exact this
 obtain ⟨WV,hWV⟩:∃ W,W=wcs l.m:=⟨_,rfl⟩
 rw [←hWV] at RV hwl
 have cm:=Cm.out
 rw [←hWV] at cm
 have Cm:=Qhd cm
 have Rv:=Qhd RV
 have Hs:Hid (∀ u,Below w8.heap.size w8 u→Bytes u (.slice (some ⟨w.heap.size,5,none⟩) 32 32) l.s):=Qhd fun u hu=>(hz8.kept hu).bytesAt 5 32 _ (lfcs_s K.out) K.out.s (by unfold maxLen;omega)
 have Hc:Hid (∀ u,Below w8.heap.size w8 u→Bytes u (.slice (some ⟨w.heap.size,37,none⟩) 32 32) l.c):=Qhd fun u hu=>(hz8.kept hu).bytesAt 37 32 _ (lfcs_c K.out) K.out.c (by unfold maxLen;omega)
 clear b4 hs4 b8 g8 hg9 RV cm hWV hz1 hbel1 hz8
 refine Q02 w8 14 (by kernel_rfl) (by kernel_rfl) (Below.refl _ _) ?_;simp only [List.take_succ_cons,List.take_zero,List.take_nil]
 iterate 2 (refine Q01 (by rfl) (fun K hK=>?_);go_simp;refine hK _ ?_;clear hK K)
 refine wpX_eq (wv l.n) (fun w2 hw2=>?_) ?_
 ·simp only [relOf,List.filter_nil,Q00]
  refine ⟨rfl,?_⟩
  go_simp
  exact (Ci.out w2).mono fun e w' q=>⟨_,q.1,rfl,q.2⟩
 refine Q07 10 (TxB w8.heap.size T0) rfl (of_decide_eq_true rfl) (TxB.mono _ _) (fun w2 hw2=>?_) ?_
 ·simp only [relOf,List.filter_nil,Q00]
  refine ⟨rfl,?_⟩
  go_simp
  refine (Cn.out w2).mono ?_
  rintro e w3 ⟨v,rfl,o3,b3⟩
  exact ⟨v,rfl,TxB.lower o3 hw2.size,b3⟩
 (refine Q01 (by rfl) (fun K hK=>?_);go_simp;refine hK _ ?_;clear hK K)
 (refine Q01 (by rfl) (fun K hK=>?_);rw [if_pos (by rfl)];refine ⟨_,fun u=>Q08 _ (.tmp 11) (by rfl) _ _ (by rfl) Q0f hwl (rangeAt.ext Rv.out u),hK _ ?_⟩;clear hK K;simp only [Act.put,Qzs])
 refine Q07 13 (TxB w8.heap.size T1) rfl (of_decide_eq_true rfl) (TxB.mono _ _) (fun w2 hw2=>?_) ?_
 ·simp only [relOf,List.filter_nil,List.filter_cons,Q00]
  try simp only [Q00]
  refine ⟨rfl,?_⟩
  go_simp
  refine (Cm.out w2).mono ?_
  rintro e w3 ⟨v,rfl,o3,b3⟩
  exact ⟨v,rfl,TxB.lower o3 hw2.size,b3⟩
 iterate 4 (refine Q01 (by rfl) (fun K hK=>?_);go_simp;refine hK _ ?_;clear hK K)
 refine Q07 18 (TxsG g9 4 [T0,T1,l.s,l.c]) rfl (of_decide_eq_true rfl) (TxsG.mono _ _ _) (fun w2 hw2=>?_) ?_
 ·change Q00 w2 [(13,_),(10,_)] _ _
  intro v13 h13 v10 h10
  obtain ⟨a13,c13,rfl,_⟩:=h13.1.form
  obtain ⟨a10,c10,rfl,_⟩:=h10.1.form
  simp only [Q00]
  refine ⟨rfl,?_⟩
  go_simp
  have hb2:Below w2.heap.size w2 (w2.alloc (.cells #[.slice a10 T0.length c10,.slice a13 T1.length c13,.slice (some ⟨w.heap.size,5,none⟩) 32 32,.slice (some ⟨w.heap.size,37,none⟩) 32 32] 25)):=Qba _ _
  have hs2:=hw2.size
  refine ⟨hb2,w2.heap.size,[(.slice a10 T0.length c10,T0),(.slice a13 T1.length c13,T1),(.slice (some ⟨w.heap.size,5,none⟩) 32 32,l.s),(.slice (some ⟨w.heap.size,37,none⟩) 32 32,l.c)],rfl,⟨Row.built Qfh w2 25 _ 4 rfl (by unfold maxLen;omega),?_⟩,rfl,by omega,?_⟩
  ·intro p hp
   simp only [List.mem_cons,List.not_mem_nil,or_false] at hp
   rcases hp with rfl|rfl|rfl|rfl
   ·exact RowOf.below (f:=b8) (size:=1) h10.1 hb2
   ·exact RowOf.below (f:=b8) (size:=1) h13.1 hb2
   ·exact RowOf.below (f:=b8) (size:=1) (Hs.out w2 hw2) hb2
   ·exact RowOf.below (f:=b8) (size:=1) (Hc.out w2 hw2) hb2
  ·intro p hp e
   simp only [List.mem_cons,List.not_mem_nil,or_false] at hp
   rcases hp with rfl|rfl|rfl|rfl
   ·have:=h10.2 _ e;omega
   ·have:=h13.2 _ e;omega
   ·simp only [Value.ownBlock,Option.some.injEq] at e;omega
   ·simp only [Value.ownBlock,Option.some.injEq] at e;omega
 refine wpX_eq (.int .i64 4) (fun w2 hw2=>?_) ?_
 ·change Q00 w2 [(18,_)] _ _
  rintro v18 ⟨g,ps,rfl,_⟩
  simp only [Q00]
  refine ⟨rfl,?_⟩
  go_simp
  exact Below.refl _ _
 (refine Q01 (by rfl) (fun K hK=>?_);go_simp;refine hK _ ?_;clear hK K)
 refine Q09 ?_
 intro u2 hb2 v10 h10 v13 h13 v18 h18
 change Q00 u2 [] _ _
 simp only [Q00,List.drop_succ_cons,List.drop_zero,List.drop_nil]
 obtain ⟨gs,ps3,rfl,tx3,e3,hgs,hap⟩:=h18
 have E3:Hid (ps3.map (·.2)=lTs l):=Qhd (by rw [HT.out];exact e3)
 have Hap:=Qhd hap
 have hbel2:=Below.then hbel8 hb2
 have F8:LwW w u2 g9 (.slice none 0 0) (txts []) u2:=⟨hbel2,hm8.kept hb2,OwnOf.nil icells 3 _ _ _,fun _ _ _=>rfl,Nat.le_refl _,by simp [txts],by omega,Nat.lt_of_lt_of_le hlt9 hb2.size⟩
 clear e3 h10 h13 i0 s32 Ci Cn Cm Hs Hc hb2 hap Hw1 hbel2 hbel8 hm8 hlt9
 simp only [Act.put,Qzs]
 go_wp2_with fail
 go_loopw [20] (fun ix wr=>∃ (k:Nat) (kv:Value) (ps:List (Value × List UInt8)),k≤4∧ix=.int .i64 (k:Int)∧LwW w u2 g9 kv (txts ps) wr∧Hid (ps.map (·.2)=(lTs l).take k)) (fun ix _=>4 - (intOf ix).toNat)
 case atStart=>exact ⟨0,.slice none 0 0,[],by omega,rfl,F8,Qhd rfl⟩
 case round =>
  clear F8
  obtain ⟨k,kv,ps,hk,rfl,F,Hps⟩:=hrel
  have h11:(lTs l).length=4:=rfl
  have hpl:(txts ps).length=k:=by
   have h1:=congrArg List.length Hps.out
   simp only [List.length_map,List.length_take,h11] at h1
   unfold txts
   rw [List.length_map];omega
  obtain ⟨ka,kc,rfl,_⟩:=F.hO.form' k hpl
  have Hpl:=Qhd hpl
  clear hpl
  by_cases hlt:k<4
  ·have hki:(k:Int)<(4:Int):=by omega
   have hl3:ps3.length=4:=by have:=congrArg List.length E3.out;rw [List.length_map] at this;exact this
   obtain ⟨b,off,p,hbo,hpk,hc0,hbt⟩:=tx3.at k (by omega)
   simp only [Option.some.injEq,Addr.mk.injEq,and_true] at hbo
   obtain ⟨rfl,rfl⟩:=hbo
   have hc:wr.cell? ⟨gs,0+k,none⟩=some p.1:=by
    rw [←hc0]
    exact World.cell?_of_block (w:=u2) (F.hB gs (World.block_lt_of_cell? u2 _ hc0) hgs)
   have hnext:(lTs l).take (k+1)=(lTs l).take k++[p.2]:=by
    rw [List.take_succ_eq_append_getElem (by rw [h11];exact hlt)]
    congr 2
    have:=congrArg (fun l:List (List UInt8)=>l[k]?) E3.out
    simp only [List.getElem?_map,hpk,Option.map_some] at this
    rw [List.getElem?_eq_getElem (by rw [h11];exact hlt)] at this
    exact (Option.some.inj this).symm
   have hfp:Fp (fun x=>x<u2.heap.size∧x≠g9) u2 (txt p.1 p.2):=fp_on hbt (fun b h1 h2=>⟨h2,fun e=>Hap.out p (List.mem_of_getElem? hpk) (e▸h1)⟩)
   obtain ⟨pv,pt⟩:=p
   dsimp only at hbt
   obtain ⟨pa,pc,rfl,_⟩:=hbt.form
   obtain ⟨pn,hpn⟩:∃ pn,pn=pt.length:=⟨_,rfl⟩
   dsimp only at hc hfp hnext
   rw [←hpn] at hc hfp
   have Hnext:=Qhd hnext
   have Hfp:=Qhd hfp
   have k1:=fun u:Ext wr=>u.cell ((F.hm.cell 2).trans (show _=some (Value.slice ka k kc) from rfl))
   rw [Nat.zero_add] at hc
   clear hnext hbt hfp hpn hpk hl3 h11 hc0
   go_wp2_with fail
   refine Q02 wr 5 (by kernel_rfl) (by kernel_rfl) (Below.refl _ _) ?_;simp only [List.take_succ_cons,List.take_zero,List.take_nil]
   iterate 3 (refine Q01 (by rfl) (fun K hK=>?_);go_simp;refine hK _ ?_;clear hK K)
   (refine Q01 (by rfl) (fun K hK=>?_);go_simp;first|(refine hK _ ?_;clear hK K)|(apply Exists.intro;refine ⟨fun _=>?_,hK _ ?_⟩;exact Q2d _ _ _ _;clear hK K))
   refine Q07 28 (OneC (.slice pa pn pc) pt) rfl (of_decide_eq_true rfl) (OneC.mono _ _) (fun w2 hw2=>?_) ?_
   ·simp only [relOf,List.filter_nil,Q00]
    refine ⟨rfl,?_⟩
    go_simp
    have hb18:Below w2.heap.size w2 (w2.alloc (.cells #[.bool false,.slice pa pn pc,.slice none 0 0] 77)):=Qba _ _
    exact ⟨hb18,w2.heap.size,rfl,Row.built Q0p w2 77 [txt (.slice pa pn pc) pt] 1 rfl (by unfold maxLen;omega)⟩
   refine Q09 ?_
   intro u3 hb3 v19 h19
   change wpList _ _ _ [_,_,_] _ _
   obtain ⟨g19,rfl,r19⟩:=h19
   have F2:=F.kept hb3
   clear k1 F
   simp only [Act.put,Qzs]
   go_wp2_with (refine Q0g (o:=⟨some 29,_,_,_,_,_⟩) (by rfl) (.tmp 25) (.tmp 28) 75 (by rfl) elItem (by intro u hu;simp [txt,icells] at hu;rcases hu with rfl|rfl|rfl<;>rfl) (by rfl) F2.hO (by rfl) r19 F2.hs (by rw [Hpl.out];simp;omega) (by rw [Hpl.out];unfold maxLen;simp;omega) ?_;intro v5 w5 hO5 gg5 pp5;obtain ⟨a5,c5,rfl,_⟩:=hO5.form' (k+1) (by rw [List.length_append,Hpl.out];rfl);have F5:=F2.grew Hfp.out gg5 hO5;have hne5:=F2.hn;obtain ⟨y5,hy5⟩:=(F2.hm.grown gg5 hne5).has 2 (by simp);have hf5:=(F2.hm.grown gg5 hne5).free 2)
   rw [←Qdw ps (.slice pa pn pc,pt)] at F5
   go_roundw
   case rel=>exact ⟨k+1,.slice a5 (k+1) c5,ps++[(.slice pa pn pc,pt)],by omega,by go_num,F5,Qhd (by rw [List.map_append,Hps.out,Hnext.out];rfl)⟩
   case measure=>simp [intOf];omega
  ·obtain rfl:k=4:=by omega
   have hps:ps.map (·.2)=lTs l:=Hps.out
   have hI:=F.is
   have hbk:bulkL (txts ps)≤132:=by
    have h1:(ps.map fun p=>1+p.2.length)=(lTs l).map fun t=>1+t.length:=by rw [←hps,List.map_map];rfl
    rw [Q1w,h1,HT.out]
    have:=HL.out
    simp only [List.map_cons,List.map_nil,List.sum_cons,List.sum_nil]
    omega
   have hE:encI (lst (.slice ka 4 kc) (txts ps))=wL l:=by rw [Q19,hps];rfl
   have enc:=Q61 133 (lst (.slice ka 4 kc) (txts ps)) wr (by rw [Q2m];omega) (by omega) hI
   unfold Q9a at enc
   rw [hE] at enc
   have enc':Calls Tryz.prog 56 #[.agg #[.bool true,.slice none 0 0,.slice ka 4 kc]] wr _:=enc
   have Enc:=Qhd enc'
   have hfb:=F.hb
   clear enc enc' hE hI hbk hps
   go_wp2_with (first
    |(refine Qla 77 3 g9 Q0a F.hm (by rfl) ?_)
    |(go_at_call 56;refine (Enc.out).mono ?_;rintro e w3 ⟨v3,rfl,o3,f3,b3⟩;have hbel3:=Below.then hfb b3))
   go_ret
   exact ⟨_,rfl,⟨o3,fun k hk=>⟨Nat.le_trans hfb.size (f3 k hk).1,(f3 k hk).2⟩⟩,hbel3⟩
theorem eqWN (N M:Nat)(hN:N<W256)(hM:M<W256)(w1:World):(binOp .eql 24 (.agg (wcs N).toArray) (.agg (wcs M).toArray)).run Tryz.prog w1=.ok (.bool (decide (N=M))) w1:=by
 have h:=Qg2 (P:=Tryz.prog) (w:=w1) (t:=24) (e:=22) (n:=4) (k:=.u64) Tryz.underlying24 Tryz.underlying22 (by kernel_rfl) (limI N) (limI M) rfl rfl
 rw [Qh9 N M hN hM] at h
 exact h
theorem Qbn (N M:Nat)(o1 o2:Operand)(w1:World):(eqGuard .eql 24 o1 o2 (.agg (wcs N).toArray) (.agg (wcs M).toArray)).run Tryz.prog w1=.ok () w1 :=
 run_eqGuard_agg (P:=Tryz.prog) (w:=w1) .eql 24 o1 o2 _ _ (by kernel_rfl)
theorem neWN (N M:Nat)(hN:N<W256)(hM:M<W256)(w1:World):(binOp .neq 24 (.agg (wcs N).toArray) (.agg (wcs M).toArray)).run Tryz.prog w1=.ok (.bool (!decide (N=M))) w1:=by
 have h:=Qkz (P:=Tryz.prog) (w:=w1) (t:=24) (e:=22) (n:=4) (k:=.u64) Tryz.underlying24 Tryz.underlying22 (by kernel_rfl) (limI N) (limI M) rfl rfl
 rw [Qh9 N M hN hM] at h
 exact h
theorem Qab (N M:Nat)(o1 o2:Operand)(w1:World):(eqGuard .neq 24 o1 o2 (.agg (wcs N).toArray) (.agg (wcs M).toArray)).run Tryz.prog w1=.ok () w1 :=
 run_eqGuard_agg (P:=Tryz.prog) (w:=w1) .neq 24 o1 o2 _ _ (by kernel_rfl)
theorem wz0:(wcs 0).toArray=#[.int .u64 0,.int .u64 0,.int .u64 0,.int .u64 0]:=rfl
theorem Q5g (N i:Nat):lim N i<18446744073709551616:=by unfold lim;exact Nat.mod_lt _ (by decide)
theorem keyWd (d N:Nat):Tryz.prog.keyLits (d+2) 24 (wcs N)=some [Lit.int .u64 (lim N 0:Int),Lit.int .u64 (lim N 1:Int),Lit.int .u64 (lim N 2:Int),Lit.int .u64 (lim N 3:Int)]:=by
 have c1:Tryz.prog.cellsOf 22=1:=by kernel_rfl
 have c4:Tryz.prog.cellsOf 24=4:=by kernel_rfl
 unfold Program.keyLits
 simp only [show Tryz.prog.underlying 24=some (.array 4 22) from Tryz.underlying24]
 rw [if_pos (by rw [Q0u,c4]),c1]
 have e0:=keyL64 d (Q5g N 0)
 have e1:=keyL64 d (Q5g N 1)
 have e2:=keyL64 d (Q5g N 2)
 have e3:=keyL64 d (Q5g N 3)
 show ((([0,1,2,3]:List Nat).mapM fun i=>Tryz.prog.keyLits (d+1) 22 (((wcs N).drop (i*1)).take 1)).map List.flatten)=_
 have d0:((wcs N).drop (0*1)).take 1=[u64v (lim N 0)]:=rfl
 have d1:((wcs N).drop (1*1)).take 1=[u64v (lim N 1)]:=rfl
 have d2:((wcs N).drop (2*1)).take 1=[u64v (lim N 2)]:=rfl
 have d3:((wcs N).drop (3*1)).take 1=[u64v (lim N 3)]:=rfl
 simp only [List.mapM_cons,List.mapM_nil,d0,d1,d2,d3,e0,e1,e2,e3]
 rfl
def z8s:List Value:=[.int .u64 0,.int .u64 0,.int .u64 0,.int .u64 0,.int .u64 0,.int .u64 0,.int .u64 0,.int .u64 0]
def spc (p:Nat × Nat):List Value:=wcs p.1++wcs p.2
theorem Q26 (p:Nat × Nat):(spc p).length=8:=rfl
theorem Qfn (p:Nat × Nat):∀ u∈spc p,u.oneCell'=true:=by
 intro u hu
 unfold spc at hu
 rcases List.mem_append.1 hu with h|h
 ·exact Q38 _ u h
 ·exact Q38 _ u h
end Go.Proofs.YtbdmkfjgnjfjbaaGreat
