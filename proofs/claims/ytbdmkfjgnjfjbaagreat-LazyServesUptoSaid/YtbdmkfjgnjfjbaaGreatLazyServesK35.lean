/- The reference's SameAccount at like accounts; ONothing. | The reference's SameAccount at unlike accounts; ONothing. | The reference's oerror. | The reference's  -/
import Derived.Test.YtbdmkfjgnjfjbaaGreatLazyServesK34
import Derived.Test.YtbdmkfjgnjfjbaaGreatLazyServesK31
set_option linter.unusedSimpArgs false
set_option linter.unusedVariables false
set_option maxHeartbeats 4000000
set_option maxRecDepth 100000
namespace Go.Proofs.YtbdmkfjgnjfjbaaGreat
open Go.RowKit
theorem Qbi:Tryz.prog.keyTypeAt 4 102=true:=by kernel_rfl
theorem Qll (p:Nat × Nat):∃ l,Tryz.prog.keyLits 4 102 (spc p)=some l:=by
 have c8:Tryz.prog.cellsOf 102=8:=by kernel_rfl
 have c4:Tryz.prog.cellsOf 24=4:=by kernel_rfl
 have e0:=keyWd 1 p.1
 have e1:=keyWd 1 p.2
 have d0:((spc p).drop 0).take 4=wcs p.1:=rfl
 have d1:((spc p).drop 4).take 4=wcs p.2:=rfl
 rw [←d0] at e0
 rw [←d1] at e1
 unfold Program.keyLits
 simp only [show Tryz.prog.underlying 102=some (.struct _) from Tryz.underlying102]
 rw [if_pos ⟨by rw [Q26,c8],by kernel_rfl⟩]
 simp only [List.mapM_cons,List.mapM_nil,c4,e0,e1]
 exact ⟨_,rfl⟩
theorem neSlot (p:Nat × Nat)(w:World):(binOp .neq 102 (.agg (spc p).toArray) (.agg (spc p).toArray)).run Tryz.prog w=.ok (.bool false) w:=by
 obtain ⟨l,hl⟩:=Qll p
 have c8:Tryz.prog.cellsOf 102=8:=by kernel_rfl
 have hf:(Value.agg (spc p).toArray).formed Tryz.prog 102=true:=by
  unfold Value.formed
  simp only [show Tryz.prog.underlying 102=some (.struct _) from Tryz.underlying102,c8,List.size_toArray,Q26,beq_self_eq_true]
 obtain ⟨r,hr,hi⟩:=run_equalIn_deep 9996 4 102 Qbi w 4 4 (.agg (spc p).toArray) (.agg (spc p).toArray) l l hf hf hl hl
 have h2:r=true:=hi.2 rfl
 rw [run_neq_struct,hr,h2];rfl
theorem Qhu (p:Nat × Nat)(o1 o2:Operand)(w1:World):(eqGuard .neq 102 o1 o2 (.agg (spc p).toArray) (.agg (spc p).toArray)).run Tryz.prog w1=.ok () w1 :=
 run_eqGuard_agg (P:=Tryz.prog) (w:=w1) .neq 102 o1 o2 _ _ (by kernel_rfl)
theorem Q9n (a b:Acc)(hv:a.val=b.val)(km1:a.m<W256)(w:World)(h1:a.In w)(h2:b.In w) :
  Calls Tryz.prog 117 #[.agg (accs a).toArray,.agg (accs b).toArray] w fun e w'=>e=.returned (.bool true)∧Below w.heap.size w w':=by
 obtain ⟨hvn,hvm,hvc,hvs⟩:a.n=b.n∧a.m=b.m∧a.c=b.c∧a.s=b.s:=by unfold Acc.val at hv;simpa using hv
 have km2:b.m<W256:=by rw [←hvm];exact km1
 obtain ⟨ca,cc,sa,sc,hcv,hsv⟩:=Q0w h1
 obtain ⟨da,dc,ta,tc,hdv,htv⟩:=Q0w h2
 obtain ⟨w1,hw1⟩:∃ w1,w1=(w.alloc (.cells (accs a).toArray 28)).alloc (.cells (accs b).toArray 28):=⟨_,rfl⟩
 have z1:Blk 28 w1 w.heap.size (accs a):=by rw [hw1];exact (Blk.new w _ _).alloc _
 have z2:Blk 28 w1 (w.heap.size+1) (accs b):=by
  rw [hw1]
  have:=Blk.new (w.alloc (.cells (accs a).toArray 28)) 28 (accs b)
  simpa using this
 have hbel:Below w.heap.size w w1:=by rw [hw1];exact (Qba _ _).alloc (by simp) _
 have c0:w1.cell? ⟨w.heap.size,0,none⟩=some (.int .u64 (a.n:Int)):=z1.cell 0
 have d0:w1.cell? ⟨w.heap.size+1,0,none⟩=some (.int .u64 (b.n:Int)):=z2.cell 0
 have rM:w1.rangeAt w.heap.size 1 (wcs a.m):=by have:=z1.range 1 4;exact this
 have sM:w1.rangeAt (w.heap.size+1) 1 (wcs b.m):=by have:=z2.range 1 4;exact this
 have c5:w1.cell? ⟨w.heap.size,5,none⟩=some (.slice ca a.c.length cc):=by have:=z1.cell 5;rw [show (accs a)[5]?=some a.cv from rfl,hcv] at this;exact this
 have d5:w1.cell? ⟨w.heap.size+1,5,none⟩=some (.slice da b.c.length dc):=by have:=z2.cell 5;rw [show (accs b)[5]?=some b.cv from rfl,hdv] at this;exact this
 have c6:w1.cell? ⟨w.heap.size,6,none⟩=some (.slice sa a.s.length sc):=by have:=z1.cell 6;rw [show (accs a)[6]?=some a.sv from rfl,hsv] at this;exact this
 have d6:w1.cell? ⟨w.heap.size+1,6,none⟩=some (.slice ta b.s.length tc):=by have:=z2.cell 6;rw [show (accs b)[6]?=some b.sv from rfl,htv] at this;exact this
 have s1:=Q0h (P:=Tryz.prog) (src:=25) (dst:=9) elU8.ht (by kernel_rfl) (by kernel_rfl) (show Bytes w1 (.slice ca a.c.length cc) a.c from by rw [←hcv];exact (h1.below hbel).1)
 have s2:=Q0h (P:=Tryz.prog) (src:=25) (dst:=9) elU8.ht (by kernel_rfl) (by kernel_rfl) (show Bytes w1 (.slice da b.c.length dc) b.c from by rw [←hdv];exact (h2.below hbel).1)
 have gM:=fun o1 o2 w1=>Qab a.m b.m o1 o2 w1
 have qM:=fun w1=>neWN a.m b.m km1 km2 w1
 have R1:RowOf spc 8 w1 (.slice sa a.s.length sc) a.s:=by rw [←hsv];exact (h1.below hbel).2
 have R2:RowOf spc 8 w1 (.slice ta b.s.length tc) b.s:=by rw [←htv];exact (h2.below hbel).2
 rw [←hvn] at d0
 rw [←hvm] at sM gM qM
 rw [←hvc] at d5 s2
 rw [←hvs] at d6 R2
 have qM2:∀ w1,(binOp .neq 24 (.agg (wcs a.m).toArray) (.agg (wcs a.m).toArray)).run Tryz.prog w1=.ok (.bool false) w1:=fun w1=>by have:=qM w1;simpa using this
 obtain ⟨n,hn⟩:∃ n,n=a.n:=⟨_,rfl⟩
 obtain ⟨L,hL⟩:∃ L,L=a.s:=⟨_,rfl⟩
 obtain ⟨sn,hsn⟩:∃ n,n=a.s.length:=⟨_,rfl⟩
 obtain ⟨C,hC⟩:∃ L,L=a.c:=⟨_,rfl⟩
 obtain ⟨cn,hcn⟩:∃ n,n=a.c.length:=⟨_,rfl⟩
 obtain ⟨M,hM⟩:∃ M,M=wcs a.m:=⟨_,rfl⟩
 have hlM:M.length=4:=by rw [hM];rfl
 have hLn:L.length=sn:=by rw [hL,hsn]
 have hsm:=R1.small
 unfold maxLen at hsm
 rw [←hn] at c0 d0
 rw [←hsn] at c6 d6 R1 R2 hsm
 rw [←hL] at R1 R2
 rw [←hcn] at c5 d5 s1 s2
 rw [←hC] at s1 s2
 rw [←hM] at rM sM gM qM2
 have hb:(C==C)=true:=beq_self_eq_true _
 have hb1:((n:Int)==(n:Int))=true:=beq_self_eq_true _
 have hb2:((sn:Int)==(sn:Int))=true:=beq_self_eq_true _
 obtain ⟨X1,hX1⟩:∃ X,X=accs a:=⟨_,rfl⟩
 obtain ⟨X2,hX2⟩:∃ X,X=accs b:=⟨_,rfl⟩
 rw [←hX1,←hX2] at hw1 ⊢
 have Hw1:=Qhd hw1
 have GM:=Qhd gM
 have QM:=Qhd qM2
 have RM:=Qhd rM
 have SM:=Qhd sM
 have HR1:=Qhd R1
 have HR2:=Qhd R2
 have HLn:=Qhd hLn
 clear hw1 gM qM qM2 rM sM hX1 hX2 hn hL hsn hC hcn hM hcv hsv hdv htv h1 h2 z1 z2 hv hvn hvm hvc hvs km1 km2 R1 R2 hLn
 go_enter Tryz.func117,Tryz.ntmps117
 go_upto_region 1 with fail
 rw [show ((w.alloc (.cells X1.toArray 28)).alloc (.cells X2.toArray 28))=w1 from Hw1.out.symm]
 go_wp2_with (first
  |((with_reducible refine Qgl 13 ?_);refine Qlw 24 12 w.heap.size 1 Q0f hlM RM.out ?_)
  |((with_reducible refine Qgl 15 ?_);refine Qlw 24 14 (w.heap.size+1) 1 Q0f hlM SM.out ?_)
  |((with_reducible refine Qgl 16 ?_);refine Q2b (o:=⟨some 16,_,_,_,_,_⟩) 24 (.tmp 13) (.tmp 15) _ (by rfl) (by rfl) (by rfl) GM.out QM.out (by rfl) ?_))
 go_loopw [39] (fun ix wr=>∃ k:Nat,k≤sn∧ix=.int .i64 (k:Int)∧Below w1.heap.size w1 wr) (fun ix _=>sn - (intOf ix).toNat)
 case atStart=>exact ⟨0,by omega,rfl,Below.refl _ _⟩
 case round =>
  obtain ⟨k,hk,rfl,hbr⟩:=hrel
  by_cases hlt:k<sn
  ·have hki:(k:Int)<(sn:Int):=by omega
   have hkl:k<L.length:=by rw [HLn.out];exact hlt
   obtain ⟨b1,o1,rfl,hc1⟩:=RowOf.range Q26 (HR1.out.below hbr) k hkl
   obtain ⟨b2,o2,rfl,hc2⟩:=RowOf.range Q26 (HR2.out.below hbr) k hkl
   have qx:=neSlot L[k]
   have gx:=Qhu L[k]
   obtain ⟨X,hX⟩:∃ X,X=spc L[k]:=⟨_,rfl⟩
   have hl8:X.length=8:=by rw [hX];rfl
   rw [←hX] at hc1 hc2 qx gx
   have Q:=Qhd qx
   have G:=Qhd gx
   have R1:=Qhd hc1
   have R2:=Qhd hc2
   have e6:wr.cell? ⟨w.heap.size,6,none⟩=some (.slice (some ⟨b1,o1,none⟩) sn sc):=by rw [hbr.cell (World.block_lt_of_cell? w1 _ c6)];exact c6
   have f6:wr.cell? ⟨w.heap.size+1,6,none⟩=some (.slice (some ⟨b2,o2,none⟩) sn tc):=by rw [hbr.cell (World.block_lt_of_cell? w1 _ d6)];exact d6
   have k1:=fun u:Ext wr=>u.cell e6
   have k2:=fun u:Ext wr=>u.cell f6
   clear hX qx gx hkl hc1 hc2
   go_wp2_with fail
   refine Q02 wr 11 (by kernel_rfl) (by kernel_rfl) (Below.refl _ _) ?_;simp only [List.take_succ_cons,List.take_zero,List.take_nil]
   iterate 4 (refine Q01 (by rfl) (fun K hK=>?_);go_simp;refine hK _ ?_;clear hK K)
   (refine Q01 (by rfl) (fun K hK=>?_);rw [if_pos (by rfl)];refine ⟨_,fun u=>Q08 _ (.tmp 45) (by rfl) _ _ (by rfl) Q28 hl8 (rangeAt.ext R1.out u),hK _ ?_⟩;clear hK K;simp only [Act.put,Qzs])
   iterate 4 (refine Q01 (by rfl) (fun K hK=>?_);go_simp;refine hK _ ?_;clear hK K)
   (refine Q01 (by rfl) (fun K hK=>?_);rw [if_pos (by rfl)];refine ⟨_,fun u=>Q08 _ (.tmp 50) (by rfl) _ _ (by rfl) Q28 hl8 (rangeAt.ext R2.out u),hK _ ?_⟩;clear hK K;simp only [Act.put,Qzs])
   (refine Q01 (by rfl) (fun K hK=>?_);rw [if_pos (by rfl)];refine ⟨_,fun u=>Qi8 _ _ _ _ (by rfl) (by rfl) (by rfl) (fun o1 o2 w1=>G.out o1 o2 w1) (fun w1=>Q.out w1),hK _ ?_⟩;clear hK K;simp only [Act.put,Qzs])
   refine Q09 ?_
   intro u2 hb2
   have hbel2:=Below.then hbr hb2
   change Q00 u2 [] _ _
   simp only [Q00,List.drop_succ_cons,List.drop_zero,List.drop_nil]
   go_wp2_with fail
   go_roundw
   case rel=>exact ⟨k+1,by omega,by go_num,hbel2⟩
   case measure=>simp [intOf];omega
  ·obtain rfl:k=sn:=by omega
   have hki:¬ (k:Int)<(k:Int):=by omega
   go_wp2_with fail
   go_ret
   exact ⟨rfl,Below.then hbel hbr⟩
theorem Q9o (a b:Acc)(km1:a.m<W256)(km2:b.m<W256)(hd:a.n≠b.n∨a.m≠b.m∨a.c≠b.c∨a.s.length≠b.s.length)(w:World)(h1:a.In w)(h2:b.In w) :
  Calls Tryz.prog 117 #[.agg (accs a).toArray,.agg (accs b).toArray] w fun e w'=>e=.returned (.bool false)∧Below w.heap.size w w':=by
 obtain ⟨ca,cc,sa,sc,hcv,hsv⟩:=Q0w h1
 obtain ⟨da,dc,ta,tc,hdv,htv⟩:=Q0w h2
 obtain ⟨w1,hw1⟩:∃ w1,w1=(w.alloc (.cells (accs a).toArray 28)).alloc (.cells (accs b).toArray 28):=⟨_,rfl⟩
 have z1:Blk 28 w1 w.heap.size (accs a):=by rw [hw1];exact (Blk.new w _ _).alloc _
 have z2:Blk 28 w1 (w.heap.size+1) (accs b):=by
  rw [hw1]
  have:=Blk.new (w.alloc (.cells (accs a).toArray 28)) 28 (accs b)
  simpa using this
 have hbel:Below w.heap.size w w1:=by rw [hw1];exact (Qba _ _).alloc (by simp) _
 have c0:w1.cell? ⟨w.heap.size,0,none⟩=some (.int .u64 (a.n:Int)):=z1.cell 0
 have d0:w1.cell? ⟨w.heap.size+1,0,none⟩=some (.int .u64 (b.n:Int)):=z2.cell 0
 have rM:w1.rangeAt w.heap.size 1 (wcs a.m):=by have:=z1.range 1 4;exact this
 have sM:w1.rangeAt (w.heap.size+1) 1 (wcs b.m):=by have:=z2.range 1 4;exact this
 have c5:w1.cell? ⟨w.heap.size,5,none⟩=some (.slice ca a.c.length cc):=by have:=z1.cell 5;rw [show (accs a)[5]?=some a.cv from rfl,hcv] at this;exact this
 have d5:w1.cell? ⟨w.heap.size+1,5,none⟩=some (.slice da b.c.length dc):=by have:=z2.cell 5;rw [show (accs b)[5]?=some b.cv from rfl,hdv] at this;exact this
 have c6:w1.cell? ⟨w.heap.size,6,none⟩=some (.slice sa a.s.length sc):=by have:=z1.cell 6;rw [show (accs a)[6]?=some a.sv from rfl,hsv] at this;exact this
 have d6:w1.cell? ⟨w.heap.size+1,6,none⟩=some (.slice ta b.s.length tc):=by have:=z2.cell 6;rw [show (accs b)[6]?=some b.sv from rfl,htv] at this;exact this
 have s1:=Q0h (P:=Tryz.prog) (src:=25) (dst:=9) elU8.ht (by kernel_rfl) (by kernel_rfl) (show Bytes w1 (.slice ca a.c.length cc) a.c from by rw [←hcv];exact (h1.below hbel).1)
 have s2:=Q0h (P:=Tryz.prog) (src:=25) (dst:=9) elU8.ht (by kernel_rfl) (by kernel_rfl) (show Bytes w1 (.slice da b.c.length dc) b.c from by rw [←hdv];exact (h2.below hbel).1)
 have gM:=fun o1 o2 w1=>Qab a.m b.m o1 o2 w1
 have qM:=fun w1=>neWN a.m b.m km1 km2 w1
 obtain ⟨n,hn⟩:∃ n,n=a.n:=⟨_,rfl⟩
 obtain ⟨n',hn'⟩:∃ n,n=b.n:=⟨_,rfl⟩
 obtain ⟨sn,hsn⟩:∃ n,n=a.s.length:=⟨_,rfl⟩
 obtain ⟨sn',hsn'⟩:∃ n,n=b.s.length:=⟨_,rfl⟩
 obtain ⟨C,hC⟩:∃ L,L=a.c:=⟨_,rfl⟩
 obtain ⟨C',hC'⟩:∃ L,L=b.c:=⟨_,rfl⟩
 obtain ⟨cn,hcn⟩:∃ n,n=a.c.length:=⟨_,rfl⟩
 obtain ⟨cn',hcn'⟩:∃ n,n=b.c.length:=⟨_,rfl⟩
 obtain ⟨M,hM⟩:∃ M,M=wcs a.m:=⟨_,rfl⟩
 obtain ⟨M',hM'⟩:∃ M,M=wcs b.m:=⟨_,rfl⟩
 have hlM:M.length=4:=by rw [hM];rfl
 have hlN:M'.length=4:=by rw [hM'];rfl
 obtain ⟨xm,hxm⟩:∃ x,x=decide (a.m=b.m):=⟨_,rfl⟩
 have hd2:n≠n'∨xm=false∨C≠C'∨sn≠sn':=by rw [hn,hn',hxm,hC,hC',hsn,hsn'];simpa using hd
 rw [←hn] at c0
 rw [←hn'] at d0
 rw [←hsn] at c6
 rw [←hsn'] at d6
 rw [←hcn] at c5 s1
 rw [←hcn'] at d5 s2
 rw [←hC] at s1
 rw [←hC'] at s2
 rw [←hM] at rM gM qM
 rw [←hM'] at sM gM qM
 rw [←hxm] at qM
 obtain ⟨X1,hX1⟩:∃ X,X=accs a:=⟨_,rfl⟩
 obtain ⟨X2,hX2⟩:∃ X,X=accs b:=⟨_,rfl⟩
 rw [←hX1,←hX2] at hw1 ⊢
 have Hw1:=Qhd hw1
 have GM:=Qhd gM
 have RM:=Qhd rM
 have SM:=Qhd sM
 clear hw1 gM rM sM hX1 hX2 hn hn' hsn hsn' hC hC' hcn hcn' hM hM' hcv hsv hdv htv h1 h2 z1 z2 hd km1 km2 hxm
 by_cases e1:n=n'
 ·subst e1
  cases xm with
  | false =>
   have QM:=Qhd qM
   clear qM hd2
   go_enter Tryz.func117,Tryz.ntmps117
   go_upto_region 1 with fail
   rw [show ((w.alloc (.cells X1.toArray 28)).alloc (.cells X2.toArray 28))=w1 from Hw1.out.symm]
   go_wp2_with (first
       |((with_reducible refine Qgl 13 ?_);refine Qlw 24 12 w.heap.size 1 Q0f hlM RM.out ?_)
       |((with_reducible refine Qgl 15 ?_);refine Qlw 24 14 (w.heap.size+1) 1 Q0f hlN SM.out ?_)
       |((with_reducible refine Qgl 16 ?_);refine Q2b (o:=⟨some 16,_,_,_,_,_⟩) 24 (.tmp 13) (.tmp 15) _ (by rfl) (by rfl) (by rfl) GM.out QM.out (by rfl) ?_))
   go_ret
   exact ⟨rfl,hbel⟩
  | true =>
   have QM:=Qhd qM
   clear qM
   by_cases e2:C=C'
   ·subst e2
    have e3:sn≠sn':=by simpa using hd2
    have hb2:((sn:Int)==(sn':Int))=false:=by simp;omega
    clear hd2 e3
    go_enter Tryz.func117,Tryz.ntmps117
    go_upto_region 1 with fail
    rw [show ((w.alloc (.cells X1.toArray 28)).alloc (.cells X2.toArray 28))=w1 from Hw1.out.symm]
    go_wp2_with (first
        |((with_reducible refine Qgl 13 ?_);refine Qlw 24 12 w.heap.size 1 Q0f hlM RM.out ?_)
        |((with_reducible refine Qgl 15 ?_);refine Qlw 24 14 (w.heap.size+1) 1 Q0f hlN SM.out ?_)
        |((with_reducible refine Qgl 16 ?_);refine Q2b (o:=⟨some 16,_,_,_,_,_⟩) 24 (.tmp 13) (.tmp 15) _ (by rfl) (by rfl) (by rfl) GM.out QM.out (by rfl) ?_))
    go_ret
    exact ⟨rfl,hbel⟩
   ·have hb:(C==C')=false:=by simpa using e2
    clear hd2 e2
    go_enter Tryz.func117,Tryz.ntmps117
    go_upto_region 1 with fail
    rw [show ((w.alloc (.cells X1.toArray 28)).alloc (.cells X2.toArray 28))=w1 from Hw1.out.symm]
    go_wp2_with (first
        |((with_reducible refine Qgl 13 ?_);refine Qlw 24 12 w.heap.size 1 Q0f hlM RM.out ?_)
        |((with_reducible refine Qgl 15 ?_);refine Qlw 24 14 (w.heap.size+1) 1 Q0f hlN SM.out ?_)
        |((with_reducible refine Qgl 16 ?_);refine Q2b (o:=⟨some 16,_,_,_,_,_⟩) 24 (.tmp 13) (.tmp 15) _ (by rfl) (by rfl) (by rfl) GM.out QM.out (by rfl) ?_))
    go_ret
    exact ⟨rfl,hbel⟩
 ·have hb1:((n:Int)==(n':Int))=false:=by simp;omega
  have QM:=Qhd qM
  clear hd2 qM
  go_enter Tryz.func117,Tryz.ntmps117
  go_upto_region 1 with fail
  rw [show ((w.alloc (.cells X1.toArray 28)).alloc (.cells X2.toArray 28))=w1 from Hw1.out.symm]
  go_wp2_with (first
      |((with_reducible refine Qgl 13 ?_);refine Qlw 24 12 w.heap.size 1 Q0f hlM RM.out ?_)
      |((with_reducible refine Qgl 15 ?_);refine Qlw 24 14 (w.heap.size+1) 1 Q0f hlN SM.out ?_)
      |((with_reducible refine Qgl 16 ?_);refine Q2b (o:=⟨some 16,_,_,_,_,_⟩) 24 (.tmp 13) (.tmp 15) _ (by rfl) (by rfl) (by rfl) GM.out QM.out (by rfl) ?_))
  go_ret
  exact ⟨rfl,hbel⟩
theorem Qa3 (a:Acc)(k:a.Ok)(w:World)(h:a.In w):Calls Tryz.prog 89 #[.agg (accs a).toArray] w fun e w'=>e=.returned (.bool (noneB a))∧Below w.heap.size w w':=by
 have hc:∀ u,Below w.heap.size w u→Calls Tryz.prog 117 #[.agg (accs a).toArray,.agg z7.toArray] u fun e w'=>e=.returned (.bool (noneB a))∧Below u.heap.size u w':=fun u hu=>by
  have hz:accs zA=z7:=rfl
  rw [←hz]
  by_cases hv:a.val=zA.val
  ·have hn:noneB a=true:=by
    unfold Acc.val zA at hv
    simp only [Prod.mk.injEq] at hv
    unfold noneB
    simp [hv]
   rw [hn]
   exact Q9n a zA hv k.m u (h.below hu) (zA_in u)
  ·have hn:noneB a=false:=by
    rw [Bool.eq_false_iff]
    intro hc
    apply hv
    unfold noneB at hc
    simp only [Bool.and_eq_true,beq_iff_eq,List.isEmpty_iff] at hc
    unfold Acc.val zA
    simp [hc]
   rw [hn]
   refine Q9o a zA k.m (by unfold zA W256;dsimp only;omega) ?_ u (h.below hu) (zA_in u)
   by_cases h1:a.n=zA.n
   ·by_cases h2:a.m=zA.m
    ·by_cases h3:a.c=zA.c
     ·refine .inr (.inr (.inr (fun h4=>hv ?_)))
      have h5:a.s=zA.s:=by
       have:a.s.length=0:=h4
       exact List.eq_nil_of_length_eq_zero this
      unfold Acc.val
      rw [h1,h2,h3,h5]
     ·exact .inr (.inr (.inl h3))
    ·exact .inr (.inl h2)
   ·exact .inl h1
 have z1:=Blk.new w 28 (accs a)
 have hbel:Below w.heap.size w (w.alloc (.cells (accs a).toArray 28)):=Qba _ _
 have hc1:=hc _ hbel
 obtain ⟨X,hX⟩:∃ X,X=accs a:=⟨_,rfl⟩
 have hlX:X.length=7:=by rw [hX];rfl
 rw [←hX] at z1 hbel hc1 ⊢
 have Hc:=Qhd hc1
 clear hc hc1 hX h k
 go_enter Tryz.func89,Tryz.ntmps89
 go_wp2_with (first
  |((with_reducible refine Qgl 3 ?_);refine Qla 28 1 w.heap.size aggAcc z1 hlX ?_)
  |(go_at_call 117;refine Hc.out.mono ?_;rintro e w2 ⟨rfl,b2⟩))
 go_ret
 exact ⟨rfl,Below.then hbel b2⟩
def errA (a:Acc):Nat:=if slotsB a.s then (if 1024<a.c.length then 2 else 0) else 1
theorem Q7e (a:Acc)(hka:a.Ok)(w:World)(h:a.In w) :
  Calls Tryz.prog 38 #[.agg (accs a).toArray] w fun e w'=>e=.returned (.int .i64 (errA a:Int))∧Below w.heap.size w w':=by
 obtain ⟨ca,cc,sa,sc,hcv,hsv⟩:=Q0w h
 obtain ⟨w1,hw1⟩:∃ w1,w1=w.alloc (.cells (accs a).toArray 28):=⟨_,rfl⟩
 have z1:Blk 28 w1 w.heap.size (accs a):=by rw [hw1];exact Blk.new w _ _
 have hbel0:Below w.heap.size w w1:=by rw [hw1];exact Qba _ _
 have c5:w1.cell? ⟨w.heap.size,5,none⟩=some (.slice ca a.c.length cc):=by have:=z1.cell 5;rw [show (accs a)[5]?=some a.cv from rfl,hcv] at this;exact this
 have c6:w1.cell? ⟨w.heap.size,6,none⟩=some (.slice sa a.s.length sc):=by have:=z1.cell 6;rw [show (accs a)[6]?=some a.sv from rfl,hsv] at this;exact this
 have hS:RowOf spc 8 w1 (.slice sa a.s.length sc) a.s:=by rw [←hsv];exact (h.below hbel0).2
 obtain ⟨l,hl⟩:∃ l,l=a.s:=⟨_,rfl⟩
 obtain ⟨n,hn⟩:∃ n,n=l.length:=⟨_,rfl⟩
 obtain ⟨cn,hcn⟩:∃ n,n=a.c.length:=⟨_,rfl⟩
 have hka2:=hka.s
 have her:errA a=if slotsB l then (if 1024<cn then 2 else 0) else 1:=by unfold errA;rw [hl,hcn]
 rw [←hl] at c6 hS hka2
 rw [←hn] at c6 hS
 rw [←hcn] at c5
 obtain ⟨E,hE⟩:∃ E,E=errA a:=⟨_,rfl⟩
 rw [←hE]
 have HE:=Qhd (hE.trans her)
 clear hE
 obtain ⟨X,hX⟩:∃ X,X=accs a:=⟨_,rfl⟩
 rw [←hX] at hw1 ⊢
 have hsm:=hS.small
 unfold maxLen at hsm
 rw [←hn] at hsm
 have Hn:=Qhd hn.symm
 have Hk:=Qhd hka2
 have Hw1:=Qhd hw1
 have HS:=Qhd hS
 clear hw1 hX hl hn hcn hka hka2 her hcv hsv h z1 hS
 go_enter Tryz.func38,Tryz.ntmps38
 go_upto_region 1 with fail
 rw [show (w.alloc (.cells X.toArray 28))=w1 from Hw1.out.symm]
 go_wp2_with fail
 go_loopw [7] (fun ix wr=>∃ i:Nat,i≤n∧ix=.int .i64 (i:Int)∧Below w1.heap.size w1 wr∧Hid (∀ j,j<i→okS l j=true)) (fun ix _=>n - (intOf ix).toNat)
 case atStart=>exact ⟨0,by omega,rfl,Below.refl _ _,Qhd (fun j hj=>by omega)⟩
 case round =>
  obtain ⟨i,hin,rfl,hbel,hok⟩:=hrel
  have c6r:wr.cell? ⟨w.heap.size,6,none⟩=some (.slice sa n sc):=by rw [hbel.cell (World.block_lt_of_cell? w1 _ c6)];exact c6
  have c5r:wr.cell? ⟨w.heap.size,5,none⟩=some (.slice ca cn cc):=by rw [hbel.cell (World.block_lt_of_cell? w1 _ c5)];exact c5
  by_cases hlt:i<n
  ·have hz:(i:Int)<(n:Int):=by omega
   have hil:i<l.length:=by rw [Hn.out];exact hlt
   obtain ⟨b,off,rfl,hr⟩:=RowOf.range Q26 (HS.out.below hbel) i hil
   have hkp:=Hk.out _ (List.getElem_mem hil)
   obtain ⟨p,hp⟩:∃ p,p=l[i]:=⟨_,rfl⟩
   rw [←hp] at hr hkp
   have hli:l[i]?=some p:=by rw [hp];exact List.getElem?_eq_getElem hil
   have hry:wr.rangeAt b (off+i*8) (wcs p.1):=fun j v hv=>hr j v (by
    unfold spc
    rw [List.getElem?_append_left (by have:=(List.getElem?_eq_some_iff.1 hv).1;exact this)];exact hv)
   have hrz:wr.rangeAt b (off+i*8+4) (wcs p.2):=fun j v hv=>by
    have:=hr (4+j) v (by
     unfold spc
     rw [List.getElem?_append_right (by rw [Q0u];omega),Q0u,Nat.add_sub_cancel_left];exact hv)
    rw [show off+i*8+4+j=off+i*8+(4+j) from by omega];exact this
   have gq:=fun o1 o2 w1=>Qbn p.2 0 o1 o2 w1
   have qq:=fun w1=>eqWN p.2 0 hkp.2 (by unfold W256;omega) w1
   rw [wz0] at gq qq
   obtain ⟨Y,hY⟩:∃ Y,Y=wcs p.1:=⟨_,rfl⟩
   obtain ⟨Z,hZ⟩:∃ Z,Z=wcs p.2:=⟨_,rfl⟩
   have hlY:Y.length=4:=by rw [hY];rfl
   have hlZ:Z.length=4:=by rw [hZ];rfl
   rw [←hY] at hry
   rw [←hZ] at gq qq hrz
   have Gq:=Qhd gq
   have RY:=Qhd hry
   have RZ:=Qhd hrz
   have k6:=fun u:Ext wr=>u.cell c6r
   clear gq hry hrz hr
   by_cases hv:p.2=0
   ·rw [decide_eq_true hv] at qq
    have Qq:=Qhd qq
    have hbad:okS l i=false:=by unfold okS;rw [hli];simp [hv]
    have Hres:=Qhd (show slotsB l=false from Q1g hil hbad)
    clear qq hv hbad hli hp hY hZ hkp hil
    go_upto_region 4 with fail
    refine Q02 wr 29 (by kernel_rfl) (by kernel_rfl) (Below.refl _ _) ?_;simp only [List.take_succ_cons,List.take_zero,List.take_nil]
    iterate 5 (refine Q01 (by rfl) (fun K hK=>?_);go_simp;refine hK _ ?_;clear hK K)
    (refine Q01 (by rfl) (fun K hK=>?_);rw [if_pos (by rfl)];refine ⟨_,fun u=>Q08 _ (.tmp 14) (by rfl) _ _ (by rfl) Q0f hlZ (rangeAt.ext RZ.out u),hK _ ?_⟩;clear hK K;simp only [Act.put,Qzs])
    (refine Q01 (by rfl) (fun K hK=>?_);go_simp;refine hK _ ?_;clear hK K)
    (refine Q01 (by rfl) (fun K hK=>?_);rw [if_pos (by rfl)];refine ⟨_,fun u=>Q22 _ _ _ _ (by rfl) (by rfl) (by rfl) (fun o1 o2 w1=>Gq.out o1 o2 w1) (fun w1=>Qq.out w1),hK _ ?_⟩;clear hK K;simp only [Act.put,Qzs])
    iterate 21 (refine Q01 (by rfl) (fun K hK=>?_);go_simp;refine hK _ ?_;clear hK K)
    refine Q09 ?_
    intro y5 b5
    change Q00 y5 [] _ _
    simp only [Q00,List.drop_succ_cons,List.drop_zero,List.drop_nil]
    go_wp2_with fail
    go_ret
    have he:E=1:=by rw [HE.out,Hres.out];rfl
    exact ⟨by rw [he];rfl,Below.then (Below.then hbel0 hbel) b5⟩
   ·rw [decide_eq_false hv] at qq
    have Qq:=Qhd qq
    by_cases hi0:i=0
    ·have hi1:¬ 0<i:=by omega
     have hd1:decide (0<i)=false:=decide_eq_false hi1
     have hgood:okS l i=true:=by unfold okS;rw [hli,hi0];simp [hv]
     have hi0':=Qhd hi0
     have Hgood:=Qhd hgood
     clear qq hv hgood hli hp hY hZ hkp hil hi0
     go_upto_region 4 with fail
     refine Q02 wr 29 (by kernel_rfl) (by kernel_rfl) (Below.refl _ _) ?_;simp only [List.take_succ_cons,List.take_zero,List.take_nil]
     iterate 5 (refine Q01 (by rfl) (fun K hK=>?_);go_simp;refine hK _ ?_;clear hK K)
     (refine Q01 (by rfl) (fun K hK=>?_);rw [if_pos (by rfl)];refine ⟨_,fun u=>Q08 _ (.tmp 14) (by rfl) _ _ (by rfl) Q0f hlZ (rangeAt.ext RZ.out u),hK _ ?_⟩;clear hK K;simp only [Act.put,Qzs])
     (refine Q01 (by rfl) (fun K hK=>?_);go_simp;refine hK _ ?_;clear hK K)
     (refine Q01 (by rfl) (fun K hK=>?_);rw [if_pos (by rfl)];refine ⟨_,fun u=>Q22 _ _ _ _ (by rfl) (by rfl) (by rfl) (fun o1 o2 w1=>Gq.out o1 o2 w1) (fun w1=>Qq.out w1),hK _ ?_⟩;clear hK K;simp only [Act.put,Qzs])
     iterate 21 (refine Q01 (by rfl) (fun K hK=>?_);go_simp;refine hK _ ?_;clear hK K)
     refine Q09 ?_
     intro y5 b5
     change Q00 y5 [] _ _
     simp only [Q00,List.drop_succ_cons,List.drop_zero,List.drop_nil]
     go_wp2_with fail
     go_roundw
     case rel=>exact ⟨i+1,by omega,by go_num,Below.then hbel b5,Qhd (fun j hj=>by
      have:j=i:=by have:=hi0'.out;omega
      rw [this];exact Hgood.out)⟩
     case measure=>simp [intOf];omega
    ·have hi1:0<i:=by omega
     have hd1:decide (0<i)=true:=decide_eq_true hi1
     obtain ⟨J,hJ⟩:∃ J,J=i - 1:=⟨_,rfl⟩
     have hJl:J<l.length:=by omega
     have hsub:IntKind.i64.wrap ((i:Int) - 1)=(J:Int):=by rw [IntWalk.i64_in _ (by omega)];omega
     have hJn:(J:Int)<(n:Int):=by omega
     have hJn2:J<n:=by omega
     obtain ⟨b2',off2',hbe,hr2⟩:=RowOf.range Q26 (HS.out.below hbel) J hJl
     simp only [Option.some.injEq,Addr.mk.injEq,and_true] at hbe
     obtain ⟨rfl,rfl⟩:=hbe
     have hkq:=Hk.out _ (List.getElem_mem hJl)
     have hgd:l.getD (i - 1) (0,0)=l[J]:=by rw [←hJ,List.getD_eq_getElem?_getD,List.getElem?_eq_getElem hJl];rfl
     obtain ⟨q,hq⟩:∃ q,q=l[J]:=⟨_,rfl⟩
     rw [←hq] at hr2 hkq hgd
     have hrq:wr.rangeAt b (off+J*8) (wcs q.1):=fun j v hv=>hr2 j v (by
      unfold spc
      rw [List.getElem?_append_left (by have:=(List.getElem?_eq_some_iff.1 hv).1;exact this)];exact hv)
     have hok2:okS l i=decide (q.1<p.1):=by
      unfold okS
      rw [hli]
      simp only [hgd]
      have:(p.2 != 0)=true:=by simpa using hv
      have h2:(i==0)=false:=by simpa using hi0
      rw [this,h2];simp
     obtain ⟨xl,hxl⟩:∃ x,x=decide (q.1<p.1):=⟨_,rfl⟩
     have cc2:∀ u:World,Calls Tryz.prog 79 #[.agg (wcs q.1).toArray,.agg Y.toArray] u (fun e w'=>e=.returned (.bool xl)∧Below u.heap.size u w'):=fun u=>by rw [hY,hxl];exact Qk0 q.1 p.1 hkq.1 hkp.1 u
     rw [←hxl] at hok2
     obtain ⟨V,hV⟩:∃ V,V=wcs q.1:=⟨_,rfl⟩
     have hlV:V.length=4:=by rw [hV];rfl
     rw [←hV] at hrq cc2
     have RQ:=Qhd hrq
     have Hok2:=Qhd hok2
     clear hxl hok2 hrq hr2 hgd hV hq hkq hJ hp hY hZ hkp hli qq
     cases xl with
     | true =>
      have Cc:=Qhd cc2
      have Hgood:=Qhd (show okS l i=true from Hok2.out)
      clear hv hil cc2 hJl
      go_upto_region 4 with fail
      refine Q02 wr 29 (by kernel_rfl) (by kernel_rfl) (Below.refl _ _) ?_;simp only [List.take_succ_cons,List.take_zero,List.take_nil]
      iterate 5 (refine Q01 (by rfl) (fun K hK=>?_);go_simp;refine hK _ ?_;clear hK K)
      (refine Q01 (by rfl) (fun K hK=>?_);rw [if_pos (by rfl)];refine ⟨_,fun u=>Q08 _ (.tmp 14) (by rfl) _ _ (by rfl) Q0f hlZ (rangeAt.ext RZ.out u),hK _ ?_⟩;clear hK K;simp only [Act.put,Qzs])
      (refine Q01 (by rfl) (fun K hK=>?_);go_simp;refine hK _ ?_;clear hK K)
      (refine Q01 (by rfl) (fun K hK=>?_);rw [if_pos (by rfl)];refine ⟨_,fun u=>Q22 _ _ _ _ (by rfl) (by rfl) (by rfl) (fun o1 o2 w1=>Gq.out o1 o2 w1) (fun w1=>Qq.out w1),hK _ ?_⟩;clear hK K;simp only [Act.put,Qzs])
      iterate 10 (refine Q01 (by rfl) (fun K hK=>?_);go_simp;refine hK _ ?_;clear hK K)
      (refine Q01 (by rfl) (fun K hK=>?_);rw [if_pos (by rfl)];refine ⟨_,fun u=>Q08 _ (.tmp 27) (by rfl) _ _ (by rfl) Q0f hlV (rangeAt.ext RQ.out u),hK _ ?_⟩;clear hK K;simp only [Act.put,Qzs])
      iterate 5 (refine Q01 (by rfl) (fun K hK=>?_);go_simp;refine hK _ ?_;clear hK K)
      (refine Q01 (by rfl) (fun K hK=>?_);rw [if_pos (by rfl)];refine ⟨_,fun u=>Q08 _ (.tmp 33) (by rfl) _ _ (by rfl) Q0f hlY (rangeAt.ext RY.out u),hK _ ?_⟩;clear hK K;simp only [Act.put,Qzs])
      (refine Q01 (by rfl) (fun K hK=>?_);go_simp;first|(refine hK _ ?_;clear hK K)|(apply Exists.intro;refine ⟨fun _=>?_,hK _ ?_⟩;exact Cc.out _;clear hK K))
      iterate 3 (refine Q01 (by rfl) (fun K hK=>?_);go_simp;refine hK _ ?_;clear hK K)
      refine Q09 ?_
      intro y5 b5
      change Q00 y5 [] _ _
      simp only [Q00,List.drop_succ_cons,List.drop_zero,List.drop_nil]
      go_wp2_with fail
      go_roundw
      case rel=>exact ⟨i+1,by omega,by go_num,Below.then hbel b5,Qhd (fun j hj=>by
       by_cases hji:j=i
       ·rw [hji];exact Hgood.out
       ·exact hok.out j (by omega))⟩
      case measure=>simp [intOf];omega
     | false =>
      have Cc:=Qhd cc2
      have Hres:=Qhd (show slotsB l=false from Q1g hil (show okS l i=false from Hok2.out))
      clear hv hil cc2 hJl
      go_upto_region 4 with fail
      refine Q02 wr 29 (by kernel_rfl) (by kernel_rfl) (Below.refl _ _) ?_;simp only [List.take_succ_cons,List.take_zero,List.take_nil]
      iterate 5 (refine Q01 (by rfl) (fun K hK=>?_);go_simp;refine hK _ ?_;clear hK K)
      (refine Q01 (by rfl) (fun K hK=>?_);rw [if_pos (by rfl)];refine ⟨_,fun u=>Q08 _ (.tmp 14) (by rfl) _ _ (by rfl) Q0f hlZ (rangeAt.ext RZ.out u),hK _ ?_⟩;clear hK K;simp only [Act.put,Qzs])
      (refine Q01 (by rfl) (fun K hK=>?_);go_simp;refine hK _ ?_;clear hK K)
      (refine Q01 (by rfl) (fun K hK=>?_);rw [if_pos (by rfl)];refine ⟨_,fun u=>Q22 _ _ _ _ (by rfl) (by rfl) (by rfl) (fun o1 o2 w1=>Gq.out o1 o2 w1) (fun w1=>Qq.out w1),hK _ ?_⟩;clear hK K;simp only [Act.put,Qzs])
      iterate 10 (refine Q01 (by rfl) (fun K hK=>?_);go_simp;refine hK _ ?_;clear hK K)
      (refine Q01 (by rfl) (fun K hK=>?_);rw [if_pos (by rfl)];refine ⟨_,fun u=>Q08 _ (.tmp 27) (by rfl) _ _ (by rfl) Q0f hlV (rangeAt.ext RQ.out u),hK _ ?_⟩;clear hK K;simp only [Act.put,Qzs])
      iterate 5 (refine Q01 (by rfl) (fun K hK=>?_);go_simp;refine hK _ ?_;clear hK K)
      (refine Q01 (by rfl) (fun K hK=>?_);rw [if_pos (by rfl)];refine ⟨_,fun u=>Q08 _ (.tmp 33) (by rfl) _ _ (by rfl) Q0f hlY (rangeAt.ext RY.out u),hK _ ?_⟩;clear hK K;simp only [Act.put,Qzs])
      (refine Q01 (by rfl) (fun K hK=>?_);go_simp;first|(refine hK _ ?_;clear hK K)|(apply Exists.intro;refine ⟨fun _=>?_,hK _ ?_⟩;exact Cc.out _;clear hK K))
      iterate 3 (refine Q01 (by rfl) (fun K hK=>?_);go_simp;refine hK _ ?_;clear hK K)
      refine Q09 ?_
      intro y5 b5
      change Q00 y5 [] _ _
      simp only [Q00,List.drop_succ_cons,List.drop_zero,List.drop_nil]
      go_wp2_with fail
      go_ret
      have he:E=1:=by rw [HE.out,Hres.out];rfl
      exact ⟨by rw [he];rfl,Below.then (Below.then hbel0 hbel) b5⟩
  ·obtain rfl:i=n:=by omega
   have hz:¬ (i:Int)<(i:Int):=by omega
   have Hres:=Qhd (show slotsB l=true from Q96 (fun j hj=>hok.out j (by rw [←Hn.out];exact hj)))
   by_cases hlong:1024<cn
   ·have hc:(1024:Int)<(cn:Int):=by omega
    go_wp2_with fail
    go_ret
    have he:E=2:=by rw [HE.out,Hres.out,if_pos rfl,if_pos hlong]
    exact ⟨by rw [he];rfl,Below.then hbel0 hbel⟩
   ·have hc:¬ (1024:Int)<(cn:Int):=by omega
    go_wp2_with fail
    go_ret
    have he:E=0:=by rw [HE.out,Hres.out,if_pos rfl,if_neg hlong]
    exact ⟨by rw [he];rfl,Below.then hbel0 hbel⟩
theorem less8 (F G:List UInt8)(hl:F.length=G.length):Op.bytesLess F G=decide (numL F<numL G):=by
 rw [bytesLess_eq]
 exact decide_eq_decide.2 (Qbg F G hl)
def Q99 (w:World)(l:List Hol)(n:Nat)(s3 ix:Value)(u:World):Prop:=∃ (i:Nat) (G:List UInt8),i≤n∧s3=str G∧ix=.int .i64 (i:Int)∧Below w.heap.size w u∧(∀ j,j<i→okH l j=true)∧(∀ (_:0<i) (h2:i - 1<l.length),G=l[i - 1].f)
theorem Q7d (a:Option Addr)(n c:Nat)(l:List Hol)(hn:l.length=n)(hk:∀ h∈l,h.a.Ok)(w:World)(h:RowOf hols 15 w (.slice a n c) l)(hi:∀ h∈l,h.a.In w) :
  Calls Tryz.prog 58 #[.slice a n c] w fun e w'=>e=.returned (.bool (rightB l))∧Below w.heap.size w w':=by
 have Hn:=Qhd hn
 have Hk:=Qhd hk
 have Hi:=Qhd hi
 have hsm:=h.small
 unfold maxLen at hsm
 rw [hn] at hsm
 clear hn hk hi
 go_enter Tryz.func58,Tryz.ntmps58
 go_wp2_with fail
 go_loopw [3,8] (fun s3 ix wr=>Q99 w l n s3 ix wr) (fun _ ix _=>n - (intOf ix).toNat)
 case atStart=>exact ⟨0,[],by omega,rfl,rfl,Below.refl _ _,fun j hj=>by omega,fun h0=>by omega⟩
 case round =>
  obtain ⟨i,G,hin,rfl,rfl,hbel,hok,hG⟩:=hrel
  replace hok:=Qhd hok
  by_cases hlt:i<n
  ·have hz:(i:Int)<(n:Int):=by omega
   have hil:i<l.length:=by rw [Hn.out];exact hlt
   obtain ⟨b,off,rfl,hr⟩:=RowOf.range Q10 (h.below hbel) i hil
   have hkp:=Hk.out _ (List.getElem_mem hil)
   have hip:=(Hi.out _ (List.getElem_mem hil)).below hbel
   obtain ⟨p,hp⟩:∃ p,p=l[i]:=⟨_,rfl⟩
   rw [←hp] at hr hkp hip
   have hli:l[i]?=some p:=by rw [hp];exact List.getElem?_eq_getElem hil
   obtain ⟨P8,hP8⟩:∃ P,P=hols p:=⟨_,rfl⟩
   have hl8:P8.length=15:=by rw [hP8];exact Q10 p
   have ho8:∀ u∈P8,u.oneCell'=true:=by rw [hP8];exact Q4f hip
   obtain ⟨V,hV⟩:∃ Y,Y=accs p.a:=⟨_,rfl⟩
   have hlV:V.length=7:=by rw [hV];rfl
   have hr4:∀ u x,Blk 123 u x P8→u.rangeAt x 8 V:=fun u x h=>by
    rw [hP8] at h
    intro j v hv
    rw [h.cell,Q20,←hV];exact hv
   obtain ⟨F,hF⟩:∃ F,F=p.f:=⟨_,rfl⟩
   have hF8:F.length=8:=by rw [hF,p.l]
   have hstr:∀ u x,Blk 123 u x P8→(convert 25 9 (.slice (some ⟨x,0,none⟩) 8 8)).run Tryz.prog u=.ok (str F) u:=fun u x h =>
    Q0h (P:=Tryz.prog) (src:=25) (dst:=9) elU8.ht (by kernel_rfl) (by kernel_rfl) (Blk.row (f:=b8) (size:=1) h F 8 8 (fun _=>rfl) hF8 (fun j x hx=>by
     rw [Q13] at hx
     rw [hP8,Q3e p j (by have:=(List.getElem?_eq_some_iff.1 hx).1;rw [List.length_map,hF8] at this;exact this),←hF];exact hx) (Nat.le_refl _) (by unfold maxLen;omega))
   have s8:=fun u=>sl8 wr.heap.size 0 u
   have oe:∀ u:World,Below wr.heap.size wr u→Calls Tryz.prog 38 #[.agg V.toArray] u fun e w'=>e=.returned (.int .i64 (errA p.a:Int))∧Below u.heap.size u w':=fun u hu=>by rw [hV];exact Q7e p.a hkp u (hip.below hu)
   have on:∀ u:World,Below wr.heap.size wr u→Calls Tryz.prog 89 #[.agg V.toArray] u fun e w'=>e=.returned (.bool (noneB p.a))∧Below u.heap.size u w':=fun u hu=>by rw [hV];exact Qa3 p.a hkp u (hip.below hu)
   obtain ⟨ord,hord⟩:∃ x,x=(i==0 || decide ((l.getD (i - 1) p).adr<p.adr)):=⟨_,rfl⟩
   have hokp:okH l i=(!noneB p.a&&(decide (p.a.c.length≤1024)&&(slotsB p.a.s&&ord))):=by rw [hord];unfold okH;rw [hli]
   have hokE:errA p.a=0→okH l i=(!noneB p.a&&ord):=fun he=>by
    rw [hokp]
    unfold errA at he
    split at he
    ·next hs =>
     split at he
     ·omega
     ·next hc=>rw [hs,decide_eq_true (show p.a.c.length≤1024 by omega)];simp
    ·omega
   have hokB:errA p.a≠0→okH l i=false:=fun he=>by
    rw [hokp]
    unfold errA at he
    cases hs:slotsB p.a.s
    ·simp
    ·rw [hs,if_pos rfl] at he
     split at he
     ·next hc=>rw [decide_eq_false (show ¬ p.a.c.length≤1024 by omega)];simp
     ·omega
   have hokO:ord=false→okH l i=false:=fun he=>by rw [hokp,he];simp
   obtain ⟨E,hE0⟩:∃ E,E=errA p.a:=⟨_,rfl⟩
   obtain ⟨xN,hxN⟩:∃ x,x=noneB p.a:=⟨_,rfl⟩
   rw [←hE0] at oe hokE hokB
   rw [←hxN] at on hokE
   rw [←hP8] at hr
   have Hr4:=Qhd hr4
   have HStr:=Qhd hstr
   have Oe:=Qhd oe
   have On:=Qhd on
   have HokE:=Qhd hokE
   have HokB:=Qhd hokB
   have HokO:=Qhd hokO
   have HF:=Qhd hF
   have Hp:=Qhd hp
   have HF8:=Qhd hF8
   have n4:=Blk.newA wr 123 z15.toArray
   have hb4:Below wr.heap.size wr (wr.alloc (.cells z15.toArray 123)):=Qba _ _
   by_cases hi0:i=0
   ·have hi1:¬ 0<i:=by omega
    have hd1:decide (0<i)=false:=decide_eq_false hi1
    have Hord:=Qhd (show ord=true from by rw [hord,hi0];rfl)
    clear hr4 hstr oe on hokE hokB hokO hokp hord hE0 hxN hF hF8 hp hli hkp hip hV hP8 hG hi0
    by_cases hE:E=0
    ·subst hE
     cases xN with
     | true =>
      have Hres:=Qhd (show rightB l=false from Q1g hil (by rw [HokE.out rfl];rfl))
      go_wp2_with (first
       |((with_reducible refine Qgl 12 ?_);refine Qlw 123 11 b (off+i*15) aggHol hl8 hr ?_)
       |((with_reducible refine Qgs 12 ?_);refine Qsa 123 5 12 wr.heap.size P8 aggHol n4 hl8 (by rfl) ho8 hb4 (Nat.le_refl _) ?_;intro w2 z2 b2 _;have R2:=Qhd (Hr4.out _ _ z2);have s2:=HStr.out _ _ z2)
       |((with_reducible refine Qgl 24 ?_);refine Qlw 28 23 wr.heap.size 8 aggAcc hlV R2.out ?_)
       |(go_at_call 38;refine (Oe.out _ b2).mono ?_;rintro e w3 ⟨rfl,b3⟩;have bb3:=Below.then b2 b3;have z3:=z2.kept b3;have R3:=Qhd (Hr4.out _ _ z3))
       |((with_reducible refine Qgl 30 ?_);refine Qlw 28 29 wr.heap.size 8 aggAcc hlV R3.out ?_)
       |(go_at_call 89;refine (On.out _ bb3).mono ?_;rintro e w4 ⟨rfl,b4⟩;have bb4:=Below.then bb3 b4;have z4:=z3.kept b4;have s4:=HStr.out _ _ z4))
      go_ret
      rw [Hres.out]
      exact ⟨rfl,Below.then hbel bb4⟩
     | false =>
      have Hgood:=Qhd (show okH l i=true from by rw [HokE.out rfl,Hord.out];rfl)
      go_wp2_with (first
       |((with_reducible refine Qgl 12 ?_);refine Qlw 123 11 b (off+i*15) aggHol hl8 hr ?_)
       |((with_reducible refine Qgs 12 ?_);refine Qsa 123 5 12 wr.heap.size P8 aggHol n4 hl8 (by rfl) ho8 hb4 (Nat.le_refl _) ?_;intro w2 z2 b2 _;have R2:=Qhd (Hr4.out _ _ z2);have s2:=HStr.out _ _ z2)
       |((with_reducible refine Qgl 24 ?_);refine Qlw 28 23 wr.heap.size 8 aggAcc hlV R2.out ?_)
       |(go_at_call 38;refine (Oe.out _ b2).mono ?_;rintro e w3 ⟨rfl,b3⟩;have bb3:=Below.then b2 b3;have z3:=z2.kept b3;have R3:=Qhd (Hr4.out _ _ z3))
       |((with_reducible refine Qgl 30 ?_);refine Qlw 28 29 wr.heap.size 8 aggAcc hlV R3.out ?_)
       |(go_at_call 89;refine (On.out _ bb3).mono ?_;rintro e w4 ⟨rfl,b4⟩;have bb4:=Below.then bb3 b4;have z4:=z3.kept b4;have s4:=HStr.out _ _ z4))
      go_roundw
      case rel=>exact (show Q99 w l n _ _ _ from ⟨i+1,F,by omega,rfl,by go_num,Below.then hbel bb4,fun j hj=>by
       by_cases hji:j=i
       ·rw [hji];exact Hgood.out
       ·exact hok.out j (by omega),fun h0 hl2=>by rw [HF.out];exact congrArg Hol.f (Hp.out.trans (getElem_congr_idx (by omega)))⟩)
      case measure=>simp [intOf];omega
    ·have hE2:((E:Int)==0)=false:=by simpa using hE
     have Hres:=Qhd (show rightB l=false from Q1g hil (HokB.out hE))
     go_wp2_with (first
      |((with_reducible refine Qgl 12 ?_);refine Qlw 123 11 b (off+i*15) aggHol hl8 hr ?_)
      |((with_reducible refine Qgs 12 ?_);refine Qsa 123 5 12 wr.heap.size P8 aggHol n4 hl8 (by rfl) ho8 hb4 (Nat.le_refl _) ?_;intro w2 z2 b2 _;have R2:=Qhd (Hr4.out _ _ z2);have s2:=HStr.out _ _ z2)
      |((with_reducible refine Qgl 24 ?_);refine Qlw 28 23 wr.heap.size 8 aggAcc hlV R2.out ?_)
      |(go_at_call 38;refine (Oe.out _ b2).mono ?_;rintro e w3 ⟨rfl,b3⟩;have bb3:=Below.then b2 b3;have z3:=z2.kept b3;have R3:=Qhd (Hr4.out _ _ z3))
      |((with_reducible refine Qgl 30 ?_);refine Qlw 28 29 wr.heap.size 8 aggAcc hlV R3.out ?_)
      |(go_at_call 89;refine (On.out _ bb3).mono ?_;rintro e w4 ⟨rfl,b4⟩;have bb4:=Below.then bb3 b4;have z4:=z3.kept b4;have s4:=HStr.out _ _ z4))
     go_ret
     rw [Hres.out]
     exact ⟨rfl,Below.then hbel bb3⟩
   ·have hi1:0<i:=by omega
    have hd1:decide (0<i)=true:=decide_eq_true hi1
    have hgd:l.getD (i - 1) p=l[i - 1]'(by omega):=by rw [List.getD_eq_getElem?_getD,List.getElem?_eq_getElem (by omega)];rfl
    have hGe:=hG hi1 (by omega)
    have hG8:G.length=8:=by rw [hGe];exact (l[i - 1]'(by omega)).l
    have hord2:ord=decide (numL G<numL F):=by
     rw [hord,hgd]
     have h2:(i==0)=false:=by simpa using hi0
     rw [h2,Bool.false_or]
     unfold Hol.adr
     rw [←hGe,←hF]
    have hle:=less8 F G (by rw [hF8,hG8])
    by_cases hlt2:numL G<numL F
    ·have hle2:Op.bytesLess F G=false:=by rw [hle];exact decide_eq_false (by omega)
     have hbe:(F==G)=false:=by
      rw [beq_eq_false_iff_ne]
      intro e;rw [e] at hlt2;omega
     have Hord:=Qhd (show ord=true from by rw [hord2];exact decide_eq_true hlt2)
     clear hr4 hstr oe on hokE hokB hokO hokp hord hord2 hE0 hxN hF hF8 hp hli hkp hip hV hP8 hG hgd hGe hG8 hle hlt2 hi0
     by_cases hE:E=0
     ·subst hE
      cases xN with
      | true =>
       have Hres:=Qhd (show rightB l=false from Q1g hil (by rw [HokE.out rfl];rfl))
       go_wp2_with (first
        |((with_reducible refine Qgl 12 ?_);refine Qlw 123 11 b (off+i*15) aggHol hl8 hr ?_)
        |((with_reducible refine Qgs 12 ?_);refine Qsa 123 5 12 wr.heap.size P8 aggHol n4 hl8 (by rfl) ho8 hb4 (Nat.le_refl _) ?_;intro w2 z2 b2 _;have R2:=Qhd (Hr4.out _ _ z2);have s2:=HStr.out _ _ z2)
        |((with_reducible refine Qgl 24 ?_);refine Qlw 28 23 wr.heap.size 8 aggAcc hlV R2.out ?_)
        |(go_at_call 38;refine (Oe.out _ b2).mono ?_;rintro e w3 ⟨rfl,b3⟩;have bb3:=Below.then b2 b3;have z3:=z2.kept b3;have R3:=Qhd (Hr4.out _ _ z3))
        |((with_reducible refine Qgl 30 ?_);refine Qlw 28 29 wr.heap.size 8 aggAcc hlV R3.out ?_)
        |(go_at_call 89;refine (On.out _ bb3).mono ?_;rintro e w4 ⟨rfl,b4⟩;have bb4:=Below.then bb3 b4;have z4:=z3.kept b4;have s4:=HStr.out _ _ z4))
       go_ret
       rw [Hres.out]
       exact ⟨rfl,Below.then hbel bb4⟩
      | false =>
       have Hgood:=Qhd (show okH l i=true from by rw [HokE.out rfl,Hord.out];rfl)
       go_wp2_with (first
        |((with_reducible refine Qgl 12 ?_);refine Qlw 123 11 b (off+i*15) aggHol hl8 hr ?_)
        |((with_reducible refine Qgs 12 ?_);refine Qsa 123 5 12 wr.heap.size P8 aggHol n4 hl8 (by rfl) ho8 hb4 (Nat.le_refl _) ?_;intro w2 z2 b2 _;have R2:=Qhd (Hr4.out _ _ z2);have s2:=HStr.out _ _ z2)
        |((with_reducible refine Qgl 24 ?_);refine Qlw 28 23 wr.heap.size 8 aggAcc hlV R2.out ?_)
        |(go_at_call 38;refine (Oe.out _ b2).mono ?_;rintro e w3 ⟨rfl,b3⟩;have bb3:=Below.then b2 b3;have z3:=z2.kept b3;have R3:=Qhd (Hr4.out _ _ z3))
        |((with_reducible refine Qgl 30 ?_);refine Qlw 28 29 wr.heap.size 8 aggAcc hlV R3.out ?_)
        |(go_at_call 89;refine (On.out _ bb3).mono ?_;rintro e w4 ⟨rfl,b4⟩;have bb4:=Below.then bb3 b4;have z4:=z3.kept b4;have s4:=HStr.out _ _ z4))
       go_roundw
       case rel=>exact (show Q99 w l n _ _ _ from ⟨i+1,F,by omega,rfl,by go_num,Below.then hbel bb4,fun j hj=>by
        by_cases hji:j=i
        ·rw [hji];exact Hgood.out
        ·exact hok.out j (by omega),fun h0 hl2=>by rw [HF.out];exact congrArg Hol.f (Hp.out.trans (getElem_congr_idx (by omega)))⟩)
       case measure=>simp [intOf];omega
     ·have hE2:((E:Int)==0)=false:=by simpa using hE
      have Hres:=Qhd (show rightB l=false from Q1g hil (HokB.out hE))
      go_wp2_with (first
       |((with_reducible refine Qgl 12 ?_);refine Qlw 123 11 b (off+i*15) aggHol hl8 hr ?_)
       |((with_reducible refine Qgs 12 ?_);refine Qsa 123 5 12 wr.heap.size P8 aggHol n4 hl8 (by rfl) ho8 hb4 (Nat.le_refl _) ?_;intro w2 z2 b2 _;have R2:=Qhd (Hr4.out _ _ z2);have s2:=HStr.out _ _ z2)
       |((with_reducible refine Qgl 24 ?_);refine Qlw 28 23 wr.heap.size 8 aggAcc hlV R2.out ?_)
       |(go_at_call 38;refine (Oe.out _ b2).mono ?_;rintro e w3 ⟨rfl,b3⟩;have bb3:=Below.then b2 b3;have z3:=z2.kept b3;have R3:=Qhd (Hr4.out _ _ z3))
       |((with_reducible refine Qgl 30 ?_);refine Qlw 28 29 wr.heap.size 8 aggAcc hlV R3.out ?_)
       |(go_at_call 89;refine (On.out _ bb3).mono ?_;rintro e w4 ⟨rfl,b4⟩;have bb4:=Below.then bb3 b4;have z4:=z3.kept b4;have s4:=HStr.out _ _ z4))
      go_ret
      rw [Hres.out]
      exact ⟨rfl,Below.then hbel bb3⟩
    ·have Hres:=Qhd (show rightB l=false from Q1g hil (hokO (by rw [hord2];exact decide_eq_false hlt2)))
     by_cases hlt3:numL F<numL G
     ·have hle2:Op.bytesLess F G=true:=by rw [hle];exact decide_eq_true hlt3
      clear hr4 hstr oe on hokE hokB hokO hokp hord hord2 hE0 hxN hF hF8 hp hli hkp hip hV hP8 hG hgd hGe hG8 hle hlt2 hi0 hlt3
      go_wp2_with (first
       |((with_reducible refine Qgl 12 ?_);refine Qlw 123 11 b (off+i*15) aggHol hl8 hr ?_)
       |((with_reducible refine Qgs 12 ?_);refine Qsa 123 5 12 wr.heap.size P8 aggHol n4 hl8 (by rfl) ho8 hb4 (Nat.le_refl _) ?_;intro w2 z2 b2 _;have R2:=Qhd (Hr4.out _ _ z2);have s2:=HStr.out _ _ z2)
       |((with_reducible refine Qgl 24 ?_);refine Qlw 28 23 wr.heap.size 8 aggAcc hlV R2.out ?_)
       |(go_at_call 38;refine (Oe.out _ b2).mono ?_;rintro e w3 ⟨rfl,b3⟩;have bb3:=Below.then b2 b3;have z3:=z2.kept b3;have R3:=Qhd (Hr4.out _ _ z3))
       |((with_reducible refine Qgl 30 ?_);refine Qlw 28 29 wr.heap.size 8 aggAcc hlV R3.out ?_)
       |(go_at_call 89;refine (On.out _ bb3).mono ?_;rintro e w4 ⟨rfl,b4⟩;have bb4:=Below.then bb3 b4;have z4:=z3.kept b4;have s4:=HStr.out _ _ z4))
      go_ret
      rw [Hres.out]
      exact ⟨rfl,Below.then hbel b2⟩
     ·have hfg:F=G:=Q8k F G (by rw [hF8,hG8]) (by omega)
      have hle2:Op.bytesLess F G=false:=by rw [hle];exact decide_eq_false hlt3
      have hbe:(F==G)=true:=by rw [hfg];exact beq_self_eq_true _
      clear hr4 hstr oe on hokE hokB hokO hokp hord hord2 hE0 hxN hF hF8 hp hli hkp hip hV hP8 hG hgd hGe hG8 hle hlt2 hi0 hlt3 hfg
      go_wp2_with (first
       |((with_reducible refine Qgl 12 ?_);refine Qlw 123 11 b (off+i*15) aggHol hl8 hr ?_)
       |((with_reducible refine Qgs 12 ?_);refine Qsa 123 5 12 wr.heap.size P8 aggHol n4 hl8 (by rfl) ho8 hb4 (Nat.le_refl _) ?_;intro w2 z2 b2 _;have R2:=Qhd (Hr4.out _ _ z2);have s2:=HStr.out _ _ z2)
       |((with_reducible refine Qgl 24 ?_);refine Qlw 28 23 wr.heap.size 8 aggAcc hlV R2.out ?_)
       |(go_at_call 38;refine (Oe.out _ b2).mono ?_;rintro e w3 ⟨rfl,b3⟩;have bb3:=Below.then b2 b3;have z3:=z2.kept b3;have R3:=Qhd (Hr4.out _ _ z3))
       |((with_reducible refine Qgl 30 ?_);refine Qlw 28 29 wr.heap.size 8 aggAcc hlV R3.out ?_)
       |(go_at_call 89;refine (On.out _ bb3).mono ?_;rintro e w4 ⟨rfl,b4⟩;have bb4:=Below.then bb3 b4;have z4:=z3.kept b4;have s4:=HStr.out _ _ z4))
      go_ret
      rw [Hres.out]
      exact ⟨rfl,Below.then hbel b2⟩
  ·obtain rfl:i=n:=by omega
   have hz:¬ (i:Int)<(i:Int):=by omega
   have Hres:=Qhd (show rightB l=true from Q96 (fun j hj=>hok.out j (by rw [←Hn.out];exact hj)))
   clear hG
   go_wp2_with fail
   go_ret
   rw [Hres.out]
   exact ⟨rfl,hbel⟩
end Go.Proofs.YtbdmkfjgnjfjbaaGreat
