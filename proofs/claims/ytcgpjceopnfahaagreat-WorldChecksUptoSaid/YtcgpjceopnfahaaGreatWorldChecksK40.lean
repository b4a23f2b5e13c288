/- The reference's showDown, ICheck. -/
import Derived.Test.YtcgpjceopnfahaaGreatWorldChecksK38
import Derived.Test.YtcgpjceopnfahaaGreatWorldChecksK39
set_option linter.unusedSimpArgs false
set_option linter.unusedVariables false
set_option maxHeartbeats 4000000
set_option maxRecDepth 100000
namespace Go.Proofs.YtcgpjceopnfahaaGreat
open Go.RowKit
theorem RowOf.from0 {α:Type}{f:α→List Value}{P:Program}{t e:TypeId}{z:Value}{size bytes:Nat}(el:El0 P t e z size bytes f){w:World}{a:Option Addr}{n c:Nat}{l:List α}(h:RowOf f size w (.slice a n c) l)(lo:Nat)(h1:lo≤n)(x:Int)(hx:x=lo) :
    ∃ a' c',(∀ k w',(Instr.slice t (.slice a n c) (some (.int k x)) none none).run P w'=.ok (.slice a' (n - lo) c') w')∧RowOf f size w (.slice a' (n - lo) c') (l.drop lo):=by
  subst hx
  obtain ⟨hn,hnc,hcm⟩:=h.fits
  obtain ⟨a',c',h2,h3⟩:=h.part el.hf el.hsz lo n h1 (Nat.le_refl _)
  obtain ⟨i,hi,_,hsi,_⟩:=el.info
  have hel:P.elem t=e:=by unfold Program.elem;rw [el.ht]
  refine ⟨a',c',fun k w'=>?_,by subst hn;simpa using h3⟩
  rw [run_slice_l (P:=P) w' (t:=t) (a:=a) (len:=n) (cap:=c) (by rw [hel];exact el.ht) k (lo:Int) (by omega) (by omega)]
  rw [hel]
  simp [Go.sizeOf,typeInfo,hi,hsi,←h2]
def TupS (R:List UInt8 × Int):Ty:=fun v w=>∃ (a:Option Addr) (n c:Nat),v=.tuple #[.slice a n c,.int .i64 R.2]∧Bytes w (.slice a n c) R.1
theorem TupS.mono (R:List UInt8 × Int):Mono (TupS R):=fun _ _ _ ⟨a,n,c,h,h2⟩ hb=>⟨a,n,c,h,h2.below hb⟩
def SlT (l:List UInt8):Ty:=fun v w=>∃ (a:Option Addr) (n c:Nat),v=.slice a n c∧Bytes w (.slice a n c) l
theorem SlT.mono (l:List UInt8):Mono (SlT l):=fun _ _ _ ⟨a,n,c,h,h2⟩ hb=>⟨a,n,c,h,h2.below hb⟩
theorem nxt_short {s:Shq}{q:List UInt8}:(nxtP s q).2.1.length≤q.length:=by
  unfold nxtP
  split
  · split<;>simp
  · split
    · split<;>simp
    · split
      · cases q<;>simp
      · simp
theorem shw_step (h left:List UInt8)(first:Bool)(c:List UInt8)(cs:List (List UInt8)) :
    (sumB c≠h→shw h left first (c::cs)=([],4))∧(sumB c=h→(rdB c=none→shw h left first (c::cs)=([],1))∧∀ s,rdB c=some s→(first=false∧s.1=0→shw h left first (c::cs)=([],1)) ∧
      (¬ (first=false∧s.1=0)→((nxtP s left).1=[]→cs≠[]→shw h left first (c::cs)=([],6))∧((nxtP s left).1=[]→cs=[]→shw h left first (c::cs)=((nxtP s left).2.2,0))∧((nxtP s left).1≠[]→shw h left first (c::cs)=shw (nxtP s left).1 (nxtP s left).2.1 false cs))):=by
  refine ⟨fun h1=>by unfold shw;rw [if_neg h1],fun h1=>⟨fun h2=>by unfold shw;rw [if_pos h1,h2],fun s h2=>⟨fun h3=>?_,fun h3=>⟨fun h4 h5=>?_,fun h4 h5=>?_,fun h4=>?_⟩⟩⟩⟩
  · unfold shw;rw [if_pos h1,h2];dsimp only;rw [if_pos h3]
  · unfold shw;rw [if_pos h1,h2];dsimp only;rw [if_neg h3,if_pos h4,if_neg h5]
  · unfold shw;rw [if_pos h1,h2];dsimp only;rw [if_neg h3,if_pos h4,if_pos h5]
  · conv=>lhs;unfold shw
    rw [if_pos h1,h2];dsimp only;rw [if_neg h3,if_neg h4]
theorem show_any:∀ (ps:List (Value × List UInt8))(H left:List UInt8)(first:Bool)(ca:Option Addr)(cn cc:Nat)(w:World),H.length=32→(∀ x∈left,x.toNat<16)→left.length≤1000000000→ps.length=cn →
    Texts w (.slice ca cn cc) ps→cn≤1048576→(∀ q∈ps,q.2.length≤1048576) →
    Calls Tryz.prog 100 #[.agg (H.map u8v).toArray,.string ⟨left.toArray⟩,.slice ca cn cc,.bool first] w (ShwPost (shw H left first (ps.map (·.2))) w)
  | [],H,left,first,ca,cn,cc,w,hH,_,_,hcn,_,_,_=>by
    subst hcn
    have hR:shw H left first (([]:List (Value × List UInt8)).map (·.2))=([],5):=by unfold shw;rfl
    rw [hR]
    have hbel:Below w.heap.size w (w.alloc (.cells (H.map u8v).toArray 30)):=(Below.refl _ _).alloc (Nat.le_refl _) _
    clear hR
    go_enter Tryz.func100,Tryz.ntmps100
    go_wp2_with fail
    go_ret2
    exact ⟨none,0,0,rfl,hbel,RowOf.nil b8 1 _⟩
  | y::ps,H,left,first,ca,cn,cc,w,hH,h16,hll,hcn,hc,hN,hNs=>by
    obtain ⟨C,hC⟩:∃ C,C=H.map u8v:=⟨_,rfl⟩
    have hCl:C.length=32:=by rw [hC,List.length_map,hH]
    have qn:=fun ct=>run_ne_h (sumB ct) H (sumB_len ct) hH
    have gn:=fun ct=>guard_ne_h (sumB ct) H
    simp only [←hC] at qn gn ⊢
    obtain ⟨w1,hw1⟩:∃ w1,w1=w.alloc (.cells C.toArray 30):=⟨_,rfl⟩
    have hz:Blk 30 w1 w.heap.size C:=by rw [hw1];exact Blk.new w _ _
    have hbel:Below w.heap.size w w1:=by rw [hw1];exact (Below.refl _ _).alloc (Nat.le_refl _) _
    have Hw1:=Lib.hid hw1
    obtain ⟨bc,oc,rfl,hcc0⟩:=RowOf.cells (f:=tcell) (size:=1) (fun _=>rfl) hc.1 0 (by simp)
    obtain ⟨am,cm,run72,row72⟩:=RowOf.from0 elText hc.1 1 (by rw [←hcn];simp) 1 rfl
    have htl:Texts w (.slice am (cn - 1) cm) ps:=⟨by simpa using row72,fun q hq=>hc.2 q (List.mem_cons_of_mem _ hq)⟩
    have hcv0:=hc.2 _ List.mem_cons_self
    have hct:=hNs _ List.mem_cons_self
    have ih:=fun (H' left':List UInt8) (u:World) (h1:H'.length=32) (h2:∀ x∈left',x.toNat<16) (h3:left'.length≤1000000000) (h4:Texts u (.slice am (cn - 1) cm) ps) =>
      show_any ps H' left' false am (cn - 1) cm u h1 h2 h3 (by rw [←hcn];simp) h4 (by omega) (fun q hq=>hNs q (List.mem_cons_of_mem _ hq))
    have hst:=shw_step H left first y.2 (ps.map (·.2))
    have hnil:ps.map (·.2)=[]↔cn=1:=by
      rw [←hcn];cases ps<;>simp
    obtain ⟨R,hR⟩:∃ R,R=shw H left first ((y::ps).map (·.2)):=⟨_,rfl⟩
    rw [←hR]
    rw [List.map_cons] at hR
    rw [←hR] at hst
    obtain ⟨cv,ct⟩:=y
    dsimp only at hcv0 hct hst hR
    have hcc:w.cell? ⟨bc,oc,none⟩=some cv:=by simpa using hcc0 0 cv rfl
    obtain ⟨ac,ctn,qc0,rfl⟩:∃ a n c,cv=.slice a n c:=by obtain ⟨a,c,h,_,_⟩:=hcv0.form;exact ⟨a,_,c,h⟩
    have hctn:=hcv0.fits.1
    have hcn1:1≤cn:=by rw [←hcn];simp
    have hcne:((cn:Int)==0)=false:=by rw [beq_eq_false_iff_ne];omega
    have hlt0:0<cn:=by omega
    have hcc1:w1.cell? ⟨bc,oc,none⟩=some (.slice ac ctn qc0):=by rw [hbel.cell (p:=⟨bc,oc,none⟩) (World.block_lt_of_cell? w _ hcc)];exact hcc
    have hcvr:Bytes w1 (.slice ac ctn qc0) ct:=hcv0.below hbel
    have htl1:=htl.below hbel
    have cs:=fun u (hu:Bytes u (.slice ac ctn qc0) ct)=>ssum_any ac ctn qc0 ct hctn.symm u hu (by omega)
    have cr:=fun u (hu:Bytes u (.slice ac ctn qc0) ct)=>hread_any ac ctn qc0 ct hctn.symm (by omega) u hu
    obtain ⟨SB,hSB⟩:∃ SB,SB=(sumB ct).map u8v:=⟨_,rfl⟩
    have hlS:SB.length=32:=by rw [hSB,List.length_map,sumB_len]
    have qn1:=qn ct
    have gn1:=gn ct
    obtain ⟨bq,hbq⟩:∃ bq,bq=(sumB ct==H):=⟨_,rfl⟩
    simp only [←hSB,←hbq] at qn1 gn1 cs
    have Cs:=Lib.hid cs
    have Cr:=Lib.hid cr
    have Qn:=Lib.hid qn1
    have Gn:=Lib.hid gn1
    have HCl:=Lib.hid hCl
    have Hz:=Lib.hid hz
    have Hbq:=Lib.hid hbq
    have Hst:=Lib.hid hst
    have Ih:=Lib.hid ih
    have Hnil:=Lib.hid hnil
    have H16:=Lib.hid h16
    have Hll:=Lib.hid hll
    have Hctn:=Lib.hid hctn
    have Hct:=Lib.hid hct
    have k1:=fun u:Ext w1=>u.cell hcc1
    clear hw1 hst ih hnil h16 hll hctn hct qn gn qn1 gn1 cs cr hbq hSB hlS hCl hC hcc hcc0 hcv0 hNs hH hR htl row72 hc hcn
    go_enter Tryz.func100,Tryz.ntmps100
    go_wp2_with fail
    rw [←Hw1.out]
    refine wp_region_typed w1 6 (by kernel_rfl) (by kernel_rfl) (Below.refl _ _) ?_;simp only [List.take_succ_cons,List.take_zero,List.take_nil]
    iterate 3 (refine wpX_step (by rfl) (fun K hK=>?_);go_simp;first|(refine hK _ ?_;clear hK K)|(apply Exists.intro;refine ⟨fun _=>?_,hK _ ?_⟩;fail;clear hK K))
    (refine wpX_step (by rfl) (fun K hK=>?_);go_simp;first|(refine hK _ ?_;clear hK K)|(apply Exists.intro;refine ⟨fun _=>?_,hK _ ?_⟩;exact Cs.out _ (Ext.row _ hcvr);clear hK K))
    (refine wpX_step (by rfl) (fun K hK=>?_);rw [if_pos (by rfl)];refine ⟨_,fun u=>const_loadm _ (.tmp 4) (by rfl) _ _ (by rfl) aggHash' HCl.out (rangeAt.ext (Blk.all0 Hz.out) u),hK _ ?_⟩;clear hK K;simp only [Act.put,List.setIfInBounds_toArray,List.set_cons_zero,List.set_cons_succ])
    (refine wpX_step (by rfl) (fun K hK=>?_);rw [if_pos (by rfl)];refine ⟨_,fun u=>const_neq _ _ _ _ (by rfl) (by rfl) (by rfl) (fun o1 o2 w1=>Gn.out o1 o2 w1) (fun w1=>Qn.out w1),hK _ ?_⟩;clear hK K;simp only [Act.put,List.setIfInBounds_toArray,List.set_cons_zero,List.set_cons_succ])
    refine wpX_nil ?_
    intro u2 hb2
    simp only [List.reverse_nil,forallRel]
    change wpList _ _ _ [] _ _
    have hb2w:=Below.then hbel hb2
    have hcv2:=hcvr.below hb2
    have htl2:=htl1.below hb2
    have hcc2:u2.cell? ⟨bc,oc,none⟩=some (.slice ac ctn qc0):=by rw [hb2.cell (p:=⟨bc,oc,none⟩) (World.block_lt_of_cell? w1 _ hcc1)];exact hcc1
    clear k1 hcc1
    cases bq with
    | false =>
      have hR2:=Hst.out.1 (beq_eq_false_iff_ne.1 Hbq.out.symm)
      subst hR2
      go_wp2_with fail
      go_ret2
      exact ⟨none,0,0,rfl,hb2w,RowOf.nil b8 1 _⟩
    | true =>
      obtain ⟨st1,st2⟩:=Hst.out.2 (beq_iff_eq.1 Hbq.out.symm)
      cases hrd:rdB ct with
      | none =>
        have hR2:=st1 hrd
        subst hR2
        rw [hrd] at Cr
        have cr2:∀ u:World,Bytes u (.slice ac ctn qc0) ct→Calls Tryz.prog 127 #[.slice ac ctn qc0] u fun e w'=>Below u.heap.size u w'∧e=.returned (.tuple #[.agg #[.int .i64 0,.slice none 0 0,.slice none 0 0,.slice none 0 0],.int .i64 1]):=Cr.out
        have Cr2:=Lib.hid cr2
        clear st1 st2 hrd cr2 Hst
        go_wp2_with (first
          |(go_at_call 127;(with_reducible refine (Cr2.out _ hcv2).mono ?_);rintro e w3 ⟨b3,rfl⟩;have hb3:=Below.then hb2w b3;have bA:Below w3.heap.size w3 (w3.alloc (.cells #[.int .i64 0,.slice none 0 0,.slice none 0 0,.slice none 0 0] 133)):=(Below.refl _ _).alloc (Nat.le_refl _) _)
          |((with_reducible show wpList _ _ _ (⟨none,.store _ _ (.tmp 29),_,_,_,_⟩::_) _ _);refine wpList_storeA (o:=⟨none,_,_,_,_,_⟩) (by rfl) 133 (.tmp 10) (.tmp 29) (by rfl) w3.heap.size [.int .i64 0,.slice none 0 0,.slice none 0 0,.slice none 0 0] (by rfl) (by rfl) aggShape (Blk.new w3 133 zsh) (by rfl) (by rfl) (by intro u hu;simp at hu;rcases hu with rfl|rfl<;>rfl) bA (Nat.le_refl _) ?_;intro w4 h12 b4 _;have hb4:=Below.then hb3 b4;have hc0:w4.cell? ⟨w3.heap.size,0,none⟩=some (.int .i64 0):=(h12.cell 0).trans rfl))
        go_ret2
        exact ⟨none,0,0,rfl,hb4,RowOf.nil b8 1 _⟩
      | some s =>
        obtain ⟨st7,st8⟩:=st2 s hrd
        rw [hrd] at Cr
        have ho:=(rd_le hrd (by rw [←Hctn.out];have:=Hct.out;have:=Hctn.out;omega)).1
        obtain ⟨kd,pp,vb,ts⟩:=s
        dsimp only at st7
        have cr2:∀ u:World,Bytes u (.slice ac ctn qc0) ct→Calls Tryz.prog 127 #[.slice ac ctn qc0] u fun e w'=>Below u.heap.size u w'∧∃ (pa:Option Addr) (pc:Nat) (va:Option Addr) (vc:Nat) (ka:Option Addr) (kc:Nat) (qs:List (Value × List UInt8)),e=.returned (.tuple #[.agg #[.int .i64 kd,.slice pa pp.length pc,.slice va vb.length vc,.slice ka ts.length kc],.int .i64 0]) ∧
          Bytes w' (.slice pa pp.length pc) pp∧Bytes w' (.slice va vb.length vc) vb∧Texts w' (.slice ka ts.length kc) qs∧qs.map (·.2)=ts:=Cr.out
        have Cr2:=Lib.hid cr2
        have hkinds:kd=0∨kd=1∨kd=2∨kd=3:=by
          rcases okQ_kinds ho with h|h|h|h
          · exact .inl h
          · exact .inr (.inl h)
          · exact .inr (.inr (.inl h.1))
          · exact .inr (.inr (.inr h.1))
        have cw:=fun (u:World) (pa:Option Addr) (pc:Nat) (hp:Bytes u (.slice pa pp.length pc) pp)=>way_any kd pa pp.length pc pp left rfl Hll.out u hp hkinds
        have hway:=way_next ho left H16.out
        have hn16:=nxt_rest (s:=(kd,pp,vb,ts)) H16.out
        have hsh:=nxt_short (s:=(kd,pp,vb,ts)) (q:=left)
        dsimp only at hway
        obtain ⟨NX,hNX⟩:∃ N,N=nxtP (kd,pp,vb,ts) left:=⟨_,rfl⟩
        obtain ⟨WX,hWX⟩:∃ N,N=wayP kd pp left:=⟨_,rfl⟩
        rw [←hNX] at hway st8 hn16 hsh
        rw [←hWX] at hway
        simp only [←hWX] at cw
        obtain ⟨W1,W2,W3⟩:=WX
        obtain ⟨S2,hS2⟩:∃ S:ByteArray,S=⟨W2.toArray⟩:=⟨_,rfl⟩
        dsimp only at hway cw
        simp only [←hS2] at cw
        by_cases hz0:first=false∧kd=0
        · have hR2:=st7 hz0
          subst hR2
          obtain ⟨rfl,rfl⟩:=hz0
          clear st1 st2 st7 st8 hrd cr2 cw hway hn16 hsh hNX hWX Hst ho
          go_wp2_with (first
            |(go_at_call 127;(with_reducible refine (Cr2.out _ hcv2).mono ?_);rintro e w3 ⟨b3,pa,pc,va,vc,ka,kc,qs,rfl,hp3,hv3,ht3,hqs⟩;have hb3:=Below.then hb2w b3;have bA:Below w3.heap.size w3 (w3.alloc (.cells #[.int .i64 0,.slice none 0 0,.slice none 0 0,.slice none 0 0] 133)):=(Below.refl _ _).alloc (Nat.le_refl _) _)
                                         |((with_reducible show wpList _ _ _ (⟨none,.store _ _ (.tmp 29),_,_,_,_⟩::_) _ _);refine wpList_storeA (o:=⟨none,_,_,_,_,_⟩) (by rfl) 133 (.tmp 10) (.tmp 29) (by rfl) w3.heap.size [.int .i64 _,.slice pa pp.length pc,.slice va vb.length vc,.slice ka ts.length kc] (by rfl) (by rfl) aggShape (Blk.new w3 133 zsh) (by rfl) (by rfl) (by intro u hu;simp at hu;rcases hu with rfl|rfl|rfl|rfl<;>rfl) bA (Nat.le_refl _) ?_;intro w4 h12 b4 _;have hb4:=Below.then hb3 b4;have hc0:=(h12.cell 0).trans (show _=some (Value.int .i64 _) from rfl);have hc1:=(h12.cell 1).trans (show _=some (Value.slice pa pp.length pc) from rfl)))
          go_ret2
          exact ⟨none,0,0,rfl,hb4,RowOf.nil b8 1 _⟩
        · obtain ⟨st9,st10,st11⟩:=st8 hz0
          have hfk:first=true∨(first=false∧(kd==0)=false):=by
            cases first with
            | true=>exact .inl rfl
            | false=>exact .inr ⟨rfl,by rw [beq_eq_false_iff_ne];exact fun e=>hz0 ⟨rfl,e⟩⟩
          clear st1 st2 st7 st8 hrd cr2 hNX hWX Hst hz0 hkinds ho
          rcases hway with ⟨hW1,hN1,hN3⟩|⟨k,hW1,hkl,hN1,hN2,hN3,hW3,hN32⟩
          · subst hW1
            have Cw:=Lib.hid cw
            clear cw
            by_cases hcn2:cn=1
            · subst hcn2
              have hR2:=st10 hN1 (Hnil.out.2 rfl)
              rw [hN3] at hR2
              cases W3 with
              | true =>
                simp only [reduceIte] at hR2
                subst hR2
                clear st9 st11 st10 hN1 hN3 hn16 hsh hS2
                rcases hfk with rfl|⟨rfl,hk1⟩
                all_goals
                  go_wp2_with (first
                    |(go_at_call 127;(with_reducible refine (Cr2.out _ hcv2).mono ?_);rintro e w3 ⟨b3,pa,pc,va,vc,ka,kc,qs,rfl,hp3,hv3,ht3,hqs⟩;have hb3:=Below.then hb2w b3;have bA:Below w3.heap.size w3 (w3.alloc (.cells #[.int .i64 0,.slice none 0 0,.slice none 0 0,.slice none 0 0] 133)):=(Below.refl _ _).alloc (Nat.le_refl _) _)
                                         |((with_reducible show wpList _ _ _ (⟨none,.store _ _ (.tmp 29),_,_,_,_⟩::_) _ _);refine wpList_storeA (o:=⟨none,_,_,_,_,_⟩) (by rfl) 133 (.tmp 10) (.tmp 29) (by rfl) w3.heap.size [.int .i64 _,.slice pa pp.length pc,.slice va vb.length vc,.slice ka ts.length kc] (by rfl) (by rfl) aggShape (Blk.new w3 133 zsh) (by rfl) (by rfl) (by intro u hu;simp at hu;rcases hu with rfl|rfl|rfl|rfl<;>rfl) bA (Nat.le_refl _) ?_;intro w4 h12 b4 _;have hb4:=Below.then hb3 b4;have hc0:=(h12.cell 0).trans (show _=some (Value.int .i64 _) from rfl);have hc1:=(h12.cell 1).trans (show _=some (Value.slice pa pp.length pc) from rfl))
                    |(go_at_call 120;(with_reducible refine (Cw.out _ pa pc (hp3.below b4)).mono ?_);rintro e w5 ⟨rfl,b5⟩;have hb5:=Below.then hb4 b5;have h125:=h12.kept b5;have hc2:=(h125.cell 2).trans (show _=some (Value.slice va vb.length vc) from rfl)))
                  go_ret2
                  exact ⟨va,_,vc,rfl,hb5,(hv3.below (b4.trans (b5.mono b4.size)))⟩
              | false =>
                simp only [Bool.false_eq_true,reduceIte] at hR2
                subst hR2
                clear st9 st11 st10 hN1 hN3 hn16 hsh hS2
                rcases hfk with rfl|⟨rfl,hk1⟩
                all_goals
                  go_wp2_with (first
                    |(go_at_call 127;(with_reducible refine (Cr2.out _ hcv2).mono ?_);rintro e w3 ⟨b3,pa,pc,va,vc,ka,kc,qs,rfl,hp3,hv3,ht3,hqs⟩;have hb3:=Below.then hb2w b3;have bA:Below w3.heap.size w3 (w3.alloc (.cells #[.int .i64 0,.slice none 0 0,.slice none 0 0,.slice none 0 0] 133)):=(Below.refl _ _).alloc (Nat.le_refl _) _)
                                         |((with_reducible show wpList _ _ _ (⟨none,.store _ _ (.tmp 29),_,_,_,_⟩::_) _ _);refine wpList_storeA (o:=⟨none,_,_,_,_,_⟩) (by rfl) 133 (.tmp 10) (.tmp 29) (by rfl) w3.heap.size [.int .i64 _,.slice pa pp.length pc,.slice va vb.length vc,.slice ka ts.length kc] (by rfl) (by rfl) aggShape (Blk.new w3 133 zsh) (by rfl) (by rfl) (by intro u hu;simp at hu;rcases hu with rfl|rfl|rfl|rfl<;>rfl) bA (Nat.le_refl _) ?_;intro w4 h12 b4 _;have hb4:=Below.then hb3 b4;have hc0:=(h12.cell 0).trans (show _=some (Value.int .i64 _) from rfl);have hc1:=(h12.cell 1).trans (show _=some (Value.slice pa pp.length pc) from rfl))
                    |(go_at_call 120;(with_reducible refine (Cw.out _ pa pc (hp3.below b4)).mono ?_);rintro e w5 ⟨rfl,b5⟩;have hb5:=Below.then hb4 b5;have h125:=h12.kept b5;have hc2:=(h125.cell 2).trans (show _=some (Value.slice va vb.length vc) from rfl)))
                  go_ret2
                  exact ⟨none,0,0,rfl,hb5,RowOf.nil b8 1 _⟩
            · have hR2:=st9 hN1 (fun e=>hcn2 (Hnil.out.1 e))
              subst hR2
              have hgt1:(1:Int)<(cn:Int):=by omega
              clear st9 st11 st10 hN1 hN3 hn16 hsh hS2 hcn2
              rcases hfk with rfl|⟨rfl,hk1⟩
              all_goals
                go_wp2_with (first
                  |(go_at_call 127;(with_reducible refine (Cr2.out _ hcv2).mono ?_);rintro e w3 ⟨b3,pa,pc,va,vc,ka,kc,qs,rfl,hp3,hv3,ht3,hqs⟩;have hb3:=Below.then hb2w b3;have bA:Below w3.heap.size w3 (w3.alloc (.cells #[.int .i64 0,.slice none 0 0,.slice none 0 0,.slice none 0 0] 133)):=(Below.refl _ _).alloc (Nat.le_refl _) _)
                                         |((with_reducible show wpList _ _ _ (⟨none,.store _ _ (.tmp 29),_,_,_,_⟩::_) _ _);refine wpList_storeA (o:=⟨none,_,_,_,_,_⟩) (by rfl) 133 (.tmp 10) (.tmp 29) (by rfl) w3.heap.size [.int .i64 _,.slice pa pp.length pc,.slice va vb.length vc,.slice ka ts.length kc] (by rfl) (by rfl) aggShape (Blk.new w3 133 zsh) (by rfl) (by rfl) (by intro u hu;simp at hu;rcases hu with rfl|rfl|rfl|rfl<;>rfl) bA (Nat.le_refl _) ?_;intro w4 h12 b4 _;have hb4:=Below.then hb3 b4;have hc0:=(h12.cell 0).trans (show _=some (Value.int .i64 _) from rfl);have hc1:=(h12.cell 1).trans (show _=some (Value.slice pa pp.length pc) from rfl))
                  |(go_at_call 120;(with_reducible refine (Cw.out _ pa pc (hp3.below b4)).mono ?_);rintro e w5 ⟨rfl,b5⟩;have hb5:=Below.then hb4 b5;have h125:=h12.kept b5;have hc2:=(h125.cell 2).trans (show _=some (Value.slice va vb.length vc) from rfl)))
                go_ret2
                exact ⟨none,0,0,rfl,hb5,RowOf.nil b8 1 _⟩
          · subst hW1
            subst hW3
            have Cw:=Lib.hid cw
            have Hkl:=Lib.hid hkl
            clear cw
            have hk0:(0:Int)≤(k:Int):=by omega
            rcases hN32 with h32|h00
            · have hne:NX.1≠[]:=fun e=>by rw [e] at h32;simp at h32
              have hR2:=st11 hne
              have hkk:(k:Int)<(ts.length:Int):=by omega
              have cI:=fun (u:World) (h4:Texts u (.slice am (cn - 1) cm) ps)=>Ih.out NX.1 NX.2.1 u h32 hn16 (Nat.le_trans hsh Hll.out) h4
              rw [←hR2,hN2,←hS2] at cI
              have CI:=Lib.hid cI
              clear st9 st10 st11 hn16 hsh hS2 cI hR2 hne
              rcases hfk with rfl|⟨rfl,hk1⟩
              all_goals
                go_wp2_with (first
                  |(go_at_call 127;(with_reducible refine (Cr2.out _ hcv2).mono ?_);rintro e w3 ⟨b3,pa,pc,va,vc,ka,kc,qs,rfl,hp3,hv3,ht3,hqs⟩;have hb3:=Below.then hb2w b3;have bA:Below w3.heap.size w3 (w3.alloc (.cells #[.int .i64 0,.slice none 0 0,.slice none 0 0,.slice none 0 0] 133)):=(Below.refl _ _).alloc (Nat.le_refl _) _)
                                         |((with_reducible show wpList _ _ _ (⟨none,.store _ _ (.tmp 29),_,_,_,_⟩::_) _ _);refine wpList_storeA (o:=⟨none,_,_,_,_,_⟩) (by rfl) 133 (.tmp 10) (.tmp 29) (by rfl) w3.heap.size [.int .i64 _,.slice pa pp.length pc,.slice va vb.length vc,.slice ka ts.length kc] (by rfl) (by rfl) aggShape (Blk.new w3 133 zsh) (by rfl) (by rfl) (by intro u hu;simp at hu;rcases hu with rfl|rfl|rfl|rfl<;>rfl) bA (Nat.le_refl _) ?_;intro w4 h12 b4 _;have hb4:=Below.then hb3 b4;have hc0:=(h12.cell 0).trans (show _=some (Value.int .i64 _) from rfl);have hc1:=(h12.cell 1).trans (show _=some (Value.slice pa pp.length pc) from rfl))
                  |(go_at_call 120;(with_reducible refine (Cw.out _ pa pc (hp3.below b4)).mono ?_);rintro e w5 ⟨rfl,b5⟩;have hb5:=Below.then hb4 b5;have h125:=h12.kept b5;have hc3:=(h125.cell 3).trans (show _=some (Value.slice ka ts.length kc) from rfl);obtain ⟨bk,ok,yk,rfl,hyk,hck,hbk⟩:=Texts.at ((ht3.below b4).below b5) k (by rw [←List.length_map (f:=(·.2)),hqs];exact Hkl.out);have hyt:yk.2=NX.1:=(by rw [hN1,←hqs,List.getElem?_map,hyk];rfl);obtain ⟨ykv,ykt⟩:=yk;dsimp only at hyt hck hbk;subst hyt;obtain ⟨ak,ck,rfl,_,_⟩:=hbk.form;rw [h32] at hck hbk))
                obtain ⟨bn,on,rfl,hrn⟩:=bytes_range hbk (by omega)
                have hs68:∀ x,(Instr.arrayAt 30 (.slice (some ⟨bn,on,none⟩) 32 ck)).run Tryz.prog x=.ok (.pointer (some ⟨bn,on,none⟩)) x:=fun x=>run_arrayAt (P:=Tryz.prog) (t:=30) (e:=5) (n:=32) (by kernel_rfl) (some ⟨bn,on,none⟩) 32 ck (Nat.le_refl _) x
                have j3:=fun u:Ext w5=>u.cell hc3
                have jk:=fun u:Ext w5=>u.cell hck
                have htl5:=(htl2.below (b3.trans (b4.mono b3.size))).below b5
                have hlC:(NX.1.map u8v).length=32:=by rw [List.length_map,h32]
                obtain ⟨CN,hCN⟩:∃ L,L=NX.1.map u8v:=⟨_,rfl⟩
                rw [←hCN] at hlC hrn
                have CI2:=CI.out
                simp only [←hCN] at CI2
                have CI3:=Lib.hid CI2
                have HlC:=Lib.hid hlC
                have Hrn:=Lib.hid hrn
                clear hc0 hc1 hc3 hck CI2 CI hlC hrn hbk hCN
                refine wp_region_typed w5 13 (by kernel_rfl) (by kernel_rfl) (Below.refl _ _) ?_;simp only [List.take_succ_cons,List.take_zero,List.take_nil]
                iterate 6 (refine wpX_step (by rfl) (fun K hK=>?_);go_simp;first|(refine hK _ ?_;clear hK K)|(apply Exists.intro;refine ⟨fun _=>?_,hK _ ?_⟩;fail;clear hK K))
                (refine wpX_step (by rfl) (fun K hK=>?_);rw [if_pos (by rfl)];refine ⟨_,fun u=>const_loadm _ (.tmp 68) (by rfl) _ _ (by rfl) aggHash' HlC.out (rangeAt.ext Hrn.out u),hK _ ?_⟩;clear hK K;simp only [Act.put,List.setIfInBounds_toArray,List.set_cons_zero,List.set_cons_succ])
                iterate 3 (refine wpX_step (by rfl) (fun K hK=>?_);go_simp;first|(refine hK _ ?_;clear hK K)|(apply Exists.intro;refine ⟨fun _=>?_,hK _ ?_⟩;fail;clear hK K))
                refine wpX_rel 73 (TupS R) rfl (of_decide_eq_true rfl) (TupS.mono _) (fun w6 hw6=>?_) ?_
                · simp only [relOf,List.filter_nil,forallRel]
                  refine ⟨rfl,?_⟩
                  go_simp
                  refine (CI3.out w6 (htl5.below hw6)).mono ?_
                  rintro e w7 ⟨a,n,c,rfl,b7,h7⟩
                  exact ⟨_,rfl,⟨a,n,c,rfl,h7⟩,b7⟩
                refine wpX_rel 74 (SlT R.1) rfl (of_decide_eq_true rfl) (SlT.mono _) (fun w6 hw6=>?_) ?_
                · change forallRel w6 [(73,_)] _ _
                  rintro v73 ⟨a,n,c,rfl,h7⟩
                  simp only [forallRel]
                  refine ⟨rfl,?_⟩
                  go_simp
                  exact ⟨Below.refl _ _,a,n,c,rfl,h7⟩
                refine wpX_eq (.int .i64 R.2) (fun w6 hw6=>?_) ?_
                · change forallRel w6 [(73,_)] _ _
                  rintro v73 ⟨a,n,c,rfl,h7⟩
                  simp only [forallRel]
                  refine ⟨rfl,?_⟩
                  go_simp
                  exact Below.refl _ _
                refine wpX_nil ?_
                intro u6 hb6 v73 _ v74 h74
                change wpList _ _ _ [_,_] _ _
                obtain ⟨a,n,c,rfl,h7⟩:=h74
                go_wp2_with fail
                go_ret2
                exact ⟨a,n,c,rfl,Below.then hb5 hb6,h7⟩
            · have hN0:NX.1=[]:=List.eq_nil_of_length_eq_zero h00
              have hkk:(k:Int)<(ts.length:Int):=by omega
              by_cases hcn2:cn=1
              · subst hcn2
                have hR2:=st10 hN0 (Hnil.out.2 rfl)
                rw [hN3] at hR2
                subst hR2
                clear st9 st10 st11 hn16 hsh hS2 hN3
                rcases hfk with rfl|⟨rfl,hk1⟩
                all_goals
                  go_wp2_with (first
                    |(go_at_call 127;(with_reducible refine (Cr2.out _ hcv2).mono ?_);rintro e w3 ⟨b3,pa,pc,va,vc,ka,kc,qs,rfl,hp3,hv3,ht3,hqs⟩;have hb3:=Below.then hb2w b3;have bA:Below w3.heap.size w3 (w3.alloc (.cells #[.int .i64 0,.slice none 0 0,.slice none 0 0,.slice none 0 0] 133)):=(Below.refl _ _).alloc (Nat.le_refl _) _)
                                         |((with_reducible show wpList _ _ _ (⟨none,.store _ _ (.tmp 29),_,_,_,_⟩::_) _ _);refine wpList_storeA (o:=⟨none,_,_,_,_,_⟩) (by rfl) 133 (.tmp 10) (.tmp 29) (by rfl) w3.heap.size [.int .i64 _,.slice pa pp.length pc,.slice va vb.length vc,.slice ka ts.length kc] (by rfl) (by rfl) aggShape (Blk.new w3 133 zsh) (by rfl) (by rfl) (by intro u hu;simp at hu;rcases hu with rfl|rfl|rfl|rfl<;>rfl) bA (Nat.le_refl _) ?_;intro w4 h12 b4 _;have hb4:=Below.then hb3 b4;have hc0:=(h12.cell 0).trans (show _=some (Value.int .i64 _) from rfl);have hc1:=(h12.cell 1).trans (show _=some (Value.slice pa pp.length pc) from rfl))
                    |(go_at_call 120;(with_reducible refine (Cw.out _ pa pc (hp3.below b4)).mono ?_);rintro e w5 ⟨rfl,b5⟩;have hb5:=Below.then hb4 b5;have h125:=h12.kept b5;have hc3:=(h125.cell 3).trans (show _=some (Value.slice ka ts.length kc) from rfl);obtain ⟨bk,ok,yk,rfl,hyk,hck,hbk⟩:=Texts.at ((ht3.below b4).below b5) k (by rw [←List.length_map (f:=(·.2)),hqs];exact Hkl.out);have hyt:yk.2=NX.1:=(by rw [hN1,←hqs,List.getElem?_map,hyk];rfl);obtain ⟨ykv,ykt⟩:=yk;dsimp only at hyt hck hbk;subst hyt;obtain ⟨ak,ck,rfl,_,_⟩:=hbk.form;rw [h00] at hck hbk))
                  go_ret2
                  exact ⟨none,0,0,rfl,hb5,RowOf.nil b8 1 _⟩
              · have hR2:=st9 hN0 (fun e=>hcn2 (Hnil.out.1 e))
                subst hR2
                have hgt1:(1:Int)<(cn:Int):=by omega
                clear st9 st10 st11 hn16 hsh hS2 hN3 hcn2
                rcases hfk with rfl|⟨rfl,hk1⟩
                all_goals
                  go_wp2_with (first
                    |(go_at_call 127;(with_reducible refine (Cr2.out _ hcv2).mono ?_);rintro e w3 ⟨b3,pa,pc,va,vc,ka,kc,qs,rfl,hp3,hv3,ht3,hqs⟩;have hb3:=Below.then hb2w b3;have bA:Below w3.heap.size w3 (w3.alloc (.cells #[.int .i64 0,.slice none 0 0,.slice none 0 0,.slice none 0 0] 133)):=(Below.refl _ _).alloc (Nat.le_refl _) _)
                                         |((with_reducible show wpList _ _ _ (⟨none,.store _ _ (.tmp 29),_,_,_,_⟩::_) _ _);refine wpList_storeA (o:=⟨none,_,_,_,_,_⟩) (by rfl) 133 (.tmp 10) (.tmp 29) (by rfl) w3.heap.size [.int .i64 _,.slice pa pp.length pc,.slice va vb.length vc,.slice ka ts.length kc] (by rfl) (by rfl) aggShape (Blk.new w3 133 zsh) (by rfl) (by rfl) (by intro u hu;simp at hu;rcases hu with rfl|rfl|rfl|rfl<;>rfl) bA (Nat.le_refl _) ?_;intro w4 h12 b4 _;have hb4:=Below.then hb3 b4;have hc0:=(h12.cell 0).trans (show _=some (Value.int .i64 _) from rfl);have hc1:=(h12.cell 1).trans (show _=some (Value.slice pa pp.length pc) from rfl))
                    |(go_at_call 120;(with_reducible refine (Cw.out _ pa pc (hp3.below b4)).mono ?_);rintro e w5 ⟨rfl,b5⟩;have hb5:=Below.then hb4 b5;have h125:=h12.kept b5;have hc3:=(h125.cell 3).trans (show _=some (Value.slice ka ts.length kc) from rfl);obtain ⟨bk,ok,yk,rfl,hyk,hck,hbk⟩:=Texts.at ((ht3.below b4).below b5) k (by rw [←List.length_map (f:=(·.2)),hqs];exact Hkl.out);have hyt:yk.2=NX.1:=(by rw [hN1,←hqs,List.getElem?_map,hyk];rfl);obtain ⟨ykv,ykt⟩:=yk;dsimp only at hyt hck hbk;subst hyt;obtain ⟨ak,ck,rfl,_,_⟩:=hbk.form;rw [h00] at hck hbk))
                  go_ret2
                  exact ⟨none,0,0,rfl,hb5,RowOf.nil b8 1 _⟩
end Go.Proofs.YtcgpjceopnfahaaGreat
