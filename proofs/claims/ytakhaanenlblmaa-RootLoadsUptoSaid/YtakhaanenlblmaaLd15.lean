/- come: what is read isn't right; nothing, a leaf. -/
import Derived.Test.YtakhaanenlblmaaLdE
set_option linter.unusedSimpArgs false
set_option linter.unusedVariables false
namespace Go.Proofs.Ytakhaanenlblmaa
open Go.RowKit
set_option maxHeartbeats 8000000 in
set_option maxRecDepth 100000 in
theorem come_form (ps:List (Value × List UInt8)) (W0:World) (sa:Option Addr) (sc:Nat) (aa:Option Addr) (ac n B0 g m d:Nat) (hn:ps.length=n) (hns:n≤1048576) (h:List UInt8) (hl:h.length=32) (hbb:∀ q∈ps,q.2.length≤1048576) (hd:d≤64) (hm:m<4096) (q:Value × List UInt8) (hq:firstQ ps h=some q) (hr:rdB q.2=none) (w:World) (hw:ViW ps W0 sa sc aa ac n B0 g m w):Calls Try.prog 83 #[.pointer (some ⟨g,0,none⟩),.agg (h.map u8v).toArray,.int .i64 (d:Int)] w fun e w'=>e=.returned (.tuple #[.agg (ndcells zN).toArray,.int .i64 1])∧ViW ps W0 sa sc aa ac n B0 g (m+1) w'∧w.grownBy w' (some g):=by
 obtain ⟨K0,hK0,hqk,hqs,hmiss0⟩:=first_at hq
 have hmiss:∀ k (_:k<K0) (hk:k<ps.length),sumB (ps[k]).2≠h:=fun k h1 _=>hmiss0 k h1
 have hhit:∀ (hk:K0<ps.length),sumB (ps[K0]).2=h:=fun hk=>by rw [hqk];exact hqs
 clear hmiss0
 have HTq:=And.intro (hw.hT.2 q (first_mem hq).1) (hbb q (first_mem hq).1)
 obtain ⟨qv,qc0⟩:=q
 obtain ⟨qa,qc,hqv,_⟩:=RowOf.form HTq.1
 dsimp only at hqv HTq
 subst hqv
 obtain ⟨qn,hqn⟩:∃ n,n=qc0.length:=⟨_,rfl⟩
 rw [← hqn] at HTq
 have hqk2:∀ (hk:K0<ps.length),(ps[K0]).1=.slice qa qn qc:=fun hk=>by rw [hqk,hqn]
 have Hqk:=Lib.hid hqk2
 obtain ⟨K,hK⟩:∃ K,K=h.map u8v:=⟨_,rfl⟩
 have hKl:K.length=32:=by rw [hK,List.length_map];exact hl
 obtain ⟨w1,hw1⟩:∃ w1,w1=(w.alloc (.cells K.toArray 69)).alloc (.cells #[.int .i64 0,.slice none 0 0,.slice none 0 0,.slice none 0 0] 25):=⟨_,rfl⟩
 have hbel:Below w.heap.size w w1:=by rw [hw1];exact ((Below.refl _ _).alloc (Nat.le_refl _) _).alloc (by simp) _
 have hh:Blk 69 w1 w.heap.size K:=by rw [hw1];exact (Blk.new w _ _).alloc _
 have hz6:Blk 25 w1 (w.heap.size+1) (ndcells zN):=by
  have:=Blk.new (w.alloc (.cells K.toArray 69)) 25 (ndcells zN)
  simp only [World.size_alloc] at this
  rw [hw1];exact this
 have hsz1:w1.heap.size=w.heap.size+2:=by rw [hw1];simp
 have hgl:=hw.hz.lt
 have hgW:=hw.hg
 have hW0:=hw.hw.size
 have rh:=hh.all0
 have Gn:=fun (L:List UInt8) (o1 o2:Operand) (x:World)=>guard_ne_h L h o1 o2 x
 have Qn:=fun (L:List UInt8) (hL:L.length=32) (x:World)=>run_ne_h L h hL hl x
 simp only [← hK] at Gn Qn ⊢
 have Hw1:=Lib.hid hw1
 have HKl:=Lib.hid hKl
 have FV:=Lib.hid (fun (u:World) (hu:Below w.heap.size w u)=>hw.kept hu)
 have Hn:=Lib.hid hn
 have HGn:=Lib.hid Gn
 have HQn:=Lib.hid Qn
 have Hmiss:=Lib.hid hmiss
 have C:∀ (u:World) (hu:Below W0.heap.size W0 u),Calls Try.prog 142 #[.slice qa qn qc] u (fun e w'=>Below u.heap.size u w'∧e=.returned (.tuple #[.agg #[.int .i64 0,.slice none 0 0,.slice none 0 0,.slice none 0 0],.int .i64 1])):=fun u hu=>by
  refine Calls.mono (hread_any qa qn qc qc0 hqn.symm HTq.2 u (HTq.1.below hu)) (fun e w' h=>?_)
  dsimp only at hr
  rw [hr] at h
  exact h
 have C1:=Lib.hid C
 have Hhit:=Lib.hid hhit
 have hzd:¬ (64:Int)<(d:Int):=by omega
 have hmm:¬ (4096:Int)≤(m:Int):=by omega
 obtain ⟨M1,hM1⟩:∃ n,n=m+1:=⟨_,rfl⟩
 have hwr:IntKind.i64.wrap ((m:Int)+1)=(M1:Int):=by rw [IntWalk.i64_in _ (by omega)];omega
 have hM2:M1≤4096:=by omega
 have HM1:=Lib.hid hM1
 clear hM1
 clear hmiss hhit hKl Gn Qn hw1 hK hn hl hw hq hqk hqk2 hqs hqn HTq C hbb hr hd
 go_enter Try.func83,Try.ntmps83
 go_wp2_with fail
 rw [show (w.alloc (.cells K.toArray 69)).alloc (.cells #[.int .i64 0,.slice none 0 0,.slice none 0 0,.slice none 0 0] 25)=w1 from Hw1.out.symm]
 go_loopw [8] (fun ix wr=>∃ k:Nat,k≤K0∧ix=.int .i64 (k:Int)∧Below w1.heap.size w1 wr) (fun ix _=>K0 - (intOf ix).toNat)
 case atStart=>exact ⟨0,by omega,rfl,Below.refl _ _⟩
 case round =>
  obtain ⟨k,hk,rfl,bwr⟩:=hrel
  have Fr:=FV.out wr (Below.then hbel bwr)
  have c0:=Fr.hz.cell 0
  simp only [viC,List.getElem?_cons_zero] at c0
  have g0:=fun u:Ext wr=>u.cell c0
  have rhw:wr.rangeAt w.heap.size 0 K:=World.rangeAt.below rh (bwr)
  by_cases hlt:k<K0
  ·have hkn:k<ps.length:=by have:=Hn.out;omega
   have hzN:k<n:=by have:=Hn.out;omega
   have hz:(k:Int)<(n:Int):=by omega
   have hwk:IntKind.i64.wrap ((k:Int)+1)=((k+1:Nat):Int):=by rw [IntWalk.i64_in _ (by omega)];omega
   obtain ⟨sb,so,hsa,rr⟩:=RowOf.range hq32_len Fr.ho.row k (by rw [List.length_map];exact hkn)
   subst hsa
   obtain ⟨L,hL⟩:∃ L,L=sumB ps[k].2:=⟨_,rfl⟩
   have hLl:L.length=32:=by rw [hL];exact outB_len _
   rw [List.getElem_map,← hL,hq32_eq hLl] at rr
   have hne:=Hmiss.out k hlt hkn
   rw [← hL] at hne
   have Gk:=HGn.out L
   have Qk:=HQn.out L hLl
   rw [show (L == h)=false from beq_eq_false_iff_ne.2 hne] at Qk
   obtain ⟨LC,hLC⟩:∃ LC,LC=L.map u8v:=⟨_,rfl⟩
   have hLCl:LC.length=32:=by rw [hLC,List.length_map];exact hLl
   simp only [← hLC] at rr Gk Qk
   have HLCl:=Lib.hid hLCl
   clear hne hLl hL hLC hLCl
   go_wp2_with fail
   refine wp_region_typed wr 18 (by kernel_rfl) (by kernel_rfl) (Below.refl _ _) ?_;simp only [List.take_succ_cons,List.take_zero,List.take_nil]
   iterate 14 (refine wpX_step (by rfl) (fun K hK=>?_);go_simp;first|(refine hK _ ?_;clear hK K)|(apply Exists.intro;refine ⟨fun _=>?_,hK _ ?_⟩;fail;clear hK K))
   (refine wpX_step (by rfl) (fun K hK=>?_);rw [if_pos (by rfl)];refine ⟨_,fun u=>const_loadm _ (.tmp 34) (by rfl) _ _ (by rfl) aggHash' HLCl.out (rangeAt.ext rr u),hK _ ?_⟩;clear hK K;simp only [Act.put,List.setIfInBounds_toArray,List.set_cons_zero,List.set_cons_succ])
   (refine wpX_step (by rfl) (fun K hK=>?_);rw [if_pos (by rfl)];refine ⟨_,fun u=>const_loadm _ (.tmp 4) (by rfl) _ _ (by rfl) aggHash' HKl.out (rangeAt.ext rhw u),hK _ ?_⟩;clear hK K;simp only [Act.put,List.setIfInBounds_toArray,List.set_cons_zero,List.set_cons_succ])
   (refine wpX_step (by rfl) (fun K hK=>?_);rw [if_pos (by rfl)];refine ⟨_,fun u=>const_neq _ _ _ _ (by rfl) (by rfl) (by rfl) (fun o1 o2 w1=>Gk o1 o2 w1) (fun w1=>Qk w1),hK _ ?_⟩;clear hK K;simp only [Act.put,List.setIfInBounds_toArray,List.set_cons_zero,List.set_cons_succ])
   (refine wpX_step (by rfl) (fun K hK=>?_);go_simp;first|(refine hK _ ?_;clear hK K)|(apply Exists.intro;refine ⟨fun _=>?_,hK _ ?_⟩;fail;clear hK K))
   refine wpX_nil ?_
   intro y hy
   change forallRel y [] _ _
   simp only [forallRel,List.drop_succ_cons,List.drop_zero,List.drop_nil]
   go_wp2_with fail
   go_roundw
   case rel=>exact ⟨k+1,by omega,by go_num,Below.then bwr hy⟩
   case measure=>simp [intOf];omega
  ·obtain rfl:k=K0:=by omega
   have hkn:k<ps.length:=by have:=Hn.out;omega
   have hzN:k<n:=by have:=Hn.out;omega
   have hz:(k:Int)<(n:Int):=by omega
   have hzn:((k:Int) == (n:Int))=false:=beq_eq_false_iff_ne.2 (by omega)
   obtain ⟨sb,so,hsa,rr⟩:=RowOf.range hq32_len Fr.ho.row k (by rw [List.length_map];exact hkn)
   subst hsa
   obtain ⟨L,hL⟩:∃ L,L=sumB ps[k].2:=⟨_,rfl⟩
   have hLl:L.length=32:=by rw [hL];exact outB_len _
   rw [List.getElem_map,← hL,hq32_eq hLl] at rr
   have hne:=Hhit.out hkn
   rw [← hL] at hne
   have Gk:=HGn.out L
   have Qk:=HQn.out L hLl
   rw [show (L == h)=true from beq_iff_eq.2 hne] at Qk
   obtain ⟨LC,hLC⟩:∃ LC,LC=L.map u8v:=⟨_,rfl⟩
   have hLCl:LC.length=32:=by rw [hLC,List.length_map];exact hLl
   simp only [← hLC] at rr Gk Qk
   have HLCl:=Lib.hid hLCl
   clear hne hLl hL hLC hLCl
   go_wp2_with fail
   refine wp_region_typed wr 18 (by kernel_rfl) (by kernel_rfl) (Below.refl _ _) ?_;simp only [List.take_succ_cons,List.take_zero,List.take_nil]
   iterate 14 (refine wpX_step (by rfl) (fun K hK=>?_);go_simp;first|(refine hK _ ?_;clear hK K)|(apply Exists.intro;refine ⟨fun _=>?_,hK _ ?_⟩;fail;clear hK K))
   (refine wpX_step (by rfl) (fun K hK=>?_);rw [if_pos (by rfl)];refine ⟨_,fun u=>const_loadm _ (.tmp 34) (by rfl) _ _ (by rfl) aggHash' HLCl.out (rangeAt.ext rr u),hK _ ?_⟩;clear hK K;simp only [Act.put,List.setIfInBounds_toArray,List.set_cons_zero,List.set_cons_succ])
   (refine wpX_step (by rfl) (fun K hK=>?_);rw [if_pos (by rfl)];refine ⟨_,fun u=>const_loadm _ (.tmp 4) (by rfl) _ _ (by rfl) aggHash' HKl.out (rangeAt.ext rhw u),hK _ ?_⟩;clear hK K;simp only [Act.put,List.setIfInBounds_toArray,List.set_cons_zero,List.set_cons_succ])
   (refine wpX_step (by rfl) (fun K hK=>?_);rw [if_pos (by rfl)];refine ⟨_,fun u=>const_neq _ _ _ _ (by rfl) (by rfl) (by rfl) (fun o1 o2 w1=>Gk o1 o2 w1) (fun w1=>Qk w1),hK _ ?_⟩;clear hK K;simp only [Act.put,List.setIfInBounds_toArray,List.set_cons_zero,List.set_cons_succ])
   (refine wpX_step (by rfl) (fun K hK=>?_);go_simp;first|(refine hK _ ?_;clear hK K)|(apply Exists.intro;refine ⟨fun _=>?_,hK _ ?_⟩;fail;clear hK K))
   refine wpX_nil ?_
   intro y hy
   change forallRel y [] _ _
   simp only [forallRel,List.drop_succ_cons,List.drop_zero,List.drop_nil]
   have by0:=Below.then bwr hy
   have by1:=Below.then hbel by0
   have Fy:=FV.out y by1
   have c0y:=Fy.hz.cell 0
   have c2y:=Fy.hz.cell 2
   simp only [viC,List.getElem?_cons_zero,List.getElem?_cons_succ] at c0y c2y
   have hz6y:=hz6.kept by0
   have hgf:=Fy.hz.free 2
   obtain ⟨y1,hy1⟩:∃ y1,y1=y.setCell ⟨g,2,none⟩ (.int .i64 (M1:Int)):=⟨_,rfl⟩
   have z1:Blk 171 y1 g (viC (.slice (some ⟨sb,so,none⟩) n sc) (.slice aa n ac) M1):=by rw [hy1];exact Fy.hz.set 2 _
   have gy:y.grownBy y1 (some g):=by rw [hy1];exact grown_cell 2 _
   have F1:=Fy.turn z1 gy
   have G1:w.grownBy y1 (some g):=gb_then (gb_of by1 _) gy (fun k hk=>.inl (by cases hk;rfl))
   have hzy1:Blk 25 y1 (w.heap.size+1) (ndcells zN):=hz6y.grown gy (by simp;omega)
   have sy1:y1.heap.size=y.heap.size:=by rw [hy1];simp
   have szy:w.heap.size+2≤y1.heap.size:=by have:=by0.size;omega
   have C2:=C1.out y1 F1.hw
   have c1y:=Fy.hz.cell 1
   have c1y1:=F1.hz.cell 1
   simp only [viC,List.getElem?_cons_zero,List.getElem?_cons_succ] at c1y c1y1
   obtain ⟨ab,ao,haa,hc⟩:=(Fy.hT.1.below Fy.hw).cells (f:=tcell) (size:=1) (fun _=>rfl) k hkn
   have hce:y.cell? ⟨ab,ao+k,none⟩=some (.slice qa qn qc):=by have:=hc 0 _ rfl;rw [← Hqk.out hkn];simpa using this
   obtain ⟨ab',ao',haa',hc'⟩:=(F1.hT.1.below F1.hw).cells (f:=tcell) (size:=1) (fun _=>rfl) k hkn
   have hce1:y1.cell? ⟨ab',ao'+k,none⟩=some (.slice qa qn qc):=by have:=hc' 0 _ rfl;rw [← Hqk.out hkn];simpa using this
   subst haa
   simp only [Option.some.injEq,Addr.mk.injEq,and_true] at haa'
   obtain ⟨rfl,rfl⟩:=haa'
   rw [hy1] at c1y1 hce1
   clear hc hc'
   go_wp2_with (first
    | (go_at_call 142;rw [← hy1];(with_reducible refine C2.mono ?_);rintro e w4 ⟨b4,rfl⟩;have F4:=(F1.kept b4).kept ((Below.refl w4.heap.size w4).alloc (Nat.le_refl _) (.cells #[.int .i64 0,.slice none 0 0,.slice none 0 0,.slice none 0 0] 250));have G4:=gb_below (gb_below G1 b4 (by omega)) ((Below.refl w4.heap.size w4).alloc (Nat.le_refl _) (.cells #[.int .i64 0,.slice none 0 0,.slice none 0 0,.slice none 0 0] 250)) (by have:=b4.size;omega);have hz4:=(hzy1.kept b4).alloc (.cells #[.int .i64 0,.slice none 0 0,.slice none 0 0,.slice none 0 0] 250);have s4:=b4.size)
    | ((with_reducible show wpList _ _ _ (⟨none,Op.store _ _ (Operand.tmp 75),_,_,_,_⟩::_) _ _);refine wpList_storeA (o:=⟨none,_,_,_,_,_⟩) (by rfl) 25 (.tmp 6) (.tmp 75) (by rfl) (w.heap.size+1) (ndcells zN) (by rfl) (by rfl) aggNode hz4 (by rfl) (by rfl) (by intro u hu;simp [ndcells,zN] at hu;rcases hu with rfl|rfl <;> rfl) (Below.refl 0 _) (Nat.zero_le _) ?_;intro w7 h7 b7 g7))
   exact bodyPost_ret (v:=.tuple #[.agg (ndcells zN).toArray,.int .i64 1]) (results_blk_tmp rfl _ _ (w.heap.size+1) aggNode h7 (by rfl) rfl rfl) rfl ⟨rfl,by rw [← HM1.out];exact F4.put hz4 (by decide) g7 (by omega) (by omega),gb_then G4 g7 (fun k hk=>.inr (by cases hk;omega))⟩
set_option maxHeartbeats 8000000 in
set_option maxRecDepth 100000 in
theorem come_leaf (ps:List (Value × List UInt8)) (W0:World) (sa:Option Addr) (sc:Nat) (aa:Option Addr) (ac n B0 g m d:Nat) (hn:ps.length=n) (hns:n≤1048576) (h:List UInt8) (hl:h.length=32) (hbb:∀ q∈ps,q.2.length≤1048576) (hd:d≤64) (hm:m<4096) (q:Value × List UInt8) (hq:firstQ ps h=some q) (kd:Int) (pp vb:List UInt8) (KK:List (List UInt8)) (hr:rdB q.2=some (kd,pp,vb,KK)) (hlen:pp.length≤4194304∧vb.length≤1048576∧KK.length≤1048576) (hk:kd=1) (w:World) (hw:ViW ps W0 sa sc aa ac n B0 g m w):Calls Try.prog 83 #[.pointer (some ⟨g,0,none⟩),.agg (h.map u8v).toArray,.int .i64 (d:Int)] w (CmPost (0,.mk kd pp vb [],m+1) ps W0 sa sc aa ac n B0 g w):=by
 obtain ⟨K0,hK0,hqk,hqs,hmiss0⟩:=first_at hq
 have hmiss:∀ k (_:k<K0) (hk:k<ps.length),sumB (ps[k]).2≠h:=fun k h1 _=>hmiss0 k h1
 have hhit:∀ (hk:K0<ps.length),sumB (ps[K0]).2=h:=fun hk=>by rw [hqk];exact hqs
 clear hmiss0
 have HTq:=And.intro (hw.hT.2 q (first_mem hq).1) (hbb q (first_mem hq).1)
 obtain ⟨qv,qc0⟩:=q
 obtain ⟨qa,qc,hqv,_⟩:=RowOf.form HTq.1
 dsimp only at hqv HTq
 subst hqv
 obtain ⟨qn,hqn⟩:∃ n,n=qc0.length:=⟨_,rfl⟩
 rw [← hqn] at HTq
 have hqk2:∀ (hk:K0<ps.length),(ps[K0]).1=.slice qa qn qc:=fun hk=>by rw [hqk,hqn]
 have Hqk:=Lib.hid hqk2
 obtain ⟨K,hK⟩:∃ K,K=h.map u8v:=⟨_,rfl⟩
 have hKl:K.length=32:=by rw [hK,List.length_map];exact hl
 obtain ⟨w1,hw1⟩:∃ w1,w1=(w.alloc (.cells K.toArray 69)).alloc (.cells #[.int .i64 0,.slice none 0 0,.slice none 0 0,.slice none 0 0] 25):=⟨_,rfl⟩
 have hbel:Below w.heap.size w w1:=by rw [hw1];exact ((Below.refl _ _).alloc (Nat.le_refl _) _).alloc (by simp) _
 have hh:Blk 69 w1 w.heap.size K:=by rw [hw1];exact (Blk.new w _ _).alloc _
 have hz6:Blk 25 w1 (w.heap.size+1) (ndcells zN):=by
  have:=Blk.new (w.alloc (.cells K.toArray 69)) 25 (ndcells zN)
  simp only [World.size_alloc] at this
  rw [hw1];exact this
 have hsz1:w1.heap.size=w.heap.size+2:=by rw [hw1];simp
 have hgl:=hw.hz.lt
 have hgW:=hw.hg
 have hW0:=hw.hw.size
 have rh:=hh.all0
 have Gn:=fun (L:List UInt8) (o1 o2:Operand) (x:World)=>guard_ne_h L h o1 o2 x
 have Qn:=fun (L:List UInt8) (hL:L.length=32) (x:World)=>run_ne_h L h hL hl x
 simp only [← hK] at Gn Qn ⊢
 have Hw1:=Lib.hid hw1
 have HKl:=Lib.hid hKl
 have FV:=Lib.hid (fun (u:World) (hu:Below w.heap.size w u)=>hw.kept hu)
 have Hn:=Lib.hid hn
 have HGn:=Lib.hid Gn
 have HQn:=Lib.hid Qn
 have Hmiss:=Lib.hid hmiss
 obtain ⟨pn,hpn⟩:∃ n,n=pp.length:=⟨_,rfl⟩
 obtain ⟨vn,hvn⟩:∃ n,n=vb.length:=⟨_,rfl⟩
 obtain ⟨Kn,hKn⟩:∃ n,n=KK.length:=⟨_,rfl⟩
 have C:∀ (u:World) (hu:Below W0.heap.size W0 u),Calls Try.prog 142 #[.slice qa qn qc] u (fun e w'=>∃ (pa:Option Addr) (pc:Nat) (va:Option Addr) (vc:Nat) (ka:Option Addr) (kc:Nat) (ps4:List (Value × List UInt8)),e=.returned (.tuple #[.agg #[.int .i64 kd,.slice pa pn pc,.slice va vn vc,.slice ka Kn kc],.int .i64 0]) ∧
   Below u.heap.size u w'∧Bytes w' (.slice pa pn pc) pp∧Bytes w' (.slice va vn vc) vb∧Texts w' (.slice ka Kn kc) ps4∧ps4.map (·.2)=KK):=fun u hu=>by
  rw [hpn,hvn,hKn]
  refine Calls.mono (hread_any qa qn qc qc0 hqn.symm HTq.2 u (HTq.1.below hu)) (fun e w' h=>?_)
  dsimp only at hr
  rw [hr] at h
  exact rd_form h
 rw [← hpn,← hvn,← hKn] at hlen
 obtain ⟨l1,l2,l3⟩:=hlen
 have C1:=Lib.hid C
 have Hhit:=Lib.hid hhit
 have hzd:¬ (64:Int)<(d:Int):=by omega
 have hmm:¬ (4096:Int)≤(m:Int):=by omega
 obtain ⟨M1,hM1⟩:∃ n,n=m+1:=⟨_,rfl⟩
 have hwr:IntKind.i64.wrap ((m:Int)+1)=(M1:Int):=by rw [IntWalk.i64_in _ (by omega)];omega
 have hM2:M1≤4096:=by omega
 have HM1:=Lib.hid hM1
 clear hM1
 subst hk
 clear hmiss hhit hKl Gn Qn hw1 hK hn hl hw hq hqk hqk2 hqs hqn HTq C hbb hr hd hpn hvn hKn
 go_enter Try.func83,Try.ntmps83
 go_wp2_with fail
 rw [show (w.alloc (.cells K.toArray 69)).alloc (.cells #[.int .i64 0,.slice none 0 0,.slice none 0 0,.slice none 0 0] 25)=w1 from Hw1.out.symm]
 go_loopw [8] (fun ix wr=>∃ k:Nat,k≤K0∧ix=.int .i64 (k:Int)∧Below w1.heap.size w1 wr) (fun ix _=>K0 - (intOf ix).toNat)
 case atStart=>exact ⟨0,by omega,rfl,Below.refl _ _⟩
 case round =>
  obtain ⟨k,hk,rfl,bwr⟩:=hrel
  have Fr:=FV.out wr (Below.then hbel bwr)
  have c0:=Fr.hz.cell 0
  simp only [viC,List.getElem?_cons_zero] at c0
  have g0:=fun u:Ext wr=>u.cell c0
  have rhw:wr.rangeAt w.heap.size 0 K:=World.rangeAt.below rh (bwr)
  by_cases hlt:k<K0
  ·have hkn:k<ps.length:=by have:=Hn.out;omega
   have hzN:k<n:=by have:=Hn.out;omega
   have hz:(k:Int)<(n:Int):=by omega
   have hwk:IntKind.i64.wrap ((k:Int)+1)=((k+1:Nat):Int):=by rw [IntWalk.i64_in _ (by omega)];omega
   obtain ⟨sb,so,hsa,rr⟩:=RowOf.range hq32_len Fr.ho.row k (by rw [List.length_map];exact hkn)
   subst hsa
   obtain ⟨L,hL⟩:∃ L,L=sumB ps[k].2:=⟨_,rfl⟩
   have hLl:L.length=32:=by rw [hL];exact outB_len _
   rw [List.getElem_map,← hL,hq32_eq hLl] at rr
   have hne:=Hmiss.out k hlt hkn
   rw [← hL] at hne
   have Gk:=HGn.out L
   have Qk:=HQn.out L hLl
   rw [show (L == h)=false from beq_eq_false_iff_ne.2 hne] at Qk
   obtain ⟨LC,hLC⟩:∃ LC,LC=L.map u8v:=⟨_,rfl⟩
   have hLCl:LC.length=32:=by rw [hLC,List.length_map];exact hLl
   simp only [← hLC] at rr Gk Qk
   have HLCl:=Lib.hid hLCl
   clear hne hLl hL hLC hLCl
   go_wp2_with fail
   refine wp_region_typed wr 18 (by kernel_rfl) (by kernel_rfl) (Below.refl _ _) ?_;simp only [List.take_succ_cons,List.take_zero,List.take_nil]
   iterate 14 (refine wpX_step (by rfl) (fun K hK=>?_);go_simp;first|(refine hK _ ?_;clear hK K)|(apply Exists.intro;refine ⟨fun _=>?_,hK _ ?_⟩;fail;clear hK K))
   (refine wpX_step (by rfl) (fun K hK=>?_);rw [if_pos (by rfl)];refine ⟨_,fun u=>const_loadm _ (.tmp 34) (by rfl) _ _ (by rfl) aggHash' HLCl.out (rangeAt.ext rr u),hK _ ?_⟩;clear hK K;simp only [Act.put,List.setIfInBounds_toArray,List.set_cons_zero,List.set_cons_succ])
   (refine wpX_step (by rfl) (fun K hK=>?_);rw [if_pos (by rfl)];refine ⟨_,fun u=>const_loadm _ (.tmp 4) (by rfl) _ _ (by rfl) aggHash' HKl.out (rangeAt.ext rhw u),hK _ ?_⟩;clear hK K;simp only [Act.put,List.setIfInBounds_toArray,List.set_cons_zero,List.set_cons_succ])
   (refine wpX_step (by rfl) (fun K hK=>?_);rw [if_pos (by rfl)];refine ⟨_,fun u=>const_neq _ _ _ _ (by rfl) (by rfl) (by rfl) (fun o1 o2 w1=>Gk o1 o2 w1) (fun w1=>Qk w1),hK _ ?_⟩;clear hK K;simp only [Act.put,List.setIfInBounds_toArray,List.set_cons_zero,List.set_cons_succ])
   (refine wpX_step (by rfl) (fun K hK=>?_);go_simp;first|(refine hK _ ?_;clear hK K)|(apply Exists.intro;refine ⟨fun _=>?_,hK _ ?_⟩;fail;clear hK K))
   refine wpX_nil ?_
   intro y hy
   change forallRel y [] _ _
   simp only [forallRel,List.drop_succ_cons,List.drop_zero,List.drop_nil]
   go_wp2_with fail
   go_roundw
   case rel=>exact ⟨k+1,by omega,by go_num,Below.then bwr hy⟩
   case measure=>simp [intOf];omega
  ·obtain rfl:k=K0:=by omega
   have hkn:k<ps.length:=by have:=Hn.out;omega
   have hzN:k<n:=by have:=Hn.out;omega
   have hz:(k:Int)<(n:Int):=by omega
   have hzn:((k:Int) == (n:Int))=false:=beq_eq_false_iff_ne.2 (by omega)
   obtain ⟨sb,so,hsa,rr⟩:=RowOf.range hq32_len Fr.ho.row k (by rw [List.length_map];exact hkn)
   subst hsa
   obtain ⟨L,hL⟩:∃ L,L=sumB ps[k].2:=⟨_,rfl⟩
   have hLl:L.length=32:=by rw [hL];exact outB_len _
   rw [List.getElem_map,← hL,hq32_eq hLl] at rr
   have hne:=Hhit.out hkn
   rw [← hL] at hne
   have Gk:=HGn.out L
   have Qk:=HQn.out L hLl
   rw [show (L == h)=true from beq_iff_eq.2 hne] at Qk
   obtain ⟨LC,hLC⟩:∃ LC,LC=L.map u8v:=⟨_,rfl⟩
   have hLCl:LC.length=32:=by rw [hLC,List.length_map];exact hLl
   simp only [← hLC] at rr Gk Qk
   have HLCl:=Lib.hid hLCl
   clear hne hLl hL hLC hLCl
   go_wp2_with fail
   refine wp_region_typed wr 18 (by kernel_rfl) (by kernel_rfl) (Below.refl _ _) ?_;simp only [List.take_succ_cons,List.take_zero,List.take_nil]
   iterate 14 (refine wpX_step (by rfl) (fun K hK=>?_);go_simp;first|(refine hK _ ?_;clear hK K)|(apply Exists.intro;refine ⟨fun _=>?_,hK _ ?_⟩;fail;clear hK K))
   (refine wpX_step (by rfl) (fun K hK=>?_);rw [if_pos (by rfl)];refine ⟨_,fun u=>const_loadm _ (.tmp 34) (by rfl) _ _ (by rfl) aggHash' HLCl.out (rangeAt.ext rr u),hK _ ?_⟩;clear hK K;simp only [Act.put,List.setIfInBounds_toArray,List.set_cons_zero,List.set_cons_succ])
   (refine wpX_step (by rfl) (fun K hK=>?_);rw [if_pos (by rfl)];refine ⟨_,fun u=>const_loadm _ (.tmp 4) (by rfl) _ _ (by rfl) aggHash' HKl.out (rangeAt.ext rhw u),hK _ ?_⟩;clear hK K;simp only [Act.put,List.setIfInBounds_toArray,List.set_cons_zero,List.set_cons_succ])
   (refine wpX_step (by rfl) (fun K hK=>?_);rw [if_pos (by rfl)];refine ⟨_,fun u=>const_neq _ _ _ _ (by rfl) (by rfl) (by rfl) (fun o1 o2 w1=>Gk o1 o2 w1) (fun w1=>Qk w1),hK _ ?_⟩;clear hK K;simp only [Act.put,List.setIfInBounds_toArray,List.set_cons_zero,List.set_cons_succ])
   (refine wpX_step (by rfl) (fun K hK=>?_);go_simp;first|(refine hK _ ?_;clear hK K)|(apply Exists.intro;refine ⟨fun _=>?_,hK _ ?_⟩;fail;clear hK K))
   refine wpX_nil ?_
   intro y hy
   change forallRel y [] _ _
   simp only [forallRel,List.drop_succ_cons,List.drop_zero,List.drop_nil]
   have by0:=Below.then bwr hy
   have by1:=Below.then hbel by0
   have Fy:=FV.out y by1
   have c0y:=Fy.hz.cell 0
   have c2y:=Fy.hz.cell 2
   simp only [viC,List.getElem?_cons_zero,List.getElem?_cons_succ] at c0y c2y
   have hz6y:=hz6.kept by0
   have hgf:=Fy.hz.free 2
   obtain ⟨y1,hy1⟩:∃ y1,y1=y.setCell ⟨g,2,none⟩ (.int .i64 (M1:Int)):=⟨_,rfl⟩
   have z1:Blk 171 y1 g (viC (.slice (some ⟨sb,so,none⟩) n sc) (.slice aa n ac) M1):=by rw [hy1];exact Fy.hz.set 2 _
   have gy:y.grownBy y1 (some g):=by rw [hy1];exact grown_cell 2 _
   have F1:=Fy.turn z1 gy
   have G1:w.grownBy y1 (some g):=gb_then (gb_of by1 _) gy (fun k hk=>.inl (by cases hk;rfl))
   have hzy1:Blk 25 y1 (w.heap.size+1) (ndcells zN):=hz6y.grown gy (by simp;omega)
   have sy1:y1.heap.size=y.heap.size:=by rw [hy1];simp
   have szy:w.heap.size+2≤y1.heap.size:=by have:=by0.size;omega
   have C2:=C1.out y1 F1.hw
   have c1y:=Fy.hz.cell 1
   have c1y1:=F1.hz.cell 1
   simp only [viC,List.getElem?_cons_zero,List.getElem?_cons_succ] at c1y c1y1
   obtain ⟨ab,ao,haa,hc⟩:=(Fy.hT.1.below Fy.hw).cells (f:=tcell) (size:=1) (fun _=>rfl) k hkn
   have hce:y.cell? ⟨ab,ao+k,none⟩=some (.slice qa qn qc):=by have:=hc 0 _ rfl;rw [← Hqk.out hkn];simpa using this
   obtain ⟨ab',ao',haa',hc'⟩:=(F1.hT.1.below F1.hw).cells (f:=tcell) (size:=1) (fun _=>rfl) k hkn
   have hce1:y1.cell? ⟨ab',ao'+k,none⟩=some (.slice qa qn qc):=by have:=hc' 0 _ rfl;rw [← Hqk.out hkn];simpa using this
   subst haa
   simp only [Option.some.injEq,Addr.mk.injEq,and_true] at haa'
   obtain ⟨rfl,rfl⟩:=haa'
   rw [hy1] at c1y1 hce1
   clear hc hc'
   go_wp2_with (first
    | (go_at_call 142;rw [← hy1];(with_reducible refine C2.mono ?_);rintro e w4 ⟨pa,pc,va,vc,ka,kc,ps4,rfl,b4,i1,i2,i3,i4⟩;have F4:=F1.kept b4;have G4:=gb_below G1 b4 (by omega);have hz4:=hzy1.kept b4;have s4:=b4.size;have z4:=F4.hz;have hww:w.heap.size+1<w4.heap.size:=(by omega);have bA:=(Below.refl w4.heap.size w4).alloc (Nat.le_refl _) (.cells #[.int .i64 1,.slice pa pn pc,.slice va vn vc,.slice ka Kn kc] 250);have bB:=bA.alloc (by simp) (.cells #[.int .i64 1,.slice pa pn pc,.slice va vn vc,.slice none 0 0] 25);have nB:=Blk.new (w4.alloc (.cells #[.int .i64 1,.slice pa pn pc,.slice va vn vc,.slice ka Kn kc] 250)) 25 [.int .i64 1,.slice pa pn pc,.slice va vn vc,.slice none 0 0];(simp only [World.size_alloc] at nB);have F0:LoopV ps W0 (some ⟨sb,so,none⟩) sc (some ⟨ab,ao,none⟩) ac n B0 g w w4 1 (.slice pa pn pc) (.slice va vn vc) (.slice ka Kn kc) (.slice none 0 0) (.slice none 0 0) [] M1 ((w4.alloc (.cells #[.int .i64 1,.slice pa pn pc,.slice va vn vc,.slice ka Kn kc] 250)).alloc (.cells #[.int .i64 1,.slice pa pn pc,.slice va vn vc,.slice none 0 0] 25)):=⟨F4.kept bB,(Blk.new w4 250 [.int .i64 1,.slice pa pn pc,.slice va vn vc,.slice ka Kn kc]).alloc _,nB,hz4.kept bB,OwnOf.nil _ _ _ _ _,Clean.nil _,(by simp),(by simp),gb_of bB _,gb_below G4 bB (by omega)⟩)
    | ((with_reducible show wpList _ _ _ (⟨some 149,_,_,_,_,_⟩::_) _ _);refine wpList_loadA (o:=⟨some 149,_,_,_,_,_⟩) (by rfl) 25 (.tmp 11) (by rfl) (w4.heap.size+1) (by rfl) aggNode F0.hn (by rfl) ?_)
    | ((with_reducible show wpList _ _ _ (⟨none,Op.store _ _ (Operand.tmp 149),_,_,_,_⟩::_) _ _);refine wpList_storeA (o:=⟨none,_,_,_,_,_⟩) (by rfl) 25 (.tmp 6) (.tmp 149) (by rfl) (w.heap.size+1) [.int .i64 1,.slice pa pn pc,.slice va vn vc,.slice none 0 0] (by rfl) (by rfl) aggNode F0.h6 (by rfl) (by rfl) (by intro u hu;simp at hu;rcases hu with rfl|rfl|rfl|rfl <;> rfl) (Below.refl 0 _) (Nat.zero_le _) ?_;intro w7 h7 _ g7))
   exact bodyPost_ret (v:=.tuple #[.agg #[.int .i64 1,.slice pa pn pc,.slice va vn vc,.slice none 0 0],.int .i64 0]) (results_blk_tmp rfl _ _ (w.heap.size+1) aggNode h7 (by rfl) rfl rfl) rfl (F0.done (R:=(0,.mk 1 pp vb [],m+1)) hgl hww hW0 z4 i1 i2 g7 (fun _=>rfl) HM1.out.symm)
set_option maxHeartbeats 8000000 in
set_option maxRecDepth 100000 in
theorem come_nil (ps:List (Value × List UInt8)) (W0:World) (sa:Option Addr) (sc:Nat) (aa:Option Addr) (ac n B0 g m d:Nat) (hn:ps.length=n) (hns:n≤1048576) (h:List UInt8) (hl:h.length=32) (hbb:∀ q∈ps,q.2.length≤1048576) (hd:d≤64) (hm:m<4096) (q:Value × List UInt8) (hq:firstQ ps h=some q) (kd:Int) (pp vb:List UInt8) (KK:List (List UInt8)) (hr:rdB q.2=some (kd,pp,vb,KK)) (hlen:pp.length≤4194304∧vb.length≤1048576∧KK.length≤1048576) (hk:kd=0) (hd0:d=0) (w:World) (hw:ViW ps W0 sa sc aa ac n B0 g m w):Calls Try.prog 83 #[.pointer (some ⟨g,0,none⟩),.agg (h.map u8v).toArray,.int .i64 (d:Int)] w (CmPost (0,.mk kd pp vb [],m+1) ps W0 sa sc aa ac n B0 g w):=by
 obtain ⟨K0,hK0,hqk,hqs,hmiss0⟩:=first_at hq
 have hmiss:∀ k (_:k<K0) (hk:k<ps.length),sumB (ps[k]).2≠h:=fun k h1 _=>hmiss0 k h1
 have hhit:∀ (hk:K0<ps.length),sumB (ps[K0]).2=h:=fun hk=>by rw [hqk];exact hqs
 clear hmiss0
 have HTq:=And.intro (hw.hT.2 q (first_mem hq).1) (hbb q (first_mem hq).1)
 obtain ⟨qv,qc0⟩:=q
 obtain ⟨qa,qc,hqv,_⟩:=RowOf.form HTq.1
 dsimp only at hqv HTq
 subst hqv
 obtain ⟨qn,hqn⟩:∃ n,n=qc0.length:=⟨_,rfl⟩
 rw [← hqn] at HTq
 have hqk2:∀ (hk:K0<ps.length),(ps[K0]).1=.slice qa qn qc:=fun hk=>by rw [hqk,hqn]
 have Hqk:=Lib.hid hqk2
 obtain ⟨K,hK⟩:∃ K,K=h.map u8v:=⟨_,rfl⟩
 have hKl:K.length=32:=by rw [hK,List.length_map];exact hl
 obtain ⟨w1,hw1⟩:∃ w1,w1=(w.alloc (.cells K.toArray 69)).alloc (.cells #[.int .i64 0,.slice none 0 0,.slice none 0 0,.slice none 0 0] 25):=⟨_,rfl⟩
 have hbel:Below w.heap.size w w1:=by rw [hw1];exact ((Below.refl _ _).alloc (Nat.le_refl _) _).alloc (by simp) _
 have hh:Blk 69 w1 w.heap.size K:=by rw [hw1];exact (Blk.new w _ _).alloc _
 have hz6:Blk 25 w1 (w.heap.size+1) (ndcells zN):=by
  have:=Blk.new (w.alloc (.cells K.toArray 69)) 25 (ndcells zN)
  simp only [World.size_alloc] at this
  rw [hw1];exact this
 have hsz1:w1.heap.size=w.heap.size+2:=by rw [hw1];simp
 have hgl:=hw.hz.lt
 have hgW:=hw.hg
 have hW0:=hw.hw.size
 have rh:=hh.all0
 have Gn:=fun (L:List UInt8) (o1 o2:Operand) (x:World)=>guard_ne_h L h o1 o2 x
 have Qn:=fun (L:List UInt8) (hL:L.length=32) (x:World)=>run_ne_h L h hL hl x
 simp only [← hK] at Gn Qn ⊢
 have Hw1:=Lib.hid hw1
 have HKl:=Lib.hid hKl
 have FV:=Lib.hid (fun (u:World) (hu:Below w.heap.size w u)=>hw.kept hu)
 have Hn:=Lib.hid hn
 have HGn:=Lib.hid Gn
 have HQn:=Lib.hid Qn
 have Hmiss:=Lib.hid hmiss
 obtain ⟨pn,hpn⟩:∃ n,n=pp.length:=⟨_,rfl⟩
 obtain ⟨vn,hvn⟩:∃ n,n=vb.length:=⟨_,rfl⟩
 obtain ⟨Kn,hKn⟩:∃ n,n=KK.length:=⟨_,rfl⟩
 have C:∀ (u:World) (hu:Below W0.heap.size W0 u),Calls Try.prog 142 #[.slice qa qn qc] u (fun e w'=>∃ (pa:Option Addr) (pc:Nat) (va:Option Addr) (vc:Nat) (ka:Option Addr) (kc:Nat) (ps4:List (Value × List UInt8)),e=.returned (.tuple #[.agg #[.int .i64 kd,.slice pa pn pc,.slice va vn vc,.slice ka Kn kc],.int .i64 0]) ∧
   Below u.heap.size u w'∧Bytes w' (.slice pa pn pc) pp∧Bytes w' (.slice va vn vc) vb∧Texts w' (.slice ka Kn kc) ps4∧ps4.map (·.2)=KK):=fun u hu=>by
  rw [hpn,hvn,hKn]
  refine Calls.mono (hread_any qa qn qc qc0 hqn.symm HTq.2 u (HTq.1.below hu)) (fun e w' h=>?_)
  dsimp only at hr
  rw [hr] at h
  exact rd_form h
 rw [← hpn,← hvn,← hKn] at hlen
 obtain ⟨l1,l2,l3⟩:=hlen
 have C1:=Lib.hid C
 have Hhit:=Lib.hid hhit
 have hzd:¬ (64:Int)<(d:Int):=by omega
 have hmm:¬ (4096:Int)≤(m:Int):=by omega
 obtain ⟨M1,hM1⟩:∃ n,n=m+1:=⟨_,rfl⟩
 have hwr:IntKind.i64.wrap ((m:Int)+1)=(M1:Int):=by rw [IntWalk.i64_in _ (by omega)];omega
 have hM2:M1≤4096:=by omega
 have HM1:=Lib.hid hM1
 clear hM1
 have hz0:¬ (0:Int)<(d:Int):=by omega
 subst hk
 clear hmiss hhit hKl Gn Qn hw1 hK hn hl hw hq hqk hqk2 hqs hqn HTq C hbb hr hd hpn hvn hKn hd0
 go_enter Try.func83,Try.ntmps83
 go_wp2_with fail
 rw [show (w.alloc (.cells K.toArray 69)).alloc (.cells #[.int .i64 0,.slice none 0 0,.slice none 0 0,.slice none 0 0] 25)=w1 from Hw1.out.symm]
 go_loopw [8] (fun ix wr=>∃ k:Nat,k≤K0∧ix=.int .i64 (k:Int)∧Below w1.heap.size w1 wr) (fun ix _=>K0 - (intOf ix).toNat)
 case atStart=>exact ⟨0,by omega,rfl,Below.refl _ _⟩
 case round =>
  obtain ⟨k,hk,rfl,bwr⟩:=hrel
  have Fr:=FV.out wr (Below.then hbel bwr)
  have c0:=Fr.hz.cell 0
  simp only [viC,List.getElem?_cons_zero] at c0
  have g0:=fun u:Ext wr=>u.cell c0
  have rhw:wr.rangeAt w.heap.size 0 K:=World.rangeAt.below rh (bwr)
  by_cases hlt:k<K0
  ·have hkn:k<ps.length:=by have:=Hn.out;omega
   have hzN:k<n:=by have:=Hn.out;omega
   have hz:(k:Int)<(n:Int):=by omega
   have hwk:IntKind.i64.wrap ((k:Int)+1)=((k+1:Nat):Int):=by rw [IntWalk.i64_in _ (by omega)];omega
   obtain ⟨sb,so,hsa,rr⟩:=RowOf.range hq32_len Fr.ho.row k (by rw [List.length_map];exact hkn)
   subst hsa
   obtain ⟨L,hL⟩:∃ L,L=sumB ps[k].2:=⟨_,rfl⟩
   have hLl:L.length=32:=by rw [hL];exact outB_len _
   rw [List.getElem_map,← hL,hq32_eq hLl] at rr
   have hne:=Hmiss.out k hlt hkn
   rw [← hL] at hne
   have Gk:=HGn.out L
   have Qk:=HQn.out L hLl
   rw [show (L == h)=false from beq_eq_false_iff_ne.2 hne] at Qk
   obtain ⟨LC,hLC⟩:∃ LC,LC=L.map u8v:=⟨_,rfl⟩
   have hLCl:LC.length=32:=by rw [hLC,List.length_map];exact hLl
   simp only [← hLC] at rr Gk Qk
   have HLCl:=Lib.hid hLCl
   clear hne hLl hL hLC hLCl
   go_wp2_with fail
   refine wp_region_typed wr 18 (by kernel_rfl) (by kernel_rfl) (Below.refl _ _) ?_;simp only [List.take_succ_cons,List.take_zero,List.take_nil]
   iterate 14 (refine wpX_step (by rfl) (fun K hK=>?_);go_simp;first|(refine hK _ ?_;clear hK K)|(apply Exists.intro;refine ⟨fun _=>?_,hK _ ?_⟩;fail;clear hK K))
   (refine wpX_step (by rfl) (fun K hK=>?_);rw [if_pos (by rfl)];refine ⟨_,fun u=>const_loadm _ (.tmp 34) (by rfl) _ _ (by rfl) aggHash' HLCl.out (rangeAt.ext rr u),hK _ ?_⟩;clear hK K;simp only [Act.put,List.setIfInBounds_toArray,List.set_cons_zero,List.set_cons_succ])
   (refine wpX_step (by rfl) (fun K hK=>?_);rw [if_pos (by rfl)];refine ⟨_,fun u=>const_loadm _ (.tmp 4) (by rfl) _ _ (by rfl) aggHash' HKl.out (rangeAt.ext rhw u),hK _ ?_⟩;clear hK K;simp only [Act.put,List.setIfInBounds_toArray,List.set_cons_zero,List.set_cons_succ])
   (refine wpX_step (by rfl) (fun K hK=>?_);rw [if_pos (by rfl)];refine ⟨_,fun u=>const_neq _ _ _ _ (by rfl) (by rfl) (by rfl) (fun o1 o2 w1=>Gk o1 o2 w1) (fun w1=>Qk w1),hK _ ?_⟩;clear hK K;simp only [Act.put,List.setIfInBounds_toArray,List.set_cons_zero,List.set_cons_succ])
   (refine wpX_step (by rfl) (fun K hK=>?_);go_simp;first|(refine hK _ ?_;clear hK K)|(apply Exists.intro;refine ⟨fun _=>?_,hK _ ?_⟩;fail;clear hK K))
   refine wpX_nil ?_
   intro y hy
   change forallRel y [] _ _
   simp only [forallRel,List.drop_succ_cons,List.drop_zero,List.drop_nil]
   go_wp2_with fail
   go_roundw
   case rel=>exact ⟨k+1,by omega,by go_num,Below.then bwr hy⟩
   case measure=>simp [intOf];omega
  ·obtain rfl:k=K0:=by omega
   have hkn:k<ps.length:=by have:=Hn.out;omega
   have hzN:k<n:=by have:=Hn.out;omega
   have hz:(k:Int)<(n:Int):=by omega
   have hzn:((k:Int) == (n:Int))=false:=beq_eq_false_iff_ne.2 (by omega)
   obtain ⟨sb,so,hsa,rr⟩:=RowOf.range hq32_len Fr.ho.row k (by rw [List.length_map];exact hkn)
   subst hsa
   obtain ⟨L,hL⟩:∃ L,L=sumB ps[k].2:=⟨_,rfl⟩
   have hLl:L.length=32:=by rw [hL];exact outB_len _
   rw [List.getElem_map,← hL,hq32_eq hLl] at rr
   have hne:=Hhit.out hkn
   rw [← hL] at hne
   have Gk:=HGn.out L
   have Qk:=HQn.out L hLl
   rw [show (L == h)=true from beq_iff_eq.2 hne] at Qk
   obtain ⟨LC,hLC⟩:∃ LC,LC=L.map u8v:=⟨_,rfl⟩
   have hLCl:LC.length=32:=by rw [hLC,List.length_map];exact hLl
   simp only [← hLC] at rr Gk Qk
   have HLCl:=Lib.hid hLCl
   clear hne hLl hL hLC hLCl
   go_wp2_with fail
   refine wp_region_typed wr 18 (by kernel_rfl) (by kernel_rfl) (Below.refl _ _) ?_;simp only [List.take_succ_cons,List.take_zero,List.take_nil]
   iterate 14 (refine wpX_step (by rfl) (fun K hK=>?_);go_simp;first|(refine hK _ ?_;clear hK K)|(apply Exists.intro;refine ⟨fun _=>?_,hK _ ?_⟩;fail;clear hK K))
   (refine wpX_step (by rfl) (fun K hK=>?_);rw [if_pos (by rfl)];refine ⟨_,fun u=>const_loadm _ (.tmp 34) (by rfl) _ _ (by rfl) aggHash' HLCl.out (rangeAt.ext rr u),hK _ ?_⟩;clear hK K;simp only [Act.put,List.setIfInBounds_toArray,List.set_cons_zero,List.set_cons_succ])
   (refine wpX_step (by rfl) (fun K hK=>?_);rw [if_pos (by rfl)];refine ⟨_,fun u=>const_loadm _ (.tmp 4) (by rfl) _ _ (by rfl) aggHash' HKl.out (rangeAt.ext rhw u),hK _ ?_⟩;clear hK K;simp only [Act.put,List.setIfInBounds_toArray,List.set_cons_zero,List.set_cons_succ])
   (refine wpX_step (by rfl) (fun K hK=>?_);rw [if_pos (by rfl)];refine ⟨_,fun u=>const_neq _ _ _ _ (by rfl) (by rfl) (by rfl) (fun o1 o2 w1=>Gk o1 o2 w1) (fun w1=>Qk w1),hK _ ?_⟩;clear hK K;simp only [Act.put,List.setIfInBounds_toArray,List.set_cons_zero,List.set_cons_succ])
   (refine wpX_step (by rfl) (fun K hK=>?_);go_simp;first|(refine hK _ ?_;clear hK K)|(apply Exists.intro;refine ⟨fun _=>?_,hK _ ?_⟩;fail;clear hK K))
   refine wpX_nil ?_
   intro y hy
   change forallRel y [] _ _
   simp only [forallRel,List.drop_succ_cons,List.drop_zero,List.drop_nil]
   have by0:=Below.then bwr hy
   have by1:=Below.then hbel by0
   have Fy:=FV.out y by1
   have c0y:=Fy.hz.cell 0
   have c2y:=Fy.hz.cell 2
   simp only [viC,List.getElem?_cons_zero,List.getElem?_cons_succ] at c0y c2y
   have hz6y:=hz6.kept by0
   have hgf:=Fy.hz.free 2
   obtain ⟨y1,hy1⟩:∃ y1,y1=y.setCell ⟨g,2,none⟩ (.int .i64 (M1:Int)):=⟨_,rfl⟩
   have z1:Blk 171 y1 g (viC (.slice (some ⟨sb,so,none⟩) n sc) (.slice aa n ac) M1):=by rw [hy1];exact Fy.hz.set 2 _
   have gy:y.grownBy y1 (some g):=by rw [hy1];exact grown_cell 2 _
   have F1:=Fy.turn z1 gy
   have G1:w.grownBy y1 (some g):=gb_then (gb_of by1 _) gy (fun k hk=>.inl (by cases hk;rfl))
   have hzy1:Blk 25 y1 (w.heap.size+1) (ndcells zN):=hz6y.grown gy (by simp;omega)
   have sy1:y1.heap.size=y.heap.size:=by rw [hy1];simp
   have szy:w.heap.size+2≤y1.heap.size:=by have:=by0.size;omega
   have C2:=C1.out y1 F1.hw
   have c1y:=Fy.hz.cell 1
   have c1y1:=F1.hz.cell 1
   simp only [viC,List.getElem?_cons_zero,List.getElem?_cons_succ] at c1y c1y1
   obtain ⟨ab,ao,haa,hc⟩:=(Fy.hT.1.below Fy.hw).cells (f:=tcell) (size:=1) (fun _=>rfl) k hkn
   have hce:y.cell? ⟨ab,ao+k,none⟩=some (.slice qa qn qc):=by have:=hc 0 _ rfl;rw [← Hqk.out hkn];simpa using this
   obtain ⟨ab',ao',haa',hc'⟩:=(F1.hT.1.below F1.hw).cells (f:=tcell) (size:=1) (fun _=>rfl) k hkn
   have hce1:y1.cell? ⟨ab',ao'+k,none⟩=some (.slice qa qn qc):=by have:=hc' 0 _ rfl;rw [← Hqk.out hkn];simpa using this
   subst haa
   simp only [Option.some.injEq,Addr.mk.injEq,and_true] at haa'
   obtain ⟨rfl,rfl⟩:=haa'
   rw [hy1] at c1y1 hce1
   clear hc hc'
   go_wp2_with (first
    | (go_at_call 142;rw [← hy1];(with_reducible refine C2.mono ?_);rintro e w4 ⟨pa,pc,va,vc,ka,kc,ps4,rfl,b4,i1,i2,i3,i4⟩;have F4:=F1.kept b4;have G4:=gb_below G1 b4 (by omega);have hz4:=hzy1.kept b4;have s4:=b4.size;have z4:=F4.hz;have hww:w.heap.size+1<w4.heap.size:=(by omega);have bA:=(Below.refl w4.heap.size w4).alloc (Nat.le_refl _) (.cells #[.int .i64 0,.slice pa pn pc,.slice va vn vc,.slice ka Kn kc] 250);have bB:=bA.alloc (by simp) (.cells #[.int .i64 0,.slice pa pn pc,.slice va vn vc,.slice none 0 0] 25);have nB:=Blk.new (w4.alloc (.cells #[.int .i64 0,.slice pa pn pc,.slice va vn vc,.slice ka Kn kc] 250)) 25 [.int .i64 0,.slice pa pn pc,.slice va vn vc,.slice none 0 0];(simp only [World.size_alloc] at nB);have F0:LoopV ps W0 (some ⟨sb,so,none⟩) sc (some ⟨ab,ao,none⟩) ac n B0 g w w4 0 (.slice pa pn pc) (.slice va vn vc) (.slice ka Kn kc) (.slice none 0 0) (.slice none 0 0) [] M1 ((w4.alloc (.cells #[.int .i64 0,.slice pa pn pc,.slice va vn vc,.slice ka Kn kc] 250)).alloc (.cells #[.int .i64 0,.slice pa pn pc,.slice va vn vc,.slice none 0 0] 25)):=⟨F4.kept bB,(Blk.new w4 250 [.int .i64 0,.slice pa pn pc,.slice va vn vc,.slice ka Kn kc]).alloc _,nB,hz4.kept bB,OwnOf.nil _ _ _ _ _,Clean.nil _,(by simp),(by simp),gb_of bB _,gb_below G4 bB (by omega)⟩)
    | ((with_reducible show wpList _ _ _ (⟨some 149,_,_,_,_,_⟩::_) _ _);refine wpList_loadA (o:=⟨some 149,_,_,_,_,_⟩) (by rfl) 25 (.tmp 11) (by rfl) (w4.heap.size+1) (by rfl) aggNode F0.hn (by rfl) ?_)
    | ((with_reducible show wpList _ _ _ (⟨none,Op.store _ _ (Operand.tmp 149),_,_,_,_⟩::_) _ _);refine wpList_storeA (o:=⟨none,_,_,_,_,_⟩) (by rfl) 25 (.tmp 6) (.tmp 149) (by rfl) (w.heap.size+1) [.int .i64 0,.slice pa pn pc,.slice va vn vc,.slice none 0 0] (by rfl) (by rfl) aggNode F0.h6 (by rfl) (by rfl) (by intro u hu;simp at hu;rcases hu with rfl|rfl|rfl|rfl <;> rfl) (Below.refl 0 _) (Nat.zero_le _) ?_;intro w7 h7 _ g7))
   exact bodyPost_ret (v:=.tuple #[.agg #[.int .i64 0,.slice pa pn pc,.slice va vn vc,.slice none 0 0],.int .i64 0]) (results_blk_tmp rfl _ _ (w.heap.size+1) aggNode h7 (by rfl) rfl rfl) rfl (F0.done (R:=(0,.mk 0 pp vb [],m+1)) hgl hww hW0 z4 i1 i2 g7 (fun _=>rfl) HM1.out.symm)
set_option maxHeartbeats 8000000 in
set_option maxRecDepth 100000 in
theorem come_none (ps:List (Value × List UInt8)) (W0:World) (sa:Option Addr) (sc:Nat) (aa:Option Addr) (ac n B0 g m d:Nat) (hn:ps.length=n) (hns:n≤1048576) (h:List UInt8) (hl:h.length=32) (hbb:∀ q∈ps,q.2.length≤1048576) (hd:d≤64) (hm:m<4096) (q:Value × List UInt8) (hq:firstQ ps h=some q) (kd:Int) (pp vb:List UInt8) (KK:List (List UInt8)) (hr:rdB q.2=some (kd,pp,vb,KK)) (hlen:pp.length≤4194304∧vb.length≤1048576∧KK.length≤1048576) (hk:kd=0) (hd0:0<d) (w:World) (hw:ViW ps W0 sa sc aa ac n B0 g m w):Calls Try.prog 83 #[.pointer (some ⟨g,0,none⟩),.agg (h.map u8v).toArray,.int .i64 (d:Int)] w (CmPost (1,zP,m+1) ps W0 sa sc aa ac n B0 g w):=by
 obtain ⟨K0,hK0,hqk,hqs,hmiss0⟩:=first_at hq
 have hmiss:∀ k (_:k<K0) (hk:k<ps.length),sumB (ps[k]).2≠h:=fun k h1 _=>hmiss0 k h1
 have hhit:∀ (hk:K0<ps.length),sumB (ps[K0]).2=h:=fun hk=>by rw [hqk];exact hqs
 clear hmiss0
 have HTq:=And.intro (hw.hT.2 q (first_mem hq).1) (hbb q (first_mem hq).1)
 obtain ⟨qv,qc0⟩:=q
 obtain ⟨qa,qc,hqv,_⟩:=RowOf.form HTq.1
 dsimp only at hqv HTq
 subst hqv
 obtain ⟨qn,hqn⟩:∃ n,n=qc0.length:=⟨_,rfl⟩
 rw [← hqn] at HTq
 have hqk2:∀ (hk:K0<ps.length),(ps[K0]).1=.slice qa qn qc:=fun hk=>by rw [hqk,hqn]
 have Hqk:=Lib.hid hqk2
 obtain ⟨K,hK⟩:∃ K,K=h.map u8v:=⟨_,rfl⟩
 have hKl:K.length=32:=by rw [hK,List.length_map];exact hl
 obtain ⟨w1,hw1⟩:∃ w1,w1=(w.alloc (.cells K.toArray 69)).alloc (.cells #[.int .i64 0,.slice none 0 0,.slice none 0 0,.slice none 0 0] 25):=⟨_,rfl⟩
 have hbel:Below w.heap.size w w1:=by rw [hw1];exact ((Below.refl _ _).alloc (Nat.le_refl _) _).alloc (by simp) _
 have hh:Blk 69 w1 w.heap.size K:=by rw [hw1];exact (Blk.new w _ _).alloc _
 have hz6:Blk 25 w1 (w.heap.size+1) (ndcells zN):=by
  have:=Blk.new (w.alloc (.cells K.toArray 69)) 25 (ndcells zN)
  simp only [World.size_alloc] at this
  rw [hw1];exact this
 have hsz1:w1.heap.size=w.heap.size+2:=by rw [hw1];simp
 have hgl:=hw.hz.lt
 have hgW:=hw.hg
 have hW0:=hw.hw.size
 have rh:=hh.all0
 have Gn:=fun (L:List UInt8) (o1 o2:Operand) (x:World)=>guard_ne_h L h o1 o2 x
 have Qn:=fun (L:List UInt8) (hL:L.length=32) (x:World)=>run_ne_h L h hL hl x
 simp only [← hK] at Gn Qn ⊢
 have Hw1:=Lib.hid hw1
 have HKl:=Lib.hid hKl
 have FV:=Lib.hid (fun (u:World) (hu:Below w.heap.size w u)=>hw.kept hu)
 have Hn:=Lib.hid hn
 have HGn:=Lib.hid Gn
 have HQn:=Lib.hid Qn
 have Hmiss:=Lib.hid hmiss
 obtain ⟨pn,hpn⟩:∃ n,n=pp.length:=⟨_,rfl⟩
 obtain ⟨vn,hvn⟩:∃ n,n=vb.length:=⟨_,rfl⟩
 obtain ⟨Kn,hKn⟩:∃ n,n=KK.length:=⟨_,rfl⟩
 have C:∀ (u:World) (hu:Below W0.heap.size W0 u),Calls Try.prog 142 #[.slice qa qn qc] u (fun e w'=>∃ (pa:Option Addr) (pc:Nat) (va:Option Addr) (vc:Nat) (ka:Option Addr) (kc:Nat) (ps4:List (Value × List UInt8)),e=.returned (.tuple #[.agg #[.int .i64 kd,.slice pa pn pc,.slice va vn vc,.slice ka Kn kc],.int .i64 0]) ∧
   Below u.heap.size u w'∧Bytes w' (.slice pa pn pc) pp∧Bytes w' (.slice va vn vc) vb∧Texts w' (.slice ka Kn kc) ps4∧ps4.map (·.2)=KK):=fun u hu=>by
  rw [hpn,hvn,hKn]
  refine Calls.mono (hread_any qa qn qc qc0 hqn.symm HTq.2 u (HTq.1.below hu)) (fun e w' h=>?_)
  dsimp only at hr
  rw [hr] at h
  exact rd_form h
 rw [← hpn,← hvn,← hKn] at hlen
 obtain ⟨l1,l2,l3⟩:=hlen
 have C1:=Lib.hid C
 have Hhit:=Lib.hid hhit
 have hzd:¬ (64:Int)<(d:Int):=by omega
 have hmm:¬ (4096:Int)≤(m:Int):=by omega
 obtain ⟨M1,hM1⟩:∃ n,n=m+1:=⟨_,rfl⟩
 have hwr:IntKind.i64.wrap ((m:Int)+1)=(M1:Int):=by rw [IntWalk.i64_in _ (by omega)];omega
 have hM2:M1≤4096:=by omega
 have HM1:=Lib.hid hM1
 clear hM1
 have hz0:(0:Int)<(d:Int):=by omega
 subst hk
 clear hmiss hhit hKl Gn Qn hw1 hK hn hl hw hq hqk hqk2 hqs hqn HTq C hbb hr hd hpn hvn hKn hd0
 go_enter Try.func83,Try.ntmps83
 go_wp2_with fail
 rw [show (w.alloc (.cells K.toArray 69)).alloc (.cells #[.int .i64 0,.slice none 0 0,.slice none 0 0,.slice none 0 0] 25)=w1 from Hw1.out.symm]
 go_loopw [8] (fun ix wr=>∃ k:Nat,k≤K0∧ix=.int .i64 (k:Int)∧Below w1.heap.size w1 wr) (fun ix _=>K0 - (intOf ix).toNat)
 case atStart=>exact ⟨0,by omega,rfl,Below.refl _ _⟩
 case round =>
  obtain ⟨k,hk,rfl,bwr⟩:=hrel
  have Fr:=FV.out wr (Below.then hbel bwr)
  have c0:=Fr.hz.cell 0
  simp only [viC,List.getElem?_cons_zero] at c0
  have g0:=fun u:Ext wr=>u.cell c0
  have rhw:wr.rangeAt w.heap.size 0 K:=World.rangeAt.below rh (bwr)
  by_cases hlt:k<K0
  ·have hkn:k<ps.length:=by have:=Hn.out;omega
   have hzN:k<n:=by have:=Hn.out;omega
   have hz:(k:Int)<(n:Int):=by omega
   have hwk:IntKind.i64.wrap ((k:Int)+1)=((k+1:Nat):Int):=by rw [IntWalk.i64_in _ (by omega)];omega
   obtain ⟨sb,so,hsa,rr⟩:=RowOf.range hq32_len Fr.ho.row k (by rw [List.length_map];exact hkn)
   subst hsa
   obtain ⟨L,hL⟩:∃ L,L=sumB ps[k].2:=⟨_,rfl⟩
   have hLl:L.length=32:=by rw [hL];exact outB_len _
   rw [List.getElem_map,← hL,hq32_eq hLl] at rr
   have hne:=Hmiss.out k hlt hkn
   rw [← hL] at hne
   have Gk:=HGn.out L
   have Qk:=HQn.out L hLl
   rw [show (L == h)=false from beq_eq_false_iff_ne.2 hne] at Qk
   obtain ⟨LC,hLC⟩:∃ LC,LC=L.map u8v:=⟨_,rfl⟩
   have hLCl:LC.length=32:=by rw [hLC,List.length_map];exact hLl
   simp only [← hLC] at rr Gk Qk
   have HLCl:=Lib.hid hLCl
   clear hne hLl hL hLC hLCl
   go_wp2_with fail
   refine wp_region_typed wr 18 (by kernel_rfl) (by kernel_rfl) (Below.refl _ _) ?_;simp only [List.take_succ_cons,List.take_zero,List.take_nil]
   iterate 14 (refine wpX_step (by rfl) (fun K hK=>?_);go_simp;first|(refine hK _ ?_;clear hK K)|(apply Exists.intro;refine ⟨fun _=>?_,hK _ ?_⟩;fail;clear hK K))
   (refine wpX_step (by rfl) (fun K hK=>?_);rw [if_pos (by rfl)];refine ⟨_,fun u=>const_loadm _ (.tmp 34) (by rfl) _ _ (by rfl) aggHash' HLCl.out (rangeAt.ext rr u),hK _ ?_⟩;clear hK K;simp only [Act.put,List.setIfInBounds_toArray,List.set_cons_zero,List.set_cons_succ])
   (refine wpX_step (by rfl) (fun K hK=>?_);rw [if_pos (by rfl)];refine ⟨_,fun u=>const_loadm _ (.tmp 4) (by rfl) _ _ (by rfl) aggHash' HKl.out (rangeAt.ext rhw u),hK _ ?_⟩;clear hK K;simp only [Act.put,List.setIfInBounds_toArray,List.set_cons_zero,List.set_cons_succ])
   (refine wpX_step (by rfl) (fun K hK=>?_);rw [if_pos (by rfl)];refine ⟨_,fun u=>const_neq _ _ _ _ (by rfl) (by rfl) (by rfl) (fun o1 o2 w1=>Gk o1 o2 w1) (fun w1=>Qk w1),hK _ ?_⟩;clear hK K;simp only [Act.put,List.setIfInBounds_toArray,List.set_cons_zero,List.set_cons_succ])
   (refine wpX_step (by rfl) (fun K hK=>?_);go_simp;first|(refine hK _ ?_;clear hK K)|(apply Exists.intro;refine ⟨fun _=>?_,hK _ ?_⟩;fail;clear hK K))
   refine wpX_nil ?_
   intro y hy
   change forallRel y [] _ _
   simp only [forallRel,List.drop_succ_cons,List.drop_zero,List.drop_nil]
   go_wp2_with fail
   go_roundw
   case rel=>exact ⟨k+1,by omega,by go_num,Below.then bwr hy⟩
   case measure=>simp [intOf];omega
  ·obtain rfl:k=K0:=by omega
   have hkn:k<ps.length:=by have:=Hn.out;omega
   have hzN:k<n:=by have:=Hn.out;omega
   have hz:(k:Int)<(n:Int):=by omega
   have hzn:((k:Int) == (n:Int))=false:=beq_eq_false_iff_ne.2 (by omega)
   obtain ⟨sb,so,hsa,rr⟩:=RowOf.range hq32_len Fr.ho.row k (by rw [List.length_map];exact hkn)
   subst hsa
   obtain ⟨L,hL⟩:∃ L,L=sumB ps[k].2:=⟨_,rfl⟩
   have hLl:L.length=32:=by rw [hL];exact outB_len _
   rw [List.getElem_map,← hL,hq32_eq hLl] at rr
   have hne:=Hhit.out hkn
   rw [← hL] at hne
   have Gk:=HGn.out L
   have Qk:=HQn.out L hLl
   rw [show (L == h)=true from beq_iff_eq.2 hne] at Qk
   obtain ⟨LC,hLC⟩:∃ LC,LC=L.map u8v:=⟨_,rfl⟩
   have hLCl:LC.length=32:=by rw [hLC,List.length_map];exact hLl
   simp only [← hLC] at rr Gk Qk
   have HLCl:=Lib.hid hLCl
   clear hne hLl hL hLC hLCl
   go_wp2_with fail
   refine wp_region_typed wr 18 (by kernel_rfl) (by kernel_rfl) (Below.refl _ _) ?_;simp only [List.take_succ_cons,List.take_zero,List.take_nil]
   iterate 14 (refine wpX_step (by rfl) (fun K hK=>?_);go_simp;first|(refine hK _ ?_;clear hK K)|(apply Exists.intro;refine ⟨fun _=>?_,hK _ ?_⟩;fail;clear hK K))
   (refine wpX_step (by rfl) (fun K hK=>?_);rw [if_pos (by rfl)];refine ⟨_,fun u=>const_loadm _ (.tmp 34) (by rfl) _ _ (by rfl) aggHash' HLCl.out (rangeAt.ext rr u),hK _ ?_⟩;clear hK K;simp only [Act.put,List.setIfInBounds_toArray,List.set_cons_zero,List.set_cons_succ])
   (refine wpX_step (by rfl) (fun K hK=>?_);rw [if_pos (by rfl)];refine ⟨_,fun u=>const_loadm _ (.tmp 4) (by rfl) _ _ (by rfl) aggHash' HKl.out (rangeAt.ext rhw u),hK _ ?_⟩;clear hK K;simp only [Act.put,List.setIfInBounds_toArray,List.set_cons_zero,List.set_cons_succ])
   (refine wpX_step (by rfl) (fun K hK=>?_);rw [if_pos (by rfl)];refine ⟨_,fun u=>const_neq _ _ _ _ (by rfl) (by rfl) (by rfl) (fun o1 o2 w1=>Gk o1 o2 w1) (fun w1=>Qk w1),hK _ ?_⟩;clear hK K;simp only [Act.put,List.setIfInBounds_toArray,List.set_cons_zero,List.set_cons_succ])
   (refine wpX_step (by rfl) (fun K hK=>?_);go_simp;first|(refine hK _ ?_;clear hK K)|(apply Exists.intro;refine ⟨fun _=>?_,hK _ ?_⟩;fail;clear hK K))
   refine wpX_nil ?_
   intro y hy
   change forallRel y [] _ _
   simp only [forallRel,List.drop_succ_cons,List.drop_zero,List.drop_nil]
   have by0:=Below.then bwr hy
   have by1:=Below.then hbel by0
   have Fy:=FV.out y by1
   have c0y:=Fy.hz.cell 0
   have c2y:=Fy.hz.cell 2
   simp only [viC,List.getElem?_cons_zero,List.getElem?_cons_succ] at c0y c2y
   have hz6y:=hz6.kept by0
   have hgf:=Fy.hz.free 2
   obtain ⟨y1,hy1⟩:∃ y1,y1=y.setCell ⟨g,2,none⟩ (.int .i64 (M1:Int)):=⟨_,rfl⟩
   have z1:Blk 171 y1 g (viC (.slice (some ⟨sb,so,none⟩) n sc) (.slice aa n ac) M1):=by rw [hy1];exact Fy.hz.set 2 _
   have gy:y.grownBy y1 (some g):=by rw [hy1];exact grown_cell 2 _
   have F1:=Fy.turn z1 gy
   have G1:w.grownBy y1 (some g):=gb_then (gb_of by1 _) gy (fun k hk=>.inl (by cases hk;rfl))
   have hzy1:Blk 25 y1 (w.heap.size+1) (ndcells zN):=hz6y.grown gy (by simp;omega)
   have sy1:y1.heap.size=y.heap.size:=by rw [hy1];simp
   have szy:w.heap.size+2≤y1.heap.size:=by have:=by0.size;omega
   have C2:=C1.out y1 F1.hw
   have c1y:=Fy.hz.cell 1
   have c1y1:=F1.hz.cell 1
   simp only [viC,List.getElem?_cons_zero,List.getElem?_cons_succ] at c1y c1y1
   obtain ⟨ab,ao,haa,hc⟩:=(Fy.hT.1.below Fy.hw).cells (f:=tcell) (size:=1) (fun _=>rfl) k hkn
   have hce:y.cell? ⟨ab,ao+k,none⟩=some (.slice qa qn qc):=by have:=hc 0 _ rfl;rw [← Hqk.out hkn];simpa using this
   obtain ⟨ab',ao',haa',hc'⟩:=(F1.hT.1.below F1.hw).cells (f:=tcell) (size:=1) (fun _=>rfl) k hkn
   have hce1:y1.cell? ⟨ab',ao'+k,none⟩=some (.slice qa qn qc):=by have:=hc' 0 _ rfl;rw [← Hqk.out hkn];simpa using this
   subst haa
   simp only [Option.some.injEq,Addr.mk.injEq,and_true] at haa'
   obtain ⟨rfl,rfl⟩:=haa'
   rw [hy1] at c1y1 hce1
   clear hc hc'
   go_wp2_with (first
    | (go_at_call 142;rw [← hy1];(with_reducible refine C2.mono ?_);rintro e w4 ⟨pa,pc,va,vc,ka,kc,ps4,rfl,b4,i1,i2,i3,i4⟩;have F4:=F1.kept b4;have G4:=gb_below G1 b4 (by omega);have hz4:=hzy1.kept b4;have s4:=b4.size;have z4:=F4.hz;have hww:w.heap.size+1<w4.heap.size:=(by omega);have bA:=(Below.refl w4.heap.size w4).alloc (Nat.le_refl _) (.cells #[.int .i64 0,.slice pa pn pc,.slice va vn vc,.slice ka Kn kc] 250);have bB:=bA.alloc (by simp) (.cells #[.int .i64 0,.slice pa pn pc,.slice va vn vc,.slice none 0 0] 25);have nB:=Blk.new (w4.alloc (.cells #[.int .i64 0,.slice pa pn pc,.slice va vn vc,.slice ka Kn kc] 250)) 25 [.int .i64 0,.slice pa pn pc,.slice va vn vc,.slice none 0 0];(simp only [World.size_alloc] at nB);have F0:LoopV ps W0 (some ⟨sb,so,none⟩) sc (some ⟨ab,ao,none⟩) ac n B0 g w w4 0 (.slice pa pn pc) (.slice va vn vc) (.slice ka Kn kc) (.slice none 0 0) (.slice none 0 0) [] M1 ((w4.alloc (.cells #[.int .i64 0,.slice pa pn pc,.slice va vn vc,.slice ka Kn kc] 250)).alloc (.cells #[.int .i64 0,.slice pa pn pc,.slice va vn vc,.slice none 0 0] 25)):=⟨F4.kept bB,(Blk.new w4 250 [.int .i64 0,.slice pa pn pc,.slice va vn vc,.slice ka Kn kc]).alloc _,nB,hz4.kept bB,OwnOf.nil _ _ _ _ _,Clean.nil _,(by simp),(by simp),gb_of bB _,gb_below G4 bB (by omega)⟩)
    | ((with_reducible show wpList _ _ _ (⟨some 90,_,_,_,_,_⟩::_) _ _);refine wpList_loadA (o:=⟨some 90,_,_,_,_,_⟩) (by rfl) 25 (.tmp 11) (by rfl) (w4.heap.size+1) (by rfl) aggNode F0.hn (by rfl) ?_)
    | ((with_reducible show wpList _ _ _ (⟨none,Op.store _ _ (Operand.tmp 90),_,_,_,_⟩::_) _ _);refine wpList_storeA (o:=⟨none,_,_,_,_,_⟩) (by rfl) 25 (.tmp 6) (.tmp 90) (by rfl) (w.heap.size+1) [.int .i64 0,.slice pa pn pc,.slice va vn vc,.slice none 0 0] (by rfl) (by rfl) aggNode F0.h6 (by rfl) (by rfl) (by intro u hu;simp at hu;rcases hu with rfl|rfl|rfl|rfl <;> rfl) (Below.refl 0 _) (Nat.zero_le _) ?_;intro w7 h7 _ g7))
   exact bodyPost_ret (v:=.tuple #[.agg #[.int .i64 0,.slice pa pn pc,.slice va vn vc,.slice none 0 0],.int .i64 1]) (results_blk_tmp rfl _ _ (w.heap.size+1) aggNode h7 (by rfl) rfl rfl) rfl (F0.done (R:=(1,zP,m+1)) hgl hww hW0 z4 i1 i2 g7 (fun e=>by simp at e) HM1.out.symm)
end Go.Proofs.Ytakhaanenlblmaa
