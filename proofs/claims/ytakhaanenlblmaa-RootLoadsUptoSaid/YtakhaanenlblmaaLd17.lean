/- come: a fork. -/
import Derived.Test.YtakhaanenlblmaaLd15
set_option linter.unusedSimpArgs false
set_option linter.unusedVariables false
namespace Go.Proofs.Ytakhaanenlblmaa
open Go.RowKit
theorem own16 {e:TypeId} {u:World} {B R:Nat} {ts:List Nd} (h:OwnOf ndcells 4 e u B (.slice (some ⟨R,0,none⟩) 16 16) ts):ts.length=16∧B≤R∧Blk e u R (ts.flatMap ndcells):=by
 obtain ⟨h0,h1⟩:=h
 rcases h1 with ⟨h2,_⟩|⟨g',cap,cur,hv,hb,hg,_,_,hs,ht⟩
 ·simp at h2
 ·simp only [Value.slice.injEq,Option.some.injEq,Addr.mk.injEq,and_true] at hv
  obtain ⟨rfl,hl,rfl⟩:=hv
  refine ⟨hl.symm,hb,?_⟩
  have:cur.toList=ts.flatMap ndcells:=by rw [← ht,List.take_of_length_le];rw [Array.length_toList,hs,← hl];exact Nat.le_refl _
  unfold Blk
  rw [← this];simpa using hg
theorem clean_nd {e:TypeId} {w u:World} {R:Nat} {ts:List Nd} (hb:Blk e w R (ts.flatMap ndcells)) (hi:∀ x∈ts,IsNd u x):Clean w (.slice (some ⟨R,0,none⟩) 16 16):=fun k hk cs e' fz hh v hv x=>by
 simp only [Value.ownBlock,Option.some.injEq] at hk
 subst hk
 have h2:w.heap[R]?=some (.cells (ts.flatMap ndcells).toArray e (0,0)):=hb
 rw [h2] at hh
 simp only [Option.some.injEq,Obj.cells.injEq] at hh
 obtain ⟨rfl,_,_⟩:=hh
 obtain ⟨t,ht,hvt⟩:=List.mem_flatMap.1 (by simpa using hv:v∈ts.flatMap ndcells)
 exact no8_ndcells (hi t ht) v hvt x
theorem LoopV.elem {ps:List (Value × List UInt8)} {W0:World} {sa:Option Addr} {sc:Nat} {aa:Option Addr} {ac n B0 g:Nat} {w w4:World} {kd:Int} {pv vv tv cv:Value} {R:Nat} {ts:List Nd} {m:Nat} {u:World} (h:LoopV ps W0 sa sc aa ac n B0 g w w4 kd pv vv tv cv (.slice (some ⟨R,0,none⟩) 16 16) ts m u) (hgw:g<w.heap.size) (hww:w.heap.size+1<w4.heap.size) (hW0:W0.heap.size≤w.heap.size) (k:Nat) (hk:k<16) {t:Nd} (ht:IsNd u t) (hkt:KdIn (fun k=>w4.heap.size+2≤k∧k<u.heap.size∧(Value.slice (some ⟨R,0,none⟩) 16 16).ownBlock≠some k) t) :
  LoopV ps W0 sa sc aa ac n B0 g w w4 kd pv vv tv cv (.slice (some ⟨R,0,none⟩) 16 16) (ts.set k t) m (u.setCells R (k * 4) (ndcells t)):=by
 obtain ⟨hl,hB,hb⟩:=own16 h.ow
 have hb2:=hb.sets (ndcells t) (k * 4)
 rw [sets_nd ts k (by omega) t] at hb2
 have hall:∀ x∈ts.set k t,IsNd u x∧KdIn (fun k=>w4.heap.size+2≤k∧k<u.heap.size∧(Value.slice (some ⟨R,0,none⟩) 16 16).ownBlock≠some k) x:=fun x hx=>by
  rcases List.mem_or_eq_of_mem_set hx with hx|rfl
  ·exact ⟨h.is x hx,h.kd' x hx⟩
  ·exact ⟨ht,hkt⟩
 exact h.row hgw hww hW0 hall (Blk.own (B:=w4.heap.size+2) hb2 16 ndcells_len (by rw [List.length_set];exact hl) hB (by unfold maxLen;omega)) (grown_sets (ndcells t) (k * 4) ⟨rfl,rfl,rfl,Nat.le_refl _,fun _ _ _=>rfl⟩) (fun k hk=>.inl hk) (clean_nd hb2 (fun x hx=>(hall x hx).1))
theorem LoopV.there {ps:List (Value × List UInt8)} {W0:World} {sa:Option Addr} {sc:Nat} {aa:Option Addr} {ac n B0 g:Nat} {w w4:World} {kd:Int} {pv vv tv cv:Value} {R:Nat} {ts:List Nd} {m:Nat} {u:World} (h:LoopV ps W0 sa sc aa ac n B0 g w w4 kd pv vv tv cv (.slice (some ⟨R,0,none⟩) 16 16) ts m u) (k:Nat) (hk:k<16):u.there R (k * 4) 4:=fun j hj=>by
 obtain ⟨hl,_,hb⟩:=own16 h.ow
 refine ⟨?_,hb.free _⟩
 rw [hb.cell,List.getElem?_eq_getElem (by rw [flat_nd,hl];omega)]
 rfl
theorem take_set {ts:List Nd} {k:Nat} (hk:k<ts.length) (t:Nd):(ts.set k t).take (k+1)=ts.take k++[t]:=by
 rw [List.take_succ_eq_append_getElem (by rw [List.length_set];exact hk),List.getElem_set_self,List.take_set_of_le (Nat.le_refl _)]
theorem drop_set {ts:List Nd} {k:Nat} (t:Nd):(ts.set k t).drop (k+1)=ts.drop (k+1):=by rw [List.drop_set_of_lt (Nat.lt_succ_self _)]
set_option maxHeartbeats 8000000 in
set_option maxRecDepth 100000 in
theorem come_fork (ps:List (Value × List UInt8)) (W0:World) (sa:Option Addr) (sc:Nat) (aa:Option Addr) (ac n B0 g m d:Nat) (hn:ps.length=n) (hns:n≤1048576) (h:List UInt8) (hl:h.length=32) (hbb:∀ q∈ps,q.2.length≤1048576) (hd:d≤64) (hm:m<4096) (q:Value × List UInt8) (hq:firstQ ps h=some q) (kd:Int) (pp vb:List UInt8) (KK:List (List UInt8)) (hr:rdB q.2=some (kd,pp,vb,KK)) (hlen:pp.length≤4194304∧vb.length≤1048576∧KK.length≤1048576) (N0:Nat) (f:List UInt8→Nat→Nat→Ldr) (hfine:FineF f) (ih:∀ (h:List UInt8) (d m:Nat) (w:World),h.length=32→65≤N0+d→d≤5000000→m≤4096→ViW ps W0 sa sc aa ac n B0 g m w→Calls Try.prog 83 #[.pointer (some ⟨g,0,none⟩),.agg (h.map u8v).toArray,.int .i64 (d:Int)] w (CmPost (f h d m) ps W0 sa sc aa ac n B0 g w)) (hnd:65≤N0+1+d) (hk:kd=3) (hK16:KK.length=16) (hK32:∀ k∈KK,k=[]∨k.length=32) (D:Nat) (hD:D=d+1) (R:Ldr) (hR:R=ofKids kd pp vb (kidsL f D KK (m+1) [])) (w:World) (hw:ViW ps W0 sa sc aa ac n B0 g m w):Calls Try.prog 83 #[.pointer (some ⟨g,0,none⟩),.agg (h.map u8v).toArray,.int .i64 (d:Int)] w (CmPost R ps W0 sa sc aa ac n B0 g w):=by
 obtain ⟨K0,hK0,hqk,hqs,hmiss0⟩:=first_at hq
 have hmiss:∀ k (_:k<K0) (hk:k<ps.length),sumB (ps[k]).2≠h:=fun k h1 _=>hmiss0 k h1
 have hhit:∀ (hk:K0<ps.length),sumB (ps[K0]).2=h:=fun hk=>by rw [hqk];exact hqs
 clear hmiss0
 have HTq:=And.intro (hw.hT.2 q (first_mem hq).1) (hbb q (first_mem hq).1)
 obtain ⟨qv,qc0⟩:=q
 obtain ⟨qa,qc,hqv,_⟩:=RowOf.form HTq.1
 dsimp only at hqv HTq
 subst hqv
 obtain ⟨qn,hqn⟩:∃ n,n=qc0.length:=⟨_,rfl⟩
 rw [← hqn] at HTq
 have hqk2:∀ (hk:K0<ps.length),(ps[K0]).1=.slice qa qn qc:=fun hk=>by rw [hqk,hqn]
 have Hqk:=Lib.hid hqk2
 obtain ⟨K,hK⟩:∃ K,K=h.map u8v:=⟨_,rfl⟩
 have hKl:K.length=32:=by rw [hK,List.length_map];exact hl
 obtain ⟨w1,hw1⟩:∃ w1,w1=(w.alloc (.cells K.toArray 69)).alloc (.cells #[.int .i64 0,.slice none 0 0,.slice none 0 0,.slice none 0 0] 25):=⟨_,rfl⟩
 have hbel:Below w.heap.size w w1:=by rw [hw1];exact ((Below.refl _ _).alloc (Nat.le_refl _) _).alloc (by simp) _
 have hh:Blk 69 w1 w.heap.size K:=by rw [hw1];exact (Blk.new w _ _).alloc _
 have hz6:Blk 25 w1 (w.heap.size+1) (ndcells zN):=by
  have:=Blk.new (w.alloc (.cells K.toArray 69)) 25 (ndcells zN)
  simp only [World.size_alloc] at this
  rw [hw1];exact this
 have hsz1:w1.heap.size=w.heap.size+2:=by rw [hw1];simp
 have hgl:=hw.hz.lt
 have hgW:=hw.hg
 have hW0:=hw.hw.size
 have rh:=hh.all0
 have Gn:=fun (L:List UInt8) (o1 o2:Operand) (x:World)=>guard_ne_h L h o1 o2 x
 have Qn:=fun (L:List UInt8) (hL:L.length=32) (x:World)=>run_ne_h L h hL hl x
 simp only [← hK] at Gn Qn ⊢
 have Hw1:=Lib.hid hw1
 have HKl:=Lib.hid hKl
 have FV:=Lib.hid (fun (u:World) (hu:Below w.heap.size w u)=>hw.kept hu)
 have Hn:=Lib.hid hn
 have HGn:=Lib.hid Gn
 have HQn:=Lib.hid Qn
 have Hmiss:=Lib.hid hmiss
 obtain ⟨pn,hpn⟩:∃ n,n=pp.length:=⟨_,rfl⟩
 obtain ⟨vn,hvn⟩:∃ n,n=vb.length:=⟨_,rfl⟩
 obtain ⟨Kn,hKn⟩:∃ n,n=KK.length:=⟨_,rfl⟩
 have C:∀ (u:World) (hu:Below W0.heap.size W0 u),Calls Try.prog 142 #[.slice qa qn qc] u (fun e w'=>∃ (pa:Option Addr) (pc:Nat) (va:Option Addr) (vc:Nat) (ka:Option Addr) (kc:Nat) (ps4:List (Value × List UInt8)),e=.returned (.tuple #[.agg #[.int .i64 kd,.slice pa pn pc,.slice va vn vc,.slice ka Kn kc],.int .i64 0]) ∧
   Below u.heap.size u w'∧Bytes w' (.slice pa pn pc) pp∧Bytes w' (.slice va vn vc) vb∧Texts w' (.slice ka Kn kc) ps4∧ps4.map (·.2)=KK):=fun u hu=>by
  rw [hpn,hvn,hKn]
  refine Calls.mono (hread_any qa qn qc qc0 hqn.symm HTq.2 u (HTq.1.below hu)) (fun e w' h=>?_)
  dsimp only at hr
  rw [hr] at h
  exact rd_form h
 rw [← hpn,← hvn,← hKn] at hlen
 obtain ⟨l1,l2,l3⟩:=hlen
 have C1:=Lib.hid C
 have Hhit:=Lib.hid hhit
 have hzd:¬ (64:Int)<(d:Int):=by omega
 have hmm:¬ (4096:Int)≤(m:Int):=by omega
 obtain ⟨M1,hM1⟩:∃ n,n=m+1:=⟨_,rfl⟩
 have hwr:IntKind.i64.wrap ((m:Int)+1)=(M1:Int):=by rw [IntWalk.i64_in _ (by omega)];omega
 have hM2:M1≤4096:=by omega
 have HM1:=Lib.hid hM1
 clear hM1
 subst hk
 have hKn16:Kn=16:=hKn.trans hK16
 subst hKn16
 have hwD:IntKind.i64.wrap ((d:Int)+1)=(D:Int):=by rw [IntWalk.i64_in _ (by omega)];omega
 have hDle:D≤65:=by omega
 have hDn:65≤N0+D:=by omega
 rw [← HM1.out] at hR
 have HR:=Lib.hid hR
 have Ih:=Lib.hid ih
 have HfR:=Lib.hid hfine
 have HK16:=Lib.hid hK16
 have HK32:=Lib.hid hK32
 have hat:=fun (a:Option Addr) (c:Nat) (x:World)=>run_arrayAt (P:=Try.prog) (t:=69) (e:=5) (n:=32) Try.underlying69 a 32 c (Nat.le_refl _) x
 clear hmiss hhit hKl Gn Qn hw1 hK hn hl hw hq hqk hqk2 hqs hqn HTq C hbb hr hd hpn hvn hKn hD hR ih hfine hK16 hK32 hnd
 go_enter Try.func83,Try.ntmps83
 go_wp2_with fail
 rw [show (w.alloc (.cells K.toArray 69)).alloc (.cells #[.int .i64 0,.slice none 0 0,.slice none 0 0,.slice none 0 0] 25)=w1 from Hw1.out.symm]
 go_loopw [8] (fun ix wr=>∃ k:Nat,k≤K0∧ix=.int .i64 (k:Int)∧Below w1.heap.size w1 wr) (fun ix _=>K0 - (intOf ix).toNat)
 case atStart=>exact ⟨0,by omega,rfl,Below.refl _ _⟩
 case round =>
  obtain ⟨k,hk,rfl,bwr⟩:=hrel
  have Fr:=FV.out wr (Below.then hbel bwr)
  have c0:=Fr.hz.cell 0
  simp only [viC,List.getElem?_cons_zero] at c0
  have g0:=fun u:Ext wr=>u.cell c0
  have rhw:wr.rangeAt w.heap.size 0 K:=World.rangeAt.below rh (bwr)
  by_cases hlt:k<K0
  ·have hkn:k<ps.length:=by have:=Hn.out;omega
   have hzN:k<n:=by have:=Hn.out;omega
   have hz:(k:Int)<(n:Int):=by omega
   have hwk:IntKind.i64.wrap ((k:Int)+1)=((k+1:Nat):Int):=by rw [IntWalk.i64_in _ (by omega)];omega
   obtain ⟨sb,so,hsa,rr⟩:=RowOf.range hq32_len Fr.ho.row k (by rw [List.length_map];exact hkn)
   subst hsa
   obtain ⟨L,hL⟩:∃ L,L=sumB ps[k].2:=⟨_,rfl⟩
   have hLl:L.length=32:=by rw [hL];exact outB_len _
   rw [List.getElem_map,← hL,hq32_eq hLl] at rr
   have hne:=Hmiss.out k hlt hkn
   rw [← hL] at hne
   have Gk:=HGn.out L
   have Qk:=HQn.out L hLl
   rw [show (L == h)=false from beq_eq_false_iff_ne.2 hne] at Qk
   obtain ⟨LC,hLC⟩:∃ LC,LC=L.map u8v:=⟨_,rfl⟩
   have hLCl:LC.length=32:=by rw [hLC,List.length_map];exact hLl
   simp only [← hLC] at rr Gk Qk
   have HLCl:=Lib.hid hLCl
   clear hne hLl hL hLC hLCl
   go_wp2_with fail
   refine wp_region_typed wr 18 (by kernel_rfl) (by kernel_rfl) (Below.refl _ _) ?_;simp only [List.take_succ_cons,List.take_zero,List.take_nil]
   iterate 14 (refine wpX_step (by rfl) (fun K hK=>?_);go_simp;first|(refine hK _ ?_;clear hK K)|(apply Exists.intro;refine ⟨fun _=>?_,hK _ ?_⟩;fail;clear hK K))
   (refine wpX_step (by rfl) (fun K hK=>?_);rw [if_pos (by rfl)];refine ⟨_,fun u=>const_loadm _ (.tmp 34) (by rfl) _ _ (by rfl) aggHash' HLCl.out (rangeAt.ext rr u),hK _ ?_⟩;clear hK K;simp only [Act.put,List.setIfInBounds_toArray,List.set_cons_zero,List.set_cons_succ])
   (refine wpX_step (by rfl) (fun K hK=>?_);rw [if_pos (by rfl)];refine ⟨_,fun u=>const_loadm _ (.tmp 4) (by rfl) _ _ (by rfl) aggHash' HKl.out (rangeAt.ext rhw u),hK _ ?_⟩;clear hK K;simp only [Act.put,List.setIfInBounds_toArray,List.set_cons_zero,List.set_cons_succ])
   (refine wpX_step (by rfl) (fun K hK=>?_);rw [if_pos (by rfl)];refine ⟨_,fun u=>const_neq _ _ _ _ (by rfl) (by rfl) (by rfl) (fun o1 o2 w1=>Gk o1 o2 w1) (fun w1=>Qk w1),hK _ ?_⟩;clear hK K;simp only [Act.put,List.setIfInBounds_toArray,List.set_cons_zero,List.set_cons_succ])
   (refine wpX_step (by rfl) (fun K hK=>?_);go_simp;first|(refine hK _ ?_;clear hK K)|(apply Exists.intro;refine ⟨fun _=>?_,hK _ ?_⟩;fail;clear hK K))
   refine wpX_nil ?_
   intro y hy
   change forallRel y [] _ _
   simp only [forallRel,List.drop_succ_cons,List.drop_zero,List.drop_nil]
   go_wp2_with fail
   go_roundw
   case rel=>exact ⟨k+1,by omega,by go_num,Below.then bwr hy⟩
   case measure=>simp [intOf];omega
  ·obtain rfl:k=K0:=by omega
   have hkn:k<ps.length:=by have:=Hn.out;omega
   have hzN:k<n:=by have:=Hn.out;omega
   have hz:(k:Int)<(n:Int):=by omega
   have hzn:((k:Int) == (n:Int))=false:=beq_eq_false_iff_ne.2 (by omega)
   obtain ⟨sb,so,hsa,rr⟩:=RowOf.range hq32_len Fr.ho.row k (by rw [List.length_map];exact hkn)
   subst hsa
   obtain ⟨L,hL⟩:∃ L,L=sumB ps[k].2:=⟨_,rfl⟩
   have hLl:L.length=32:=by rw [hL];exact outB_len _
   rw [List.getElem_map,← hL,hq32_eq hLl] at rr
   have hne:=Hhit.out hkn
   rw [← hL] at hne
   have Gk:=HGn.out L
   have Qk:=HQn.out L hLl
   rw [show (L == h)=true from beq_iff_eq.2 hne] at Qk
   obtain ⟨LC,hLC⟩:∃ LC,LC=L.map u8v:=⟨_,rfl⟩
   have hLCl:LC.length=32:=by rw [hLC,List.length_map];exact hLl
   simp only [← hLC] at rr Gk Qk
   have HLCl:=Lib.hid hLCl
   clear hne hLl hL hLC hLCl
   go_wp2_with fail
   refine wp_region_typed wr 18 (by kernel_rfl) (by kernel_rfl) (Below.refl _ _) ?_;simp only [List.take_succ_cons,List.take_zero,List.take_nil]
   iterate 14 (refine wpX_step (by rfl) (fun K hK=>?_);go_simp;first|(refine hK _ ?_;clear hK K)|(apply Exists.intro;refine ⟨fun _=>?_,hK _ ?_⟩;fail;clear hK K))
   (refine wpX_step (by rfl) (fun K hK=>?_);rw [if_pos (by rfl)];refine ⟨_,fun u=>const_loadm _ (.tmp 34) (by rfl) _ _ (by rfl) aggHash' HLCl.out (rangeAt.ext rr u),hK _ ?_⟩;clear hK K;simp only [Act.put,List.setIfInBounds_toArray,List.set_cons_zero,List.set_cons_succ])
   (refine wpX_step (by rfl) (fun K hK=>?_);rw [if_pos (by rfl)];refine ⟨_,fun u=>const_loadm _ (.tmp 4) (by rfl) _ _ (by rfl) aggHash' HKl.out (rangeAt.ext rhw u),hK _ ?_⟩;clear hK K;simp only [Act.put,List.setIfInBounds_toArray,List.set_cons_zero,List.set_cons_succ])
   (refine wpX_step (by rfl) (fun K hK=>?_);rw [if_pos (by rfl)];refine ⟨_,fun u=>const_neq _ _ _ _ (by rfl) (by rfl) (by rfl) (fun o1 o2 w1=>Gk o1 o2 w1) (fun w1=>Qk w1),hK _ ?_⟩;clear hK K;simp only [Act.put,List.setIfInBounds_toArray,List.set_cons_zero,List.set_cons_succ])
   (refine wpX_step (by rfl) (fun K hK=>?_);go_simp;first|(refine hK _ ?_;clear hK K)|(apply Exists.intro;refine ⟨fun _=>?_,hK _ ?_⟩;fail;clear hK K))
   refine wpX_nil ?_
   intro y hy
   change forallRel y [] _ _
   simp only [forallRel,List.drop_succ_cons,List.drop_zero,List.drop_nil]
   have by0:=Below.then bwr hy
   have by1:=Below.then hbel by0
   have Fy:=FV.out y by1
   have c0y:=Fy.hz.cell 0
   have c2y:=Fy.hz.cell 2
   simp only [viC,List.getElem?_cons_zero,List.getElem?_cons_succ] at c0y c2y
   have hz6y:=hz6.kept by0
   have hgf:=Fy.hz.free 2
   obtain ⟨y1,hy1⟩:∃ y1,y1=y.setCell ⟨g,2,none⟩ (.int .i64 (M1:Int)):=⟨_,rfl⟩
   have z1:Blk 171 y1 g (viC (.slice (some ⟨sb,so,none⟩) n sc) (.slice aa n ac) M1):=by rw [hy1];exact Fy.hz.set 2 _
   have gy:y.grownBy y1 (some g):=by rw [hy1];exact grown_cell 2 _
   have F1:=Fy.turn z1 gy
   have G1:w.grownBy y1 (some g):=gb_then (gb_of by1 _) gy (fun k hk=>.inl (by cases hk;rfl))
   have hzy1:Blk 25 y1 (w.heap.size+1) (ndcells zN):=hz6y.grown gy (by simp;omega)
   have sy1:y1.heap.size=y.heap.size:=by rw [hy1];simp
   have szy:w.heap.size+2≤y1.heap.size:=by have:=by0.size;omega
   have C2:=C1.out y1 F1.hw
   have c1y:=Fy.hz.cell 1
   have c1y1:=F1.hz.cell 1
   simp only [viC,List.getElem?_cons_zero,List.getElem?_cons_succ] at c1y c1y1
   obtain ⟨ab,ao,haa,hc⟩:=(Fy.hT.1.below Fy.hw).cells (f:=tcell) (size:=1) (fun _=>rfl) k hkn
   have hce:y.cell? ⟨ab,ao+k,none⟩=some (.slice qa qn qc):=by have:=hc 0 _ rfl;rw [← Hqk.out hkn];simpa using this
   obtain ⟨ab',ao',haa',hc'⟩:=(F1.hT.1.below F1.hw).cells (f:=tcell) (size:=1) (fun _=>rfl) k hkn
   have hce1:y1.cell? ⟨ab',ao'+k,none⟩=some (.slice qa qn qc):=by have:=hc' 0 _ rfl;rw [← Hqk.out hkn];simpa using this
   subst haa
   simp only [Option.some.injEq,Addr.mk.injEq,and_true] at haa'
   obtain ⟨rfl,rfl⟩:=haa'
   rw [hy1] at c1y1 hce1
   clear hc hc'
   go_wp2_with (first
    | (go_at_call 142;rw [← hy1];(with_reducible refine C2.mono ?_);rintro e w4 ⟨pa,pc,va,vc,ka,kc,ps4,rfl,b4,i1,i2,i3,i4⟩;have F4:=F1.kept b4;have G4:=gb_below G1 b4 (by omega);have hz4:=hzy1.kept b4;have s4:=b4.size;have z4:=F4.hz;have hww:w.heap.size+1<w4.heap.size:=(by omega);have bA:=(Below.refl w4.heap.size w4).alloc (Nat.le_refl _) (.cells #[.int .i64 3,.slice pa pn pc,.slice va vn vc,.slice ka 16 kc] 250);have bB:=bA.alloc (by simp) (.cells #[.int .i64 3,.slice pa pn pc,.slice va vn vc,.slice none 0 0] 25);have nB:=Blk.new (w4.alloc (.cells #[.int .i64 3,.slice pa pn pc,.slice va vn vc,.slice ka 16 kc] 250)) 25 [.int .i64 3,.slice pa pn pc,.slice va vn vc,.slice none 0 0];(simp only [World.size_alloc] at nB);have F0:LoopV ps W0 (some ⟨sb,so,none⟩) sc (some ⟨ab,ao,none⟩) ac n B0 g w w4 3 (.slice pa pn pc) (.slice va vn vc) (.slice ka 16 kc) (.slice none 0 0) (.slice none 0 0) [] M1 ((w4.alloc (.cells #[.int .i64 3,.slice pa pn pc,.slice va vn vc,.slice ka 16 kc] 250)).alloc (.cells #[.int .i64 3,.slice pa pn pc,.slice va vn vc,.slice none 0 0] 25)):=⟨F4.kept bB,(Blk.new w4 250 [.int .i64 3,.slice pa pn pc,.slice va vn vc,.slice ka 16 kc]).alloc _,nB,hz4.kept bB,OwnOf.nil _ _ _ _ _,Clean.nil _,(by simp),(by simp),gb_of bB _,gb_below G4 bB (by omega)⟩)
    | ((with_reducible show wpList _ _ _ (⟨some 116,_,_,_,_,_⟩::_) _ _);refine wpList_makeNd (o:=⟨some 116,_,_,_,_,_⟩) (by rfl) (.const (.int .i64 16)) (.const (.int .i64 16)) (by rfl) (by rfl) (by rfl) (Below.refl 0 _) (Nat.zero_le _) ?_;intro w5 hR5 _ b5;have sU:((w4.alloc (.cells #[.int .i64 3,.slice pa pn pc,.slice va vn vc,.slice ka 16 kc] 250)).alloc (.cells #[.int .i64 3,.slice pa pn pc,.slice va vn vc,.slice none 0 0] 25)).heap.size=w4.heap.size+2:=(by simp);rw [sU] at hR5;have F1:=F0.row hgl hww hW0 (ts':=List.replicate 16 zN) (fun x hx=>by rw [List.eq_of_mem_replicate hx];exact ⟨IsNd.zeroN _,KdIn.zero _⟩) (Blk.own (B:=w4.heap.size+2) hR5 16 ndcells_len (by simp) (by omega) (by unfold maxLen;omega)) (gb_of b5 _) (fun k hk=>.inr (by simp only [Value.ownBlock,Option.some.injEq] at hk;rw [sU];omega)) (clean_nd hR5 (fun x hx=>by rw [List.eq_of_mem_replicate hx];exact IsNd.zeroN w5));obtain ⟨x5,hx5⟩:=F1.hn.has 3 (by simp);have hf5:=F1.hn.free 3;have F2:=F1.cell hgl hww hW0 (.slice (some ⟨w4.heap.size+2,0,none⟩) 16 16);have s2:=F2.hs.cell 3;simp only [List.getElem?_cons_succ,List.getElem?_cons_zero] at s2))
   have S4:=Lib.hid i4
   have hps:ps4.length=16:=i3.1.fits.1.symm
   have szz:=F2.hn.lt
   clear i4
   obtain ⟨wo,rfl⟩:∃ x,x=wr:=⟨wr,rfl⟩
   go_loopw [121] (fun ix wr=>∃ (k:Nat) (ts:List Nd) (mi:Nat),k≤16∧ts.length=16∧mi≤4096∧ix=.int .i64 (k:Int)∧kidsL f D KK M1 []=kidsL f D (KK.drop k) mi ((ts.take k).map erN)∧(∀ x∈ts.drop k,x=zN)∧LoopV ps W0 (some ⟨sb,so,none⟩) sc (some ⟨ab,ao,none⟩) ac n B0 g w w4 3 (.slice pa pn pc) (.slice va vn vc) (.slice ka 16 kc) (.slice (some ⟨w4.heap.size+2,0,none⟩) 16 16) (.slice (some ⟨w4.heap.size+2,0,none⟩) 16 16) ts mi wr) (fun ix _=>16 - (intOf ix).toNat)
   case atStart=>exact ⟨0,List.replicate 16 zN,M1,by omega,by simp,hM2,rfl,by simp,fun x hx=>List.eq_of_mem_replicate (List.mem_of_mem_drop hx),F2⟩
   case round =>
    clear F0 F1 F2 s2 hx5 hf5 szz
    rename_i ws _
    obtain ⟨k,ts,mi,hk,hts,hmi,rfl,heq,hzs,F⟩:=hrel
    have hnl:=F.hn.lt
    by_cases hlt:k<16
    ·have hz:(k:Int)<16:=by omega
     have T:=F.texts z4 i3
     have hkl:k<ps4.length:=by omega
     obtain ⟨kb,koff,hka,hc⟩:=T.1.cells (f:=tcell) (size:=1) (fun _=>rfl) k hkl
     have hc0:wr.cell? ⟨kb,koff+k,none⟩=some ps4[k].1:=by have:=hc 0 _ rfl;simpa using this
     have hq:=T.2 ps4[k] (List.getElem_mem _)
     obtain ⟨hdr,hmem⟩:=elem_at S4.out hkl
     obtain ⟨X,hX⟩:∃ X,X=ps4[k]:=⟨_,rfl⟩
     rw [← hX] at hc0 hq hdr hmem
     clear hX hc T
     obtain ⟨xv,xl⟩:=X
     obtain ⟨xa,xc,hxv,_⟩:=RowOf.form hq
     dsimp only at hxv hdr hmem hc0 hq
     subst hxv
     subst hka
     have h32:=HK32.out xl hmem
     rw [hdr] at heq
     have hkb:=World.block_lt_of_cell? wr _ hc0
     have hwk:IntKind.i64.wrap ((k:Int)+1)=((k+1:Nat):Int):=by rw [IntWalk.i64_in _ (by omega)];omega
     clear hdr hmem
     by_cases hx:xl=[]
     ·subst hx
      rw [kidsL_hole] at heq
      have hzk:ts[k]=zN:=hzs _ (by rw [List.drop_eq_getElem_cons (by omega)];exact List.mem_cons_self)
      have Hzk:=Lib.hid hzk
      have Heq:=Lib.hid heq
      simp only [List.length_nil] at hc0 hq
      clear heq h32 hq hzk
      go_wp2_with fail
      go_roundw
      case rel=>exact ⟨k+1,ts,mi,by omega,hts,hmi,by go_num,by rw [Heq.out,List.take_succ_eq_append_getElem (by omega),List.map_append,Hzk.out];rfl,fun x hx=>hzs x (by rw [List.drop_eq_getElem_cons (by omega)];exact List.mem_cons_of_mem _ hx),F⟩
      case measure=>simp [intOf];omega
     ·have hxl:xl.length=32:=h32.resolve_left hx
      rw [hxl] at hq hc0
      cases xa with
      | none=>exact absurd (row_none hq) (by omega)
      | some xp =>
      obtain ⟨xb,xo,xs⟩:=xp
      obtain ⟨rfl,hrng⟩:=bytes_range hq (by omega)
      have hXl:(xl.map u8v).length=32:=by rw [List.length_map];exact hxl
      obtain ⟨R5,hR5⟩:∃ R5,R5=f xl D mi:=⟨_,rfl⟩
      have CI:=Ih.out xl D mi wr hxl hDn (by omega) hmi F.ld
      have hf5:=HfR.out xl D mi hmi
      rw [← hR5] at CI hf5
      have c3:=F.hn.cell 3
      simp only [List.getElem?_cons_succ,List.getElem?_cons_zero] at c3
      obtain ⟨X,hX⟩:∃ X,X=xl.map u8v:=⟨_,rfl⟩
      rw [← hX] at CI hrng hXl
      by_cases hE:R5.1=0
      ·have hkg:=kidsL_good f D mi ((ts.take k).map erN) xl (KK.drop (k+1)) hx (by rw [← hR5];exact hE)
       rw [← hR5] at hkg
       rw [hkg] at heq
       have Heq:=Lib.hid heq
       obtain ⟨E5,P5,m5⟩:=R5
       dsimp only at hE
       subst hE
       have CI2:=Lib.hid CI
       have Hf5:=Lib.hid hf5
       have Hzs:=Lib.hid hzs
       clear heq hkg hR5 CI hf5 h32 hx hX hq hxl hzs
       go_wp2_with (first
        | ((with_reducible show wpList _ _ _ (⟨some 133,_,_,_,_,_⟩::_) _ _);refine wpList_loadW (o:=⟨some 133,_,_,_,_,_⟩) 69 (.tmp 132) (by rfl) xb xo (by rfl) aggHash' hXl hrng (by rfl) ?_)
        | (go_at_call 83;(with_reducible refine CI2.out.mono ?_);rintro e w5 ⟨t5,rfl,i5,e5,k5,l5,g5⟩;have n5:=i5.one;have t5l:=ndcells_len t5)
        | ((with_reducible show wpList _ _ _ (⟨none,Op.store _ _ (Operand.tmp 137),_,_,_,_⟩::_) _ _);refine wpList_storeA (o:=⟨none,_,_,_,_,_⟩) (by rfl) 25 (.tmp 16) (.tmp 137) (by rfl) w5.heap.size (ndcells t5) (by rfl) (by rfl) aggNode (Blk.new w5 25 (ndcells zN)) t5l (by rfl) n5 ((Below.refl w5.heap.size w5).alloc (Nat.le_refl _) _) (Nat.le_refl _) ?_;intro w6 h6 b6 _;obtain ⟨F6,i6,k6⟩:=F.kid hgl hww hW0 l5 g5 i5 k5 b6;have c6:=F6.hn.cell 3;(simp only [List.getElem?_cons_succ,List.getElem?_cons_zero] at c6);have hth:=F6.there k hlt;have hsz4:(ndcells t5).toArray.size=4:=(by rw [List.size_toArray,t5l]);have F7:=F6.elem hgl hww hW0 k hlt i6 k6)
        | ((with_reducible show wpList _ _ _ (⟨some 146,_,_,_,_,_⟩::_) _ _);refine wpList_loadA (o:=⟨some 146,_,_,_,_,_⟩) (by rfl) 25 (.tmp 16) (by rfl) w5.heap.size (by rfl) aggNode h6 t5l ?_)
        | ((with_reducible show wpList _ _ _ (⟨none,Op.store _ _ (Operand.tmp 146),_,_,_,_⟩::_) _ _);refine wpList_store_mid (by rfl) 25 (.tmp 147) (.tmp 146) (by rfl) (w4.heap.size+2) (k * 4) (ndcells t5).toArray (by rfl) (by rfl) (by rw [hsz4];exact hth) (by rw [hsz4];kernel_rfl) (all_oneCell_toArray n5) ?_))
       go_roundw
       case rel=>exact ⟨k+1,ts.set k t5,m5,by omega,by rw [List.length_set];exact hts,Hf5.out.2.1,by go_num,by rw [Heq.out,take_set (by omega),List.map_append];simp only [List.map_cons,List.map_nil];rw [e5 (by trivial)],fun x hx=>Hzs.out x (by rw [drop_set] at hx;rw [List.drop_eq_getElem_cons (by omega)];exact List.mem_cons_of_mem _ hx),F7⟩
       case measure=>simp [intOf];omega
      ·have hkg:=kidsL_bad f D mi ((ts.take k).map erN) xl (KK.drop (k+1)) hx (by rw [← hR5];exact hE)
       rw [← hR5] at hkg
       rw [hkg] at heq
       have hRR:R=(R5.1,zP,R5.2.2):=by rw [HR.out,heq];unfold ofKids;rw [if_neg hE]
       obtain ⟨E5,P5,m5⟩:=R5
       dsimp only at hE hRR
       have HRR:=Lib.hid hRR
       have CI2:=Lib.hid CI
       clear heq hkg hR5 CI hf5 h32 hx hX hq hxl hRR hzs
       go_wp2_with (first
        | ((with_reducible show wpList _ _ _ (⟨some 133,_,_,_,_,_⟩::_) _ _);refine wpList_loadW (o:=⟨some 133,_,_,_,_,_⟩) 69 (.tmp 132) (by rfl) xb xo (by rfl) aggHash' hXl hrng (by rfl) ?_)
        | (go_at_call 83;(with_reducible refine CI2.out.mono ?_);rintro e w5 ⟨t5,rfl,i5,e5,k5,l5,g5⟩;have n5:=i5.one;have t5l:=ndcells_len t5)
        | ((with_reducible show wpList _ _ _ (⟨none,Op.store _ _ (Operand.tmp 137),_,_,_,_⟩::_) _ _);refine wpList_storeA (o:=⟨none,_,_,_,_,_⟩) (by rfl) 25 (.tmp 16) (.tmp 137) (by rfl) w5.heap.size (ndcells t5) (by rfl) (by rfl) aggNode (Blk.new w5 25 (ndcells zN)) t5l (by rfl) n5 ((Below.refl w5.heap.size w5).alloc (Nat.le_refl _) _) (Nat.le_refl _) ?_;intro w6 h6 b6 _;obtain ⟨F6,i6,k6⟩:=F.kid hgl hww hW0 l5 g5 i5 k5 b6)
        | ((with_reducible show wpList _ _ _ (⟨some 141,_,_,_,_,_⟩::_) _ _);refine wpList_loadA (o:=⟨some 141,_,_,_,_,_⟩) (by rfl) 25 (.tmp 11) (by rfl) (w4.heap.size+1) (by rfl) aggNode F6.hn (by rfl) ?_)
        | ((with_reducible show wpList _ _ _ (⟨none,Op.store _ _ (Operand.tmp 141),_,_,_,_⟩::_) _ _);refine wpList_storeA (o:=⟨none,_,_,_,_,_⟩) (by rfl) 25 (.tmp 6) (.tmp 141) (by rfl) (w.heap.size+1) [.int .i64 3,.slice pa pn pc,.slice va vn vc,.slice (some ⟨w4.heap.size+2,0,none⟩) 16 16] (by rfl) (by rfl) aggNode F6.h6 (by rfl) (by rfl) (by intro u hu;simp at hu;rcases hu with rfl|rfl|rfl|rfl <;> rfl) (Below.refl 0 _) (Nat.zero_le _) ?_;intro w7 h7 _ g7))
       exact bodyPost_ret (v:=.tuple #[.agg #[.int .i64 3,.slice pa pn pc,.slice va vn vc,.slice (some ⟨w4.heap.size+2,0,none⟩) 16 16],.int .i64 E5]) (results_blk_tmp rfl _ _ (w.heap.size+1) aggNode h7 (by rfl) rfl rfl) rfl (by have:=F6.done (R:=R) hgl hww hW0 z4 i1 i2 g7 (fun e=>absurd (by rw [HRR.out] at e;exact e) hE) (by rw [HRR.out]);rw [show R.1=E5 by rw [HRR.out]] at this;exact this)
    ·obtain rfl:k=16:=by omega
     have hz:¬ ((16:Nat):Int)<16:=by omega
     have hRR:R=(0,.mk 3 pp vb (ts.map erN),mi):=by rw [HR.out,heq,List.drop_eq_nil_of_le (by rw [HK16.out];exact Nat.le_refl _),kidsL_empty,List.take_of_length_le (by omega)];unfold ofKids;rw [if_pos rfl]
     have HRR:=Lib.hid hRR
     clear hRR heq hzs
     go_wp2_with (first
      | ((with_reducible show wpList _ _ _ (⟨some 149,_,_,_,_,_⟩::_) _ _);refine wpList_loadA (o:=⟨some 149,_,_,_,_,_⟩) (by rfl) 25 (.tmp 11) (by rfl) (w4.heap.size+1) (by rfl) aggNode F.hn (by rfl) ?_)
      | ((with_reducible show wpList _ _ _ (⟨none,Op.store _ _ (Operand.tmp 149),_,_,_,_⟩::_) _ _);refine wpList_storeA (o:=⟨none,_,_,_,_,_⟩) (by rfl) 25 (.tmp 6) (.tmp 149) (by rfl) (w.heap.size+1) [.int .i64 3,.slice pa pn pc,.slice va vn vc,.slice (some ⟨w4.heap.size+2,0,none⟩) 16 16] (by rfl) (by rfl) aggNode F.h6 (by rfl) (by rfl) (by intro u hu;simp at hu;rcases hu with rfl|rfl|rfl|rfl <;> rfl) (Below.refl 0 _) (Nat.zero_le _) ?_;intro w7 h7 _ g7))
     exact bodyPost_ret (v:=.tuple #[.agg #[.int .i64 3,.slice pa pn pc,.slice va vn vc,.slice (some ⟨w4.heap.size+2,0,none⟩) 16 16],.int .i64 0]) (results_blk_tmp rfl _ _ (w.heap.size+1) aggNode h7 (by rfl) rfl rfl) rfl (by have:=F.done (R:=R) hgl hww hW0 z4 i1 i2 g7 (fun e=>by rw [HRR.out]) (by rw [HRR.out]);rw [show R.1=0 by rw [HRR.out]] at this;exact this)
end Go.Proofs.Ytakhaanenlblmaa
