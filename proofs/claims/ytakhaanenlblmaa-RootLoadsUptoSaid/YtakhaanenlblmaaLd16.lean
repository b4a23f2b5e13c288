/- come: a road. -/
import Derived.Test.YtakhaanenlblmaaLd15
set_option linter.unusedSimpArgs false
set_option linter.unusedVariables false
namespace Go.Proofs.Ytakhaanenlblmaa
open Go.RowKit
def RoadS (z kb ko xb xo:Nat) (kc xc:Nat) (X:List Value) (pv:Value) (u:World):Prop:=u.cell? ⟨z,3,none⟩=some (.slice (some ⟨kb,ko,none⟩) 1 kc)∧u.cell? ⟨kb,ko,none⟩=some (.slice (some ⟨xb,xo,none⟩) 32 xc)∧u.rangeAt xb xo X∧u.cell? ⟨z,1,none⟩=some pv
theorem RoadS.kept {z kb ko xb xo kc xc:Nat} {X:List Value} {pv:Value} {u u':World} (h:RoadS z kb ko xb xo kc xc X pv u) (hb:Below u.heap.size u u'):RoadS z kb ko xb xo kc xc X pv u':=by
 obtain ⟨h1,h2,h3,h4⟩:=h
 exact ⟨by rw [hb.cell (World.block_lt_of_cell? u _ h1)];exact h1,by rw [hb.cell (World.block_lt_of_cell? u _ h2)];exact h2,World.rangeAt.below h3 hb,by rw [hb.cell (World.block_lt_of_cell? u _ h4)];exact h4⟩
theorem road_S {ps:List (Value × List UInt8)} {W0:World} {sa:Option Addr} {sc:Nat} {aa:Option Addr} {ac n B0 g:Nat} {w w4:World} {kd:Int} {pv vv:Value} {cv kv:Value} {ts:List Nd} {m m4:Nat} {u:World} {kb ko kc xb xo xc:Nat} {k:List UInt8} (h:LoopV ps W0 sa sc aa ac n B0 g w w4 kd pv vv (.slice (some ⟨kb,ko,none⟩) 1 kc) cv kv ts m u) (hz:Blk 171 w4 g (viC (.slice sa n sc) (.slice aa n ac) m4)) (hT:Texts w4 (.slice (some ⟨kb,ko,none⟩) 1 kc) [(.slice (some ⟨xb,xo,none⟩) 32 xc,k)]):RoadS w4.heap.size kb ko xb xo kc xc (k.map u8v) pv u:=by
 have T:=h.texts hz hT
 obtain ⟨b,o,hka,hc⟩:=T.1.cells (f:=tcell) (size:=1) (fun _=>rfl) 0 (by simp)
 simp only [Option.some.injEq,Addr.mk.injEq,and_true] at hka
 obtain ⟨rfl,rfl⟩:=hka
 have hc0:=hc 0 _ rfl
 have hb:=bytes_range (T.2 _ (List.mem_singleton.2 rfl)) (by omega)
 exact ⟨h.hs.cell 3,by simpa using hc0,hb.2,h.hs.cell 1⟩
theorem one_text {w:World} {a:Option Addr} {n c:Nat} {ps:List (Value × List UInt8)} {k:List UInt8} (h:Texts w (.slice a n c) ps) (hk:ps.map (·.2)=[k]) (h32:k.length=32):∃ kb ko xb xo xc,a=some ⟨kb,ko,none⟩∧n=1∧ps=[(.slice (some ⟨xb,xo,none⟩) 32 xc,k)]:=by
 match ps,hk with
 | [(v,k')],hk =>
  simp only [List.map_cons,List.map_nil,List.cons.injEq,and_true] at hk
  subst hk
  have hn:=h.1.fits.1
  obtain ⟨b,o,rfl,_⟩:=h.1.cells (f:=tcell) (size:=1) (fun _=>rfl) 0 (by simp)
  have hv:=h.2 _ (List.mem_singleton.2 rfl)
  dsimp only at hv
  obtain ⟨xa,xc,rfl,_⟩:=RowOf.form hv
  rw [h32] at hv ⊢
  cases xa with
  | none=>exact absurd (row_none hv) (by omega)
  | some x =>
   obtain ⟨xb,xo,xs⟩:=x
   obtain ⟨rfl,_⟩:=bytes_range hv (by omega)
   exact ⟨b,o,xb,xo,xc,rfl,hn,rfl⟩
set_option maxHeartbeats 8000000 in
set_option maxRecDepth 100000 in
theorem come_road (ps:List (Value × List UInt8)) (W0:World) (sa:Option Addr) (sc:Nat) (aa:Option Addr) (ac n B0 g m d:Nat) (hn:ps.length=n) (hns:n≤1048576) (h:List UInt8) (hl:h.length=32) (hbb:∀ q∈ps,q.2.length≤1048576) (hd:d≤64) (hm:m<4096) (q:Value × List UInt8) (hq:firstQ ps h=some q) (kd:Int) (pp vb:List UInt8) (KK:List (List UInt8)) (hr:rdB q.2=some (kd,pp,vb,KK)) (hlen:pp.length≤4194304∧vb.length≤1048576∧KK.length≤1048576) (N0:Nat) (f:List UInt8→Nat→Nat→Ldr) (hfine:FineF f) (ih:∀ (h:List UInt8) (d m:Nat) (w:World),h.length=32→65≤N0+d→d≤5000000→m≤4096→ViW ps W0 sa sc aa ac n B0 g m w→Calls Try.prog 83 #[.pointer (some ⟨g,0,none⟩),.agg (h.map u8v).toArray,.int .i64 (d:Int)] w (CmPost (f h d m) ps W0 sa sc aa ac n B0 g w)) (hnd:65≤N0+1+d) (hk:kd=2) (k1:List UInt8) (hKK:KK=[k1]) (hk32:k1.length=32) (hp1:1≤pp.length) (D:Nat) (hD:D=d+pp.length) (R:Ldr) (hR:R=ofKids kd pp vb (kidsL f D KK (m+1) [])) (w:World) (hw:ViW ps W0 sa sc aa ac n B0 g m w):Calls Try.prog 83 #[.pointer (some ⟨g,0,none⟩),.agg (h.map u8v).toArray,.int .i64 (d:Int)] w (CmPost R ps W0 sa sc aa ac n B0 g w):=by
 obtain ⟨K0,hK0,hqk,hqs,hmiss0⟩:=first_at hq
 have hmiss:∀ k (_:k<K0) (hk:k<ps.length),sumB (ps[k]).2≠h:=fun k h1 _=>hmiss0 k h1
 have hhit:∀ (hk:K0<ps.length),sumB (ps[K0]).2=h:=fun hk=>by rw [hqk];exact hqs
 clear hmiss0
 have HTq:=And.intro (hw.hT.2 q (first_mem hq).1) (hbb q (first_mem hq).1)
 obtain ⟨qv,qc0⟩:=q
 obtain ⟨qa,qc,hqv,_⟩:=RowOf.form HTq.1
 dsimp only at hqv HTq
 subst hqv
 obtain ⟨qn,hqn⟩:∃ n,n=qc0.length:=⟨_,rfl⟩
 rw [← hqn] at HTq
 have hqk2:∀ (hk:K0<ps.length),(ps[K0]).1=.slice qa qn qc:=fun hk=>by rw [hqk,hqn]
 have Hqk:=Lib.hid hqk2
 obtain ⟨K,hK⟩:∃ K,K=h.map u8v:=⟨_,rfl⟩
 have hKl:K.length=32:=by rw [hK,List.length_map];exact hl
 obtain ⟨w1,hw1⟩:∃ w1,w1=(w.alloc (.cells K.toArray 69)).alloc (.cells #[.int .i64 0,.slice none 0 0,.slice none 0 0,.slice none 0 0] 25):=⟨_,rfl⟩
 have hbel:Below w.heap.size w w1:=by rw [hw1];exact ((Below.refl _ _).alloc (Nat.le_refl _) _).alloc (by simp) _
 have hh:Blk 69 w1 w.heap.size K:=by rw [hw1];exact (Blk.new w _ _).alloc _
 have hz6:Blk 25 w1 (w.heap.size+1) (ndcells zN):=by
  have:=Blk.new (w.alloc (.cells K.toArray 69)) 25 (ndcells zN)
  simp only [World.size_alloc] at this
  rw [hw1];exact this
 have hsz1:w1.heap.size=w.heap.size+2:=by rw [hw1];simp
 have hgl:=hw.hz.lt
 have hgW:=hw.hg
 have hW0:=hw.hw.size
 have rh:=hh.all0
 have Gn:=fun (L:List UInt8) (o1 o2:Operand) (x:World)=>guard_ne_h L h o1 o2 x
 have Qn:=fun (L:List UInt8) (hL:L.length=32) (x:World)=>run_ne_h L h hL hl x
 simp only [← hK] at Gn Qn ⊢
 have Hw1:=Lib.hid hw1
 have HKl:=Lib.hid hKl
 have FV:=Lib.hid (fun (u:World) (hu:Below w.heap.size w u)=>hw.kept hu)
 have Hn:=Lib.hid hn
 have HGn:=Lib.hid Gn
 have HQn:=Lib.hid Qn
 have Hmiss:=Lib.hid hmiss
 obtain ⟨pn,hpn⟩:∃ n,n=pp.length:=⟨_,rfl⟩
 obtain ⟨vn,hvn⟩:∃ n,n=vb.length:=⟨_,rfl⟩
 obtain ⟨Kn,hKn⟩:∃ n,n=KK.length:=⟨_,rfl⟩
 have C:∀ (u:World) (hu:Below W0.heap.size W0 u),Calls Try.prog 142 #[.slice qa qn qc] u (fun e w'=>∃ (pa:Option Addr) (pc:Nat) (va:Option Addr) (vc:Nat) (ka:Option Addr) (kc:Nat) (ps4:List (Value × List UInt8)),e=.returned (.tuple #[.agg #[.int .i64 kd,.slice pa pn pc,.slice va vn vc,.slice ka Kn kc],.int .i64 0]) ∧
   Below u.heap.size u w'∧Bytes w' (.slice pa pn pc) pp∧Bytes w' (.slice va vn vc) vb∧Texts w' (.slice ka Kn kc) ps4∧ps4.map (·.2)=KK):=fun u hu=>by
  rw [hpn,hvn,hKn]
  refine Calls.mono (hread_any qa qn qc qc0 hqn.symm HTq.2 u (HTq.1.below hu)) (fun e w' h=>?_)
  dsimp only at hr
  rw [hr] at h
  exact rd_form h
 rw [← hpn,← hvn,← hKn] at hlen
 obtain ⟨l1,l2,l3⟩:=hlen
 have C1:=Lib.hid C
 have Hhit:=Lib.hid hhit
 have hzd:¬ (64:Int)<(d:Int):=by omega
 have hmm:¬ (4096:Int)≤(m:Int):=by omega
 obtain ⟨M1,hM1⟩:∃ n,n=m+1:=⟨_,rfl⟩
 have hwr:IntKind.i64.wrap ((m:Int)+1)=(M1:Int):=by rw [IntWalk.i64_in _ (by omega)];omega
 have hM2:M1≤4096:=by omega
 have HM1:=Lib.hid hM1
 clear hM1
 subst hk
 subst hKK
 rw [← hpn] at hp1 hD
 have hwD:IntKind.i64.wrap ((d:Int)+(pn:Int))=(D:Int):=by rw [IntWalk.i64_in _ (by omega)];omega
 have hDle:D≤5000000:=by omega
 have hDn:65≤N0+D:=by omega
 have hk1:k1≠[]:=fun e=>by rw [e] at hk32;simp at hk32
 rw [← HM1.out] at hR
 obtain ⟨R5,hR5⟩:∃ R5,R5=f k1 D M1:=⟨_,rfl⟩
 have hR1:R.1=R5.1∧R.2.2=R5.2.2∧(R.1=0→R.2.1=.mk 2 pp vb [R5.2.1]):=by
  rw [hR]
  by_cases h0:R5.1=0
  ·rw [kidsL_good f D M1 [] k1 [] hk1 (by rw [← hR5];exact h0),kidsL_empty,← hR5]
   unfold ofKids
   rw [if_pos rfl]
   exact ⟨h0.symm,rfl,fun _=>rfl⟩
  ·rw [kidsL_bad f D M1 [] k1 [] hk1 (by rw [← hR5];exact h0),← hR5]
   unfold ofKids
   rw [if_neg h0]
   exact ⟨rfl,rfl,fun e=>absurd e h0⟩
 have CI:=fun (u:World) (hu:ViW ps W0 sa sc aa ac n B0 g M1 u)=>ih k1 D M1 u hk32 hDn hDle hM2 hu
 rw [← hR5] at CI
 have CI2:=Lib.hid CI
 have HR1:=Lib.hid hR1
 have Hk32:=Lib.hid hk32
 obtain ⟨E5,P5,m5⟩:=R5
 dsimp only at HR1
 have hat:=fun (a:Option Addr) (c:Nat) (x:World)=>run_arrayAt (P:=Try.prog) (t:=69) (e:=5) (n:=32) Try.underlying69 a 32 c (Nat.le_refl _) x
 clear hmiss hhit hKl Gn Qn hw1 hK hn hl hw hq hqk hqk2 hqs hqn HTq C hbb hr hd hpn hvn hKn hD hk1 hR hR5 hR1 CI ih hfine hk32 hnd
 go_enter Try.func83,Try.ntmps83
 go_wp2_with fail
 rw [show (w.alloc (.cells K.toArray 69)).alloc (.cells #[.int .i64 0,.slice none 0 0,.slice none 0 0,.slice none 0 0] 25)=w1 from Hw1.out.symm]
 go_loopw [8] (fun ix wr=>∃ k:Nat,k≤K0∧ix=.int .i64 (k:Int)∧Below w1.heap.size w1 wr) (fun ix _=>K0 - (intOf ix).toNat)
 case atStart=>exact ⟨0,by omega,rfl,Below.refl _ _⟩
 case round =>
  obtain ⟨k,hk,rfl,bwr⟩:=hrel
  have Fr:=FV.out wr (Below.then hbel bwr)
  have c0:=Fr.hz.cell 0
  simp only [viC,List.getElem?_cons_zero] at c0
  have g0:=fun u:Ext wr=>u.cell c0
  have rhw:wr.rangeAt w.heap.size 0 K:=World.rangeAt.below rh (bwr)
  by_cases hlt:k<K0
  ·have hkn:k<ps.length:=by have:=Hn.out;omega
   have hzN:k<n:=by have:=Hn.out;omega
   have hz:(k:Int)<(n:Int):=by omega
   have hwk:IntKind.i64.wrap ((k:Int)+1)=((k+1:Nat):Int):=by rw [IntWalk.i64_in _ (by omega)];omega
   obtain ⟨sb,so,hsa,rr⟩:=RowOf.range hq32_len Fr.ho.row k (by rw [List.length_map];exact hkn)
   subst hsa
   obtain ⟨L,hL⟩:∃ L,L=sumB ps[k].2:=⟨_,rfl⟩
   have hLl:L.length=32:=by rw [hL];exact outB_len _
   rw [List.getElem_map,← hL,hq32_eq hLl] at rr
   have hne:=Hmiss.out k hlt hkn
   rw [← hL] at hne
   have Gk:=HGn.out L
   have Qk:=HQn.out L hLl
   rw [show (L == h)=false from beq_eq_false_iff_ne.2 hne] at Qk
   obtain ⟨LC,hLC⟩:∃ LC,LC=L.map u8v:=⟨_,rfl⟩
   have hLCl:LC.length=32:=by rw [hLC,List.length_map];exact hLl
   simp only [← hLC] at rr Gk Qk
   have HLCl:=Lib.hid hLCl
   clear hne hLl hL hLC hLCl
   go_wp2_with fail
   refine wp_region_typed wr 18 (by kernel_rfl) (by kernel_rfl) (Below.refl _ _) ?_;simp only [List.take_succ_cons,List.take_zero,List.take_nil]
   iterate 14 (refine wpX_step (by rfl) (fun K hK=>?_);go_simp;first|(refine hK _ ?_;clear hK K)|(apply Exists.intro;refine ⟨fun _=>?_,hK _ ?_⟩;fail;clear hK K))
   (refine wpX_step (by rfl) (fun K hK=>?_);rw [if_pos (by rfl)];refine ⟨_,fun u=>const_loadm _ (.tmp 34) (by rfl) _ _ (by rfl) aggHash' HLCl.out (rangeAt.ext rr u),hK _ ?_⟩;clear hK K;simp only [Act.put,List.setIfInBounds_toArray,List.set_cons_zero,List.set_cons_succ])
   (refine wpX_step (by rfl) (fun K hK=>?_);rw [if_pos (by rfl)];refine ⟨_,fun u=>const_loadm _ (.tmp 4) (by rfl) _ _ (by rfl) aggHash' HKl.out (rangeAt.ext rhw u),hK _ ?_⟩;clear hK K;simp only [Act.put,List.setIfInBounds_toArray,List.set_cons_zero,List.set_cons_succ])
   (refine wpX_step (by rfl) (fun K hK=>?_);rw [if_pos (by rfl)];refine ⟨_,fun u=>const_neq _ _ _ _ (by rfl) (by rfl) (by rfl) (fun o1 o2 w1=>Gk o1 o2 w1) (fun w1=>Qk w1),hK _ ?_⟩;clear hK K;simp only [Act.put,List.setIfInBounds_toArray,List.set_cons_zero,List.set_cons_succ])
   (refine wpX_step (by rfl) (fun K hK=>?_);go_simp;first|(refine hK _ ?_;clear hK K)|(apply Exists.intro;refine ⟨fun _=>?_,hK _ ?_⟩;fail;clear hK K))
   refine wpX_nil ?_
   intro y hy
   change forallRel y [] _ _
   simp only [forallRel,List.drop_succ_cons,List.drop_zero,List.drop_nil]
   go_wp2_with fail
   go_roundw
   case rel=>exact ⟨k+1,by omega,by go_num,Below.then bwr hy⟩
   case measure=>simp [intOf];omega
  ·obtain rfl:k=K0:=by omega
   have hkn:k<ps.length:=by have:=Hn.out;omega
   have hzN:k<n:=by have:=Hn.out;omega
   have hz:(k:Int)<(n:Int):=by omega
   have hzn:((k:Int) == (n:Int))=false:=beq_eq_false_iff_ne.2 (by omega)
   obtain ⟨sb,so,hsa,rr⟩:=RowOf.range hq32_len Fr.ho.row k (by rw [List.length_map];exact hkn)
   subst hsa
   obtain ⟨L,hL⟩:∃ L,L=sumB ps[k].2:=⟨_,rfl⟩
   have hLl:L.length=32:=by rw [hL];exact outB_len _
   rw [List.getElem_map,← hL,hq32_eq hLl] at rr
   have hne:=Hhit.out hkn
   rw [← hL] at hne
   have Gk:=HGn.out L
   have Qk:=HQn.out L hLl
   rw [show (L == h)=true from beq_iff_eq.2 hne] at Qk
   obtain ⟨LC,hLC⟩:∃ LC,LC=L.map u8v:=⟨_,rfl⟩
   have hLCl:LC.length=32:=by rw [hLC,List.length_map];exact hLl
   simp only [← hLC] at rr Gk Qk
   have HLCl:=Lib.hid hLCl
   clear hne hLl hL hLC hLCl
   go_wp2_with fail
   refine wp_region_typed wr 18 (by kernel_rfl) (by kernel_rfl) (Below.refl _ _) ?_;simp only [List.take_succ_cons,List.take_zero,List.take_nil]
   iterate 14 (refine wpX_step (by rfl) (fun K hK=>?_);go_simp;first|(refine hK _ ?_;clear hK K)|(apply Exists.intro;refine ⟨fun _=>?_,hK _ ?_⟩;fail;clear hK K))
   (refine wpX_step (by rfl) (fun K hK=>?_);rw [if_pos (by rfl)];refine ⟨_,fun u=>const_loadm _ (.tmp 34) (by rfl) _ _ (by rfl) aggHash' HLCl.out (rangeAt.ext rr u),hK _ ?_⟩;clear hK K;simp only [Act.put,List.setIfInBounds_toArray,List.set_cons_zero,List.set_cons_succ])
   (refine wpX_step (by rfl) (fun K hK=>?_);rw [if_pos (by rfl)];refine ⟨_,fun u=>const_loadm _ (.tmp 4) (by rfl) _ _ (by rfl) aggHash' HKl.out (rangeAt.ext rhw u),hK _ ?_⟩;clear hK K;simp only [Act.put,List.setIfInBounds_toArray,List.set_cons_zero,List.set_cons_succ])
   (refine wpX_step (by rfl) (fun K hK=>?_);rw [if_pos (by rfl)];refine ⟨_,fun u=>const_neq _ _ _ _ (by rfl) (by rfl) (by rfl) (fun o1 o2 w1=>Gk o1 o2 w1) (fun w1=>Qk w1),hK _ ?_⟩;clear hK K;simp only [Act.put,List.setIfInBounds_toArray,List.set_cons_zero,List.set_cons_succ])
   (refine wpX_step (by rfl) (fun K hK=>?_);go_simp;first|(refine hK _ ?_;clear hK K)|(apply Exists.intro;refine ⟨fun _=>?_,hK _ ?_⟩;fail;clear hK K))
   refine wpX_nil ?_
   intro y hy
   change forallRel y [] _ _
   simp only [forallRel,List.drop_succ_cons,List.drop_zero,List.drop_nil]
   have by0:=Below.then bwr hy
   have by1:=Below.then hbel by0
   have Fy:=FV.out y by1
   have c0y:=Fy.hz.cell 0
   have c2y:=Fy.hz.cell 2
   simp only [viC,List.getElem?_cons_zero,List.getElem?_cons_succ] at c0y c2y
   have hz6y:=hz6.kept by0
   have hgf:=Fy.hz.free 2
   obtain ⟨y1,hy1⟩:∃ y1,y1=y.setCell ⟨g,2,none⟩ (.int .i64 (M1:Int)):=⟨_,rfl⟩
   have z1:Blk 171 y1 g (viC (.slice (some ⟨sb,so,none⟩) n sc) (.slice aa n ac) M1):=by rw [hy1];exact Fy.hz.set 2 _
   have gy:y.grownBy y1 (some g):=by rw [hy1];exact grown_cell 2 _
   have F1:=Fy.turn z1 gy
   have G1:w.grownBy y1 (some g):=gb_then (gb_of by1 _) gy (fun k hk=>.inl (by cases hk;rfl))
   have hzy1:Blk 25 y1 (w.heap.size+1) (ndcells zN):=hz6y.grown gy (by simp;omega)
   have sy1:y1.heap.size=y.heap.size:=by rw [hy1];simp
   have szy:w.heap.size+2≤y1.heap.size:=by have:=by0.size;omega
   have C2:=C1.out y1 F1.hw
   have c1y:=Fy.hz.cell 1
   have c1y1:=F1.hz.cell 1
   simp only [viC,List.getElem?_cons_zero,List.getElem?_cons_succ] at c1y c1y1
   obtain ⟨ab,ao,haa,hc⟩:=(Fy.hT.1.below Fy.hw).cells (f:=tcell) (size:=1) (fun _=>rfl) k hkn
   have hce:y.cell? ⟨ab,ao+k,none⟩=some (.slice qa qn qc):=by have:=hc 0 _ rfl;rw [← Hqk.out hkn];simpa using this
   obtain ⟨ab',ao',haa',hc'⟩:=(F1.hT.1.below F1.hw).cells (f:=tcell) (size:=1) (fun _=>rfl) k hkn
   have hce1:y1.cell? ⟨ab',ao'+k,none⟩=some (.slice qa qn qc):=by have:=hc' 0 _ rfl;rw [← Hqk.out hkn];simpa using this
   subst haa
   simp only [Option.some.injEq,Addr.mk.injEq,and_true] at haa'
   obtain ⟨rfl,rfl⟩:=haa'
   rw [hy1] at c1y1 hce1
   clear hc hc'
   go_wp2_with (first
    | (go_at_call 142;rw [← hy1];(with_reducible refine C2.mono ?_);rintro e w4 ⟨pa,pc,va,vc,ka,kc,ps4,rfl,b4,i1,i2,i3,i4⟩;have F4:=F1.kept b4;have G4:=gb_below G1 b4 (by omega);have hz4:=hzy1.kept b4;have s4:=b4.size;have z4:=F4.hz;have hww:w.heap.size+1<w4.heap.size:=(by omega);have bA:=(Below.refl w4.heap.size w4).alloc (Nat.le_refl _) (.cells #[.int .i64 2,.slice pa pn pc,.slice va vn vc,.slice ka Kn kc] 250);have bB:=bA.alloc (by simp) (.cells #[.int .i64 2,.slice pa pn pc,.slice va vn vc,.slice none 0 0] 25);have nB:=Blk.new (w4.alloc (.cells #[.int .i64 2,.slice pa pn pc,.slice va vn vc,.slice ka Kn kc] 250)) 25 [.int .i64 2,.slice pa pn pc,.slice va vn vc,.slice none 0 0];(simp only [World.size_alloc] at nB);have F0:LoopV ps W0 (some ⟨sb,so,none⟩) sc (some ⟨ab,ao,none⟩) ac n B0 g w w4 2 (.slice pa pn pc) (.slice va vn vc) (.slice ka Kn kc) (.slice none 0 0) (.slice none 0 0) [] M1 ((w4.alloc (.cells #[.int .i64 2,.slice pa pn pc,.slice va vn vc,.slice ka Kn kc] 250)).alloc (.cells #[.int .i64 2,.slice pa pn pc,.slice va vn vc,.slice none 0 0] 25)):=⟨F4.kept bB,(Blk.new w4 250 [.int .i64 2,.slice pa pn pc,.slice va vn vc,.slice ka Kn kc]).alloc _,nB,hz4.kept bB,OwnOf.nil _ _ _ _ _,Clean.nil _,(by simp),(by simp),gb_of bB _,gb_below G4 bB (by omega)⟩))
   obtain ⟨kb,ko,xb,xo,xc,rfl,hK1,rfl⟩:=one_text i3 i4 Hk32.out
   subst hK1
   have hXl:(k1.map u8v).length=32:=by rw [List.length_map];exact Hk32.out
   obtain ⟨X,hX⟩:∃ X,X=k1.map u8v:=⟨_,rfl⟩
   rw [← hX] at hXl
   have HX:=Lib.hid hX
   have RS:Hid (∀ (m:Nat) (u:World),LoopV ps W0 (some ⟨sb,so,none⟩) sc (some ⟨ab,ao,none⟩) ac n B0 g w w4 2 (.slice pa pn pc) (.slice va vn vc) (.slice (some ⟨kb,ko,none⟩) 1 kc) (.slice none 0 0) (.slice none 0 0) [] m u→RoadS w4.heap.size kb ko xb xo kc xc X (.slice pa pn pc) u):=Lib.hid (fun m u hu=>by rw [HX.out];exact road_S hu z4 i3)
   clear hX i4
   refine wp_region_h (RoadS w4.heap.size kb ko xb xo kc xc X (.slice pa pn pc)) (by kernel_rfl) ?_;intro u0 hu0;simp only [List.length_cons,List.length_nil,Nat.reduceAdd,List.replicate_succ,List.replicate_zero]
   have FU:=F0.kept ((Below.refl _ _).drew)
   rw [← hu0] at FU
   clear hu0 F0
   have hS0:=RS.out M1 u0 FU
   have q0:=fun u:In (RoadS w4.heap.size kb ko xb xo kc xc X (.slice pa pn pc))=>u.held.1
   have q1:=fun u:In (RoadS w4.heap.size kb ko xb xo kc xc X (.slice pa pn pc))=>u.held.2.1
   have q3:=fun u:In (RoadS w4.heap.size kb ko xb xo kc xc X (.slice pa pn pc))=>u.held.2.2.2
   (refine wpH_take 0 (by rfl) (by kernel_rfl) (by intro _ _ _ h;first|exact h|(cases h.1)) (by intro _ _ _ _ h;first|exact h|(cases h.1)) (by assumption) (fun K hK=>?_);simp only [List.setIfInBounds_toArray,List.set_cons_zero,List.set_cons_succ] at hK;go_simp;first|(refine hK _ ?_;clear hK K)|(apply Exists.intro;refine ⟨fun _=>rfl,hK _ ?_⟩;clear hK K));(refine wpH_take 1 (by rfl) (by kernel_rfl) (by intro _ _ _ h;first|exact h|(cases h.1)) (by intro _ _ _ _ h;first|exact h|(cases h.1)) (by assumption) (fun K hK=>?_);simp only [List.setIfInBounds_toArray,List.set_cons_zero,List.set_cons_succ] at hK;go_simp;first|(refine hK _ ?_;clear hK K)|(apply Exists.intro;refine ⟨fun _=>rfl,hK _ ?_⟩;clear hK K));(refine wpH_take 2 (by rfl) (by kernel_rfl) (by intro _ _ _ h;first|exact h|(cases h.1)) (by intro _ _ _ _ h;first|exact h|(cases h.1)) (by assumption) (fun K hK=>?_);simp only [List.setIfInBounds_toArray,List.set_cons_zero,List.set_cons_succ] at hK;go_simp;first|(refine hK _ ?_;clear hK K)|(apply Exists.intro;refine ⟨fun _=>rfl,hK _ ?_⟩;clear hK K));(refine wpH_take 3 (by rfl) (by kernel_rfl) (by intro _ _ _ h;first|exact h|(cases h.1)) (by intro _ _ _ _ h;first|exact h|(cases h.1)) (by assumption) (fun K hK=>?_);simp only [List.setIfInBounds_toArray,List.set_cons_zero,List.set_cons_succ] at hK;go_simp;first|(refine hK _ ?_;clear hK K)|(apply Exists.intro;refine ⟨fun _=>rfl,hK _ ?_⟩;clear hK K));(refine wpH_take 4 (by rfl) (by kernel_rfl) (by intro _ _ _ h;first|exact h|(cases h.1)) (by intro _ _ _ _ h;first|exact h|(cases h.1)) (by assumption) (fun K hK=>?_);simp only [List.setIfInBounds_toArray,List.set_cons_zero,List.set_cons_succ] at hK;go_simp;first|(refine hK _ ?_;clear hK K)|(apply Exists.intro;refine ⟨fun _=>rfl,hK _ ?_⟩;clear hK K));(refine wpH_take 5 (by rfl) (by kernel_rfl) (by intro _ _ _ h;first|exact h|(cases h.1)) (by intro _ _ _ _ h;first|exact h|(cases h.1)) (by assumption) (fun K hK=>?_);simp only [List.setIfInBounds_toArray,List.set_cons_zero,List.set_cons_succ] at hK;go_simp;first|(refine hK _ ?_;clear hK K)|(apply Exists.intro;refine ⟨fun _=>rfl,hK _ ?_⟩;clear hK K))
   (refine wpH_take 6 (by rfl) (by kernel_rfl) (by intro _ _ _ h;first|exact h|(cases h.1)) (by intro _ _ _ _ h;first|exact h|(cases h.1)) (by assumption) (fun K hK=>?_);simp only [List.setIfInBounds_toArray,List.set_cons_zero,List.set_cons_succ] at hK;refine take_loadm (by rfl) 69 (.tmp 99) (by rfl) xb xo (by rfl) aggHash' hXl (fun u hu=>hu.2.2.1) (hK _ ?_);clear hK K)
   try simp only [Act.put,List.getElem_toArray,List.getElem_cons_zero,List.getElem_cons_succ,List.setIfInBounds_toArray,List.set_cons_zero,List.set_cons_succ]
   (refine wpH_take 7 (by rfl) (by kernel_rfl) (by intro _ _ _ h;first|exact h|(cases h.1)) (by intro _ _ _ _ h;first|exact h|(cases h.1)) (by assumption) (fun K hK=>?_);simp only [List.setIfInBounds_toArray,List.set_cons_zero,List.set_cons_succ] at hK;go_simp;first|(refine hK _ ?_;clear hK K)|(apply Exists.intro;refine ⟨fun _=>rfl,hK _ ?_⟩;clear hK K));(refine wpH_take 8 (by rfl) (by kernel_rfl) (by intro _ _ _ h;first|exact h|(cases h.1)) (by intro _ _ _ _ h;first|exact h|(cases h.1)) (by assumption) (fun K hK=>?_);simp only [List.setIfInBounds_toArray,List.set_cons_zero,List.set_cons_succ] at hK;go_simp;first|(refine hK _ ?_;clear hK K)|(apply Exists.intro;refine ⟨fun _=>rfl,hK _ ?_⟩;clear hK K));(refine wpH_take 9 (by rfl) (by kernel_rfl) (by intro _ _ _ h;first|exact h|(cases h.1)) (by intro _ _ _ _ h;first|exact h|(cases h.1)) (by assumption) (fun K hK=>?_);simp only [List.setIfInBounds_toArray,List.set_cons_zero,List.set_cons_succ] at hK;go_simp;first|(refine hK _ ?_;clear hK K)|(apply Exists.intro;refine ⟨fun _=>rfl,hK _ ?_⟩;clear hK K));(refine wpH_take 10 (by rfl) (by kernel_rfl) (by intro _ _ _ h;first|exact h|(cases h.1)) (by intro _ _ _ _ h;first|exact h|(cases h.1)) (by assumption) (fun K hK=>?_);simp only [List.setIfInBounds_toArray,List.set_cons_zero,List.set_cons_succ] at hK;go_simp;first|(refine hK _ ?_;clear hK K)|(apply Exists.intro;refine ⟨fun _=>rfl,hK _ ?_⟩;clear hK K));(refine wpH_take 11 (by rfl) (by kernel_rfl) (by intro _ _ _ h;first|exact h|(cases h.1)) (by intro _ _ _ _ h;first|exact h|(cases h.1)) (by assumption) (fun K hK=>?_);simp only [List.setIfInBounds_toArray,List.set_cons_zero,List.set_cons_succ] at hK;go_simp;first|(refine hK _ ?_;clear hK K)|(apply Exists.intro;refine ⟨fun _=>rfl,hK _ ?_⟩;clear hK K))
   refine wpH_all [12,16] (by kernel_rfl) (by simp) ?_
   intro i hi
   simp only [List.mem_cons,List.not_mem_nil,or_false] at hi
   rcases hi with rfl|rfl
   ·(refine brH_of (i:=12) (by rfl) (fun K hK=>?_);simp only [List.setIfInBounds_toArray,List.set_cons_zero,List.set_cons_succ] at hK;go_simp)
    have CC:=CI2.out u0 FU.ld
    rw [← HX.out] at CC
    refine CC.mono ?_
    rintro e u1 ⟨t5,rfl,i5,e5,k5,l5,g5⟩
    have F5:=FU.call hgl hww l5 g5
    have hS1:=RS.out _ u1 F5
    refine hK _ _ hS1 ?_;clear hK K
    try simp only [Act.put,List.getElem_toArray,List.getElem_cons_zero,List.getElem_cons_succ,List.setIfInBounds_toArray,List.set_cons_zero,List.set_cons_succ]
    (refine wpH_take 13 (by rfl) (by kernel_rfl) (by intro _ _ _ h;first|exact h|(cases h.1)) (by intro _ _ _ _ h;first|exact h|(cases h.1)) (by assumption) (fun K hK=>?_);simp only [List.setIfInBounds_toArray,List.set_cons_zero,List.set_cons_succ] at hK;go_simp;first|(refine hK _ ?_;clear hK K)|(apply Exists.intro;refine ⟨fun _=>rfl,hK _ ?_⟩;clear hK K));(refine wpH_take 14 (by rfl) (by kernel_rfl) (by intro _ _ _ h;first|exact h|(cases h.1)) (by intro _ _ _ _ h;first|exact h|(cases h.1)) (by assumption) (fun K hK=>?_);simp only [List.setIfInBounds_toArray,List.set_cons_zero,List.set_cons_succ] at hK;go_simp;first|(refine hK _ ?_;clear hK K)|(apply Exists.intro;refine ⟨fun _=>rfl,hK _ ?_⟩;clear hK K));(refine wpH_take 15 (by rfl) (by kernel_rfl) (by intro _ _ _ h;first|exact h|(cases h.1)) (by intro _ _ _ _ h;first|exact h|(cases h.1)) (by assumption) (fun K hK=>?_);simp only [List.setIfInBounds_toArray,List.set_cons_zero,List.set_cons_succ] at hK;go_simp;first|(refine hK _ ?_;clear hK K)|(apply Exists.intro;refine ⟨fun _=>rfl,hK _ ?_⟩;clear hK K))
    (refine wpH_only 16 (by rfl) (by kernel_rfl) (fun K hK=>?_);simp only [List.setIfInBounds_toArray,List.set_cons_zero,List.set_cons_succ] at hK;go_simp)
    have b2:=(Below.refl u1.heap.size u1).alloc (Nat.le_refl _) (.cells #[.int .i64 0,.slice none 0 0,.slice none 0 0,.slice none 0 0] 25)
    have hS2:=hS1.kept b2
    refine hK _ _ hS2 ?_;clear hK K
    refine wpH_only 17 (by rfl) (by kernel_rfl) (fun K hK=>?_)
    simp only [List.setIfInBounds_toArray,List.set_cons_zero,List.set_cons_succ] at hK
    refine step_storeA (by rfl) 25 (.tmp 12) (.tmp 107) (by rfl) u1.heap.size (ndcells t5) (by rfl) (by rfl) aggNode (Blk.new u1 25 (ndcells zN)) (ndcells_len t5) (by rfl) i5.one (fun u9 y12 cg8 dg8=>?_)
    have b9:Below u1.heap.size u1 u9:=Below.grown b2 dg8 b2.size (fun k hk=>by cases hk;exact Nat.le_refl _)
    have hS3:=hS1.kept b9
    refine hK _ _ hS3 ?_;clear hK K
    try simp only [Act.put,List.getElem_toArray,List.getElem_cons_zero,List.getElem_cons_succ,List.setIfInBounds_toArray,List.set_cons_zero,List.set_cons_succ]
    (refine wpH_take 18 (by rfl) (by kernel_rfl) (by intro _ _ _ h;first|exact h|(cases h.1)) (by intro _ _ _ _ h;first|exact h|(cases h.1)) (by assumption) (fun K hK=>?_);simp only [List.setIfInBounds_toArray,List.set_cons_zero,List.set_cons_succ] at hK;go_simp;first|(refine hK _ ?_;clear hK K)|(apply Exists.intro;refine ⟨fun _=>rfl,hK _ ?_⟩;clear hK K))
    refine wpH_done (by kernel_rfl) ?_
    obtain ⟨F7,i7,k7⟩:=FU.kid hgl hww hW0 l5 g5 i5 k5 b9
    have t5l:=ndcells_len t5
    obtain ⟨z12,hz12⟩:∃ z,z=u1.heap.size:=⟨_,rfl⟩
    rw [← hz12] at y12
    rw [← hz12]
    clear q0 q1 q3 hS0 hS1 hS2 b9 cg8 dg8 hz12
    go_wp2_with (first
      | ((with_reducible show wpList _ _ _ (⟨some 109,_,_,_,_,_⟩::_) _ _);refine wpList_loadA (o:=⟨some 109,_,_,_,_,_⟩) (by rfl) 25 (.tmp 12) (by rfl) z12 (by rfl) aggNode y12 t5l ?_)
      | ((with_reducible show wpList _ _ _ (⟨some 110,_,_,_,_,_⟩::_) _ _);refine wpList_buildW (o:=⟨some 110,_,_,_,_,_⟩) (by rfl) 23 1 [(0,.tmp 109)] (by rfl) elNode [t5] [.agg (ndcells t5).toArray] rfl (by rfl) (by simp [Value.cells]) (by omega) (by omega) ?_;intro w8 h8 r8 b8;have o8:=Blk.own (B:=w4.heap.size+2) (l:=[t5]) h8 1 ndcells_len rfl (by have:=F7.hn.lt;omega) (by unfold maxLen;omega);have F8:=F7.row hgl hww hW0 (ts':=[t5]) (fun x hx=>by rw [List.mem_singleton] at hx;subst hx;exact ⟨i7,k7⟩) o8 (gb_of b8 _) (fun k hk=>.inr (by simp only [Value.ownBlock,Option.some.injEq] at hk;omega)) (fun k hk cs e fz hh u hu x=>by simp only [Value.ownBlock,Option.some.injEq] at hk;subst hk;have h9:w8.heap[u9.heap.size]?=some (.cells ([t5].flatMap ndcells).toArray 25 (0,0)):=h8;rw [h9] at hh;simp only [Option.some.injEq,Obj.cells.injEq] at hh;obtain ⟨rfl,_,_⟩:=hh;exact no8_one i7 u (by simpa using hu) x);obtain ⟨x9,hx9⟩:=F8.hn.has 3 (by simp);have hf9:=F8.hn.free 3;have F9:=F8.cell hgl hww hW0 (.slice (some ⟨u9.heap.size,0,none⟩) 1 1))
      | ((with_reducible show wpList _ _ _ (⟨some 112,_,_,_,_,_⟩::_) _ _);refine wpList_loadA (o:=⟨some 112,_,_,_,_,_⟩) (by rfl) 25 (.tmp 11) (by rfl) (w4.heap.size+1) (by rfl) aggNode F9.hn (by rfl) ?_)
      | ((with_reducible show wpList _ _ _ (⟨none,Op.store _ _ (Operand.tmp 112),_,_,_,_⟩::_) _ _);refine wpList_storeA (o:=⟨none,_,_,_,_,_⟩) (by rfl) 25 (.tmp 6) (.tmp 112) (by rfl) (w.heap.size+1) [.int .i64 2,.slice pa pn pc,.slice va vn vc,.slice (some ⟨u9.heap.size,0,none⟩) 1 1] (by rfl) (by rfl) aggNode F9.h6 (by rfl) (by rfl) (by intro u hu;simp at hu;rcases hu with rfl|rfl|rfl|rfl <;> rfl) (Below.refl 0 _) (Nat.zero_le _) ?_;intro w7 h7 _ g7))
    exact bodyPost_ret (v:=.tuple #[.agg #[.int .i64 2,.slice pa pn pc,.slice va vn vc,.slice (some ⟨u9.heap.size,0,none⟩) 1 1],.int .i64 E5]) (results_blk_tmp rfl _ _ (w.heap.size+1) aggNode h7 (by rfl) rfl rfl) rfl (by have:=F9.done (R:=R) hgl hww hW0 z4 i1 i2 g7 (fun e=>by rw [HR1.out.2.2 e,← e5 (by rw [← HR1.out.1];exact e)];rfl) HR1.out.2.1;rw [HR1.out.1] at this;exact this)
   ·(refine brH_of (i:=16) (by rfl) (fun K hK=>?_);simp only [List.setIfInBounds_toArray,List.set_cons_zero,List.set_cons_succ] at hK;go_simp)
    have b2:=(Below.refl u0.heap.size u0).alloc (Nat.le_refl _) (.cells #[.int .i64 0,.slice none 0 0,.slice none 0 0,.slice none 0 0] 25)
    have hS2:=hS0.kept b2
    refine hK _ _ hS2 ?_;clear hK K
    try simp only [Act.put,List.getElem_toArray,List.getElem_cons_zero,List.getElem_cons_succ,List.setIfInBounds_toArray,List.set_cons_zero,List.set_cons_succ]
    (refine wpH_only 12 (by rfl) (by kernel_rfl) (fun K hK=>?_);simp only [List.setIfInBounds_toArray,List.set_cons_zero,List.set_cons_succ] at hK;go_simp)
    have FU2:=FU.kept b2
    have CC:=CI2.out _ FU2.ld
    rw [← HX.out] at CC
    refine CC.mono ?_
    rintro e u1 ⟨t5,rfl,i5,e5,k5,l5,g5⟩
    have F5:=FU2.call hgl hww l5 g5
    have hS1:=RS.out _ u1 F5
    have y2:=(Blk.new u0 25 (ndcells zN)).grown g5 (by simp;have:=FU.gw.size;omega)
    refine hK _ _ hS1 ?_;clear hK K
    try simp only [Act.put,List.getElem_toArray,List.getElem_cons_zero,List.getElem_cons_succ,List.setIfInBounds_toArray,List.set_cons_zero,List.set_cons_succ]
    (refine wpH_take 13 (by rfl) (by kernel_rfl) (by intro _ _ _ h;first|exact h|(cases h.1)) (by intro _ _ _ _ h;first|exact h|(cases h.1)) (by assumption) (fun K hK=>?_);simp only [List.setIfInBounds_toArray,List.set_cons_zero,List.set_cons_succ] at hK;go_simp;first|(refine hK _ ?_;clear hK K)|(apply Exists.intro;refine ⟨fun _=>rfl,hK _ ?_⟩;clear hK K));(refine wpH_take 14 (by rfl) (by kernel_rfl) (by intro _ _ _ h;first|exact h|(cases h.1)) (by intro _ _ _ _ h;first|exact h|(cases h.1)) (by assumption) (fun K hK=>?_);simp only [List.setIfInBounds_toArray,List.set_cons_zero,List.set_cons_succ] at hK;go_simp;first|(refine hK _ ?_;clear hK K)|(apply Exists.intro;refine ⟨fun _=>rfl,hK _ ?_⟩;clear hK K));(refine wpH_take 15 (by rfl) (by kernel_rfl) (by intro _ _ _ h;first|exact h|(cases h.1)) (by intro _ _ _ _ h;first|exact h|(cases h.1)) (by assumption) (fun K hK=>?_);simp only [List.setIfInBounds_toArray,List.set_cons_zero,List.set_cons_succ] at hK;go_simp;first|(refine hK _ ?_;clear hK K)|(apply Exists.intro;refine ⟨fun _=>rfl,hK _ ?_⟩;clear hK K))
    refine wpH_only 17 (by rfl) (by kernel_rfl) (fun K hK=>?_)
    simp only [List.setIfInBounds_toArray,List.set_cons_zero,List.set_cons_succ] at hK
    refine step_storeA (by rfl) 25 (.tmp 12) (.tmp 107) (by rfl) u0.heap.size (ndcells t5) (by rfl) (by rfl) aggNode y2 (ndcells_len t5) (by rfl) i5.one (fun u9 y12 cg8 dg8=>?_)
    have hB:=FU.hn.lt
    have F7:=F5.put hgl hww hW0 y2 (no8_nd 0 none none none 0 0 0 0 0 0) dg8 (by omega) (by simp [Value.ownBlock]) (by simp)
    have hS3:=RS.out _ u9 F7
    refine hK _ _ hS3 ?_;clear hK K
    try simp only [Act.put,List.getElem_toArray,List.getElem_cons_zero,List.getElem_cons_succ,List.setIfInBounds_toArray,List.set_cons_zero,List.set_cons_succ]
    (refine wpH_take 18 (by rfl) (by kernel_rfl) (by intro _ _ _ h;first|exact h|(cases h.1)) (by intro _ _ _ _ h;first|exact h|(cases h.1)) (by assumption) (fun K hK=>?_);simp only [List.setIfInBounds_toArray,List.set_cons_zero,List.set_cons_succ] at hK;go_simp;first|(refine hK _ ?_;clear hK K)|(apply Exists.intro;refine ⟨fun _=>rfl,hK _ ?_⟩;clear hK K))
    refine wpH_done (by kernel_rfl) ?_
    have su:=b2.size
    have i7:IsNd u9 t5:=i5.offK (row:=some u0.heap.size) (k5.mono (fun k hk=>⟨fun e=>by cases e;simp at hk;omega,hk.2⟩)) dg8 (y2.cells8 (no8_nd 0 none none none 0 0 0 0 0 0))
    have k7:KdIn (fun k=>w4.heap.size+2≤k∧k<u9.heap.size∧(Value.slice none 0 0).ownBlock≠some k) t5:=k5.mono (fun k hk=>⟨by simp at hk;omega,Nat.lt_of_lt_of_le hk.2 dg8.size,by simp [Value.ownBlock]⟩)
    have t5l:=ndcells_len t5
    obtain ⟨z12,hz12⟩:∃ z,z=u0.heap.size:=⟨_,rfl⟩
    rw [← hz12] at y12
    rw [← hz12]
    clear q0 q1 q3 hS0 hS1 hS2 cg8 dg8 y2 b2 hz12
    go_wp2_with (first
      | ((with_reducible show wpList _ _ _ (⟨some 109,_,_,_,_,_⟩::_) _ _);refine wpList_loadA (o:=⟨some 109,_,_,_,_,_⟩) (by rfl) 25 (.tmp 12) (by rfl) z12 (by rfl) aggNode y12 t5l ?_)
      | ((with_reducible show wpList _ _ _ (⟨some 110,_,_,_,_,_⟩::_) _ _);refine wpList_buildW (o:=⟨some 110,_,_,_,_,_⟩) (by rfl) 23 1 [(0,.tmp 109)] (by rfl) elNode [t5] [.agg (ndcells t5).toArray] rfl (by rfl) (by simp [Value.cells]) (by omega) (by omega) ?_;intro w8 h8 r8 b8;have o8:=Blk.own (B:=w4.heap.size+2) (l:=[t5]) h8 1 ndcells_len rfl (by have:=F7.hn.lt;omega) (by unfold maxLen;omega);have F8:=F7.row hgl hww hW0 (ts':=[t5]) (fun x hx=>by rw [List.mem_singleton] at hx;subst hx;exact ⟨i7,k7⟩) o8 (gb_of b8 _) (fun k hk=>.inr (by simp only [Value.ownBlock,Option.some.injEq] at hk;omega)) (fun k hk cs e fz hh u hu x=>by simp only [Value.ownBlock,Option.some.injEq] at hk;subst hk;have h9:w8.heap[u9.heap.size]?=some (.cells ([t5].flatMap ndcells).toArray 25 (0,0)):=h8;rw [h9] at hh;simp only [Option.some.injEq,Obj.cells.injEq] at hh;obtain ⟨rfl,_,_⟩:=hh;exact no8_one i7 u (by simpa using hu) x);obtain ⟨x9,hx9⟩:=F8.hn.has 3 (by simp);have hf9:=F8.hn.free 3;have F9:=F8.cell hgl hww hW0 (.slice (some ⟨u9.heap.size,0,none⟩) 1 1))
      | ((with_reducible show wpList _ _ _ (⟨some 112,_,_,_,_,_⟩::_) _ _);refine wpList_loadA (o:=⟨some 112,_,_,_,_,_⟩) (by rfl) 25 (.tmp 11) (by rfl) (w4.heap.size+1) (by rfl) aggNode F9.hn (by rfl) ?_)
      | ((with_reducible show wpList _ _ _ (⟨none,Op.store _ _ (Operand.tmp 112),_,_,_,_⟩::_) _ _);refine wpList_storeA (o:=⟨none,_,_,_,_,_⟩) (by rfl) 25 (.tmp 6) (.tmp 112) (by rfl) (w.heap.size+1) [.int .i64 2,.slice pa pn pc,.slice va vn vc,.slice (some ⟨u9.heap.size,0,none⟩) 1 1] (by rfl) (by rfl) aggNode F9.h6 (by rfl) (by rfl) (by intro u hu;simp at hu;rcases hu with rfl|rfl|rfl|rfl <;> rfl) (Below.refl 0 _) (Nat.zero_le _) ?_;intro w7 h7 _ g7))
    exact bodyPost_ret (v:=.tuple #[.agg #[.int .i64 2,.slice pa pn pc,.slice va vn vc,.slice (some ⟨u9.heap.size,0,none⟩) 1 1],.int .i64 E5]) (results_blk_tmp rfl _ _ (w.heap.size+1) aggNode h7 (by rfl) rfl rfl) rfl (by have:=F9.done (R:=R) hgl hww hW0 z4 i1 i2 g7 (fun e=>by rw [HR1.out.2.2 e,← e5 (by rw [← HR1.out.1];exact e)];rfl) HR1.out.2.1;rw [HR1.out.1] at this;exact this)
end Go.Proofs.Ytakhaanenlblmaa
