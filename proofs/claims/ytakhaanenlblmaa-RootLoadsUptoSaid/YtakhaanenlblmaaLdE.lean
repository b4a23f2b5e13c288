/- The reference's visit in a world; come: what goes wrong before a code is read. | What lies there while the reference's come makes a node. -/
import Derived.Test.YtakhaanenlblmaaLd12
import Derived.Test.YtakhaanenlblmaaHashQ
/- (Ld13) The reference's visit in a world; come: what goes wrong before a code is read. -/
set_option linter.unusedSimpArgs false
set_option linter.unusedVariables false
namespace Go.Proofs.Ytakhaanenlblmaa
open Go.RowKit
def hq32 (l:List UInt8):List Value:=(l.map u8v++List.replicate 32 (Value.int .u8 0)).take 32
theorem hq32_len (l:List UInt8):(hq32 l).length=32:=by
 unfold hq32
 rw [List.length_take,List.length_append,List.length_replicate];omega
theorem hq32_eq {l:List UInt8} (h:l.length=32):hq32 l=l.map u8v:=by
 unfold hq32
 rw [List.take_append_of_le_length (by rw [List.length_map];omega),List.take_of_length_le (by rw [List.length_map];omega)]
structure ViW (ps:List (Value × List UInt8)) (W0:World) (sa:Option Addr) (sc:Nat) (aa:Option Addr) (ac n B0 g m:Nat) (u:World):Prop where
 hz:Blk 171 u g (viC (.slice sa n sc) (.slice aa n ac) m)
 ho:OwnOf hq32 32 69 u B0 (.slice sa n sc) (ps.map fun q=>sumB q.2)
 hw:Below W0.heap.size W0 u
 hT:Texts W0 (.slice aa n ac) ps
 hg:W0.heap.size≤g
 hB:W0.heap.size≤B0
section
variable {ps:List (Value × List UInt8)} {W0:World} {sa:Option Addr} {sc:Nat} {aa:Option Addr} {ac n B0 g m:Nat} {u u':World}
theorem ViW.kept (h:ViW ps W0 sa sc aa ac n B0 g m u) (hb:Below u.heap.size u u'):ViW ps W0 sa sc aa ac n B0 g m u' :=
 ⟨h.hz.kept hb,h.ho.kept hb,Below.then h.hw hb,h.hT,h.hg,h.hB⟩
theorem ViW.turn (h:ViW ps W0 sa sc aa ac n B0 g m u) {m':Nat} (hz:Blk 171 u' g (viC (.slice sa n sc) (.slice aa n ac) m')) (hg:u.grownBy u' (some g)):ViW ps W0 sa sc aa ac n B0 g m' u' :=
 ⟨hz,OwnOf.grown h.ho hg (fun k hk=>by cases hk;exact h.ho.notT h.hz (by decide)),below_gb h.hw hg h.hg h.hw.size,h.hT,h.hg,h.hB⟩
theorem ViW.put (h:ViW ps W0 sa sc aa ac n B0 g m u) {z:Nat} {e:TypeId} {cs:List Value} (hz:Blk e u z cs) (he:69≠e) (hg:u.grownBy u' (some z)) (hzg:z≠g) (hzW:W0.heap.size≤z):ViW ps W0 sa sc aa ac n B0 g m u' :=
 ⟨h.hz.grown hg (by simpa using hzg),OwnOf.grown h.ho hg (fun k hk=>by cases hk;exact h.ho.notT hz he),below_gb h.hw hg hzW h.hw.size,h.hT,h.hg,h.hB⟩
end
theorem first_at {ps:List (Value × List UInt8)} {h:List UInt8} {q:Value × List UInt8} (e:firstQ ps h=some q):∃ k,∃ hk:k<ps.length,ps[k]=q∧sumB q.2=h∧∀ j (hj:j<k),sumB (ps[j]'(by omega)).2≠h:=by
 unfold firstQ at e
 obtain ⟨h1,l1,l2,rfl,h2⟩:=List.find?_eq_some_iff_append.1 e
 refine ⟨l1.length,by simp,by simp,by simpa using h1,fun j hj=>?_⟩
 rw [List.getElem_append_left hj]
 simpa using h2 l1[j] (List.getElem_mem _)
theorem first_no {ps:List (Value × List UInt8)} {h:List UInt8} (e:firstQ ps h=none):∀ j (hj:j<ps.length),sumB (ps[j]).2≠h:=by
 unfold firstQ at e
 rw [List.find?_eq_none] at e
 intro j hj
 simpa using e ps[j] (List.getElem_mem _)
set_option maxHeartbeats 8000000 in
set_option maxRecDepth 100000 in
theorem come_deep (ps:List (Value × List UInt8)) (W0:World) (sa:Option Addr) (sc:Nat) (aa:Option Addr) (ac n B0 g m d:Nat) (hn:ps.length=n) (hns:n≤1048576) (h:List UInt8) (hl:h.length=32) (hd:d≤1000000000) (h64:64<d) (w:World) (hw:ViW ps W0 sa sc aa ac n B0 g m w):Calls Try.prog 83 #[.pointer (some ⟨g,0,none⟩),.agg (h.map u8v).toArray,.int .i64 (d:Int)] w fun e w'=>e=.returned (.tuple #[.agg (ndcells zN).toArray,.int .i64 1])∧Below w.heap.size w w':=by
 have hmiss:=True.intro
 obtain ⟨K,hK⟩:∃ K,K=h.map u8v:=⟨_,rfl⟩
 have hKl:K.length=32:=by rw [hK,List.length_map];exact hl
 obtain ⟨w1,hw1⟩:∃ w1,w1=(w.alloc (.cells K.toArray 69)).alloc (.cells #[.int .i64 0,.slice none 0 0,.slice none 0 0,.slice none 0 0] 25):=⟨_,rfl⟩
 have hbel:Below w.heap.size w w1:=by rw [hw1];exact ((Below.refl _ _).alloc (Nat.le_refl _) _).alloc (by simp) _
 have hh:Blk 69 w1 w.heap.size K:=by rw [hw1];exact (Blk.new w _ _).alloc _
 have hz6:Blk 25 w1 (w.heap.size+1) (ndcells zN):=by
  have:=Blk.new (w.alloc (.cells K.toArray 69)) 25 (ndcells zN)
  simp only [World.size_alloc] at this
  rw [hw1];exact this
 have hsz1:w1.heap.size=w.heap.size+2:=by rw [hw1];simp
 have hgl:=hw.hz.lt
 have hgW:=hw.hg
 have hW0:=hw.hw.size
 have rh:=hh.all0
 have Gn:=fun (L:List UInt8) (o1 o2:Operand) (x:World)=>guard_ne_h L h o1 o2 x
 have Qn:=fun (L:List UInt8) (hL:L.length=32) (x:World)=>run_ne_h L h hL hl x
 simp only [← hK] at Gn Qn ⊢
 have Hw1:=Lib.hid hw1
 have HKl:=Lib.hid hKl
 have FV:=Lib.hid (fun (u:World) (hu:Below w.heap.size w u)=>hw.kept hu)
 have Hn:=Lib.hid hn
 have HGn:=Lib.hid Gn
 have HQn:=Lib.hid Qn
 have Hmiss:=Lib.hid hmiss
 have hzd:(64:Int)<(d:Int):=by omega
 clear hmiss Hmiss hKl Gn Qn hw1 hK hn h64 hl HGn HQn Hn hns hw FV
 go_enter Try.func83,Try.ntmps83
 go_wp2_with ((with_reducible show wpList _ _ _ (⟨none,Op.store _ _ (Operand.tmp 20),_,_,_,_⟩::_) _ _);refine wpList_storeA (o:=⟨none,_,_,_,_,_⟩) (by rfl) 25 (.tmp 6) (.tmp 20) (by rfl) (w.heap.size+1) (ndcells zN) (by rfl) (by rfl) aggNode (by rw [← Hw1.out];exact hz6) (by rfl) (by rfl) (by intro u hu;simp [ndcells,zN] at hu;rcases hu with rfl|rfl <;> rfl) (by rw [← Hw1.out];exact hbel) (by omega) ?_;intro w7 h7 b7 g7)
 exact bodyPost_ret (v:=.tuple #[.agg (ndcells zN).toArray,.int .i64 1]) (results_blk_tmp rfl _ _ (w.heap.size+1) aggNode h7 (by rfl) rfl rfl) rfl ⟨rfl,b7⟩
set_option maxHeartbeats 8000000 in
set_option maxRecDepth 100000 in
theorem come_missing (ps:List (Value × List UInt8)) (W0:World) (sa:Option Addr) (sc:Nat) (aa:Option Addr) (ac n B0 g m d:Nat) (hn:ps.length=n) (hns:n≤1048576) (h:List UInt8) (hl:h.length=32) (hd:d≤64) (hq:firstQ ps h=none) (w:World) (hw:ViW ps W0 sa sc aa ac n B0 g m w):Calls Try.prog 83 #[.pointer (some ⟨g,0,none⟩),.agg (h.map u8v).toArray,.int .i64 (d:Int)] w fun e w'=>e=.returned (.tuple #[.agg (ndcells zN).toArray,.int .i64 5])∧Below w.heap.size w w':=by
 have hmiss:∀ k (_:k<n) (hk:k<ps.length),sumB (ps[k]).2≠h:=fun k _ hk=>first_no hq k hk
 obtain ⟨K,hK⟩:∃ K,K=h.map u8v:=⟨_,rfl⟩
 have hKl:K.length=32:=by rw [hK,List.length_map];exact hl
 obtain ⟨w1,hw1⟩:∃ w1,w1=(w.alloc (.cells K.toArray 69)).alloc (.cells #[.int .i64 0,.slice none 0 0,.slice none 0 0,.slice none 0 0] 25):=⟨_,rfl⟩
 have hbel:Below w.heap.size w w1:=by rw [hw1];exact ((Below.refl _ _).alloc (Nat.le_refl _) _).alloc (by simp) _
 have hh:Blk 69 w1 w.heap.size K:=by rw [hw1];exact (Blk.new w _ _).alloc _
 have hz6:Blk 25 w1 (w.heap.size+1) (ndcells zN):=by
  have:=Blk.new (w.alloc (.cells K.toArray 69)) 25 (ndcells zN)
  simp only [World.size_alloc] at this
  rw [hw1];exact this
 have hsz1:w1.heap.size=w.heap.size+2:=by rw [hw1];simp
 have hgl:=hw.hz.lt
 have hgW:=hw.hg
 have hW0:=hw.hw.size
 have rh:=hh.all0
 have Gn:=fun (L:List UInt8) (o1 o2:Operand) (x:World)=>guard_ne_h L h o1 o2 x
 have Qn:=fun (L:List UInt8) (hL:L.length=32) (x:World)=>run_ne_h L h hL hl x
 simp only [← hK] at Gn Qn ⊢
 have Hw1:=Lib.hid hw1
 have HKl:=Lib.hid hKl
 have FV:=Lib.hid (fun (u:World) (hu:Below w.heap.size w u)=>hw.kept hu)
 have Hn:=Lib.hid hn
 have HGn:=Lib.hid Gn
 have HQn:=Lib.hid Qn
 have Hmiss:=Lib.hid hmiss
 have hzd:¬ (64:Int)<(d:Int):=by omega
 clear hmiss hKl Gn Qn hw1 hK hn hd hl hw hq
 go_enter Try.func83,Try.ntmps83
 go_wp2_with fail
 rw [show (w.alloc (.cells K.toArray 69)).alloc (.cells #[.int .i64 0,.slice none 0 0,.slice none 0 0,.slice none 0 0] 25)=w1 from Hw1.out.symm]
 go_loopw [8] (fun ix wr=>∃ k:Nat,k≤n∧ix=.int .i64 (k:Int)∧Below w1.heap.size w1 wr) (fun ix _=>n - (intOf ix).toNat)
 case atStart=>exact ⟨0,by omega,rfl,Below.refl _ _⟩
 case round =>
  obtain ⟨k,hk,rfl,bwr⟩:=hrel
  have Fr:=FV.out wr (Below.then hbel bwr)
  have c0:=Fr.hz.cell 0
  simp only [viC,List.getElem?_cons_zero] at c0
  have g0:=fun u:Ext wr=>u.cell c0
  have rhw:wr.rangeAt w.heap.size 0 K:=World.rangeAt.below rh (bwr)
  by_cases hlt:k<n
  ·have hkn:k<ps.length:=by have:=Hn.out;omega
   have hzN:k<n:=by have:=Hn.out;omega
   have hz:(k:Int)<(n:Int):=by omega
   have hwk:IntKind.i64.wrap ((k:Int)+1)=((k+1:Nat):Int):=by rw [IntWalk.i64_in _ (by omega)];omega
   obtain ⟨sb,so,hsa,rr⟩:=RowOf.range hq32_len Fr.ho.row k (by rw [List.length_map];exact hkn)
   subst hsa
   obtain ⟨L,hL⟩:∃ L,L=sumB ps[k].2:=⟨_,rfl⟩
   have hLl:L.length=32:=by rw [hL];exact outB_len _
   rw [List.getElem_map,← hL,hq32_eq hLl] at rr
   have hne:=Hmiss.out k hlt hkn
   rw [← hL] at hne
   have Gk:=HGn.out L
   have Qk:=HQn.out L hLl
   rw [show (L == h)=false from beq_eq_false_iff_ne.2 hne] at Qk
   obtain ⟨LC,hLC⟩:∃ LC,LC=L.map u8v:=⟨_,rfl⟩
   have hLCl:LC.length=32:=by rw [hLC,List.length_map];exact hLl
   simp only [← hLC] at rr Gk Qk
   have HLCl:=Lib.hid hLCl
   clear hne hLl hL hLC hLCl
   go_wp2_with fail
   refine wp_region_typed wr 18 (by kernel_rfl) (by kernel_rfl) (Below.refl _ _) ?_;simp only [List.take_succ_cons,List.take_zero,List.take_nil]
   iterate 14 (refine wpX_step (by rfl) (fun K hK=>?_);go_simp;first|(refine hK _ ?_;clear hK K)|(apply Exists.intro;refine ⟨fun _=>?_,hK _ ?_⟩;fail;clear hK K))
   (refine wpX_step (by rfl) (fun K hK=>?_);rw [if_pos (by rfl)];refine ⟨_,fun u=>const_loadm _ (.tmp 34) (by rfl) _ _ (by rfl) aggHash' HLCl.out (rangeAt.ext rr u),hK _ ?_⟩;clear hK K;simp only [Act.put,List.setIfInBounds_toArray,List.set_cons_zero,List.set_cons_succ])
   (refine wpX_step (by rfl) (fun K hK=>?_);rw [if_pos (by rfl)];refine ⟨_,fun u=>const_loadm _ (.tmp 4) (by rfl) _ _ (by rfl) aggHash' HKl.out (rangeAt.ext rhw u),hK _ ?_⟩;clear hK K;simp only [Act.put,List.setIfInBounds_toArray,List.set_cons_zero,List.set_cons_succ])
   (refine wpX_step (by rfl) (fun K hK=>?_);rw [if_pos (by rfl)];refine ⟨_,fun u=>const_neq _ _ _ _ (by rfl) (by rfl) (by rfl) (fun o1 o2 w1=>Gk o1 o2 w1) (fun w1=>Qk w1),hK _ ?_⟩;clear hK K;simp only [Act.put,List.setIfInBounds_toArray,List.set_cons_zero,List.set_cons_succ])
   (refine wpX_step (by rfl) (fun K hK=>?_);go_simp;first|(refine hK _ ?_;clear hK K)|(apply Exists.intro;refine ⟨fun _=>?_,hK _ ?_⟩;fail;clear hK K))
   refine wpX_nil ?_
   intro y hy
   change forallRel y [] _ _
   simp only [forallRel,List.drop_succ_cons,List.drop_zero,List.drop_nil]
   go_wp2_with fail
   go_roundw
   case rel=>exact ⟨k+1,by omega,by go_num,Below.then bwr hy⟩
   case measure=>simp [intOf];omega
  ·obtain rfl:k=n:=by omega
   have hz:¬ (k:Int)<(k:Int):=by omega
   go_wp2_with fail
   refine wp_region_typed wr 18 (by kernel_rfl) (by kernel_rfl) (Below.refl _ _) ?_;simp only [List.take_succ_cons,List.take_zero,List.take_nil]
   iterate 18 (refine wpX_step (by rfl) (fun K hK=>?_);go_simp;first|(refine hK _ ?_;clear hK K)|(apply Exists.intro;refine ⟨fun _=>?_,hK _ ?_⟩;fail;clear hK K))
   refine wpX_nil ?_
   intro y hy
   change forallRel y [] _ _
   simp only [forallRel,List.drop_succ_cons,List.drop_zero,List.drop_nil]
   have by0:=Below.then bwr hy
   have by1:=Below.then hbel by0
   have Fy:=FV.out y by1
   have c0y:=Fy.hz.cell 0
   have c2y:=Fy.hz.cell 2
   simp only [viC,List.getElem?_cons_zero,List.getElem?_cons_succ] at c0y c2y
   have hz6y:=hz6.kept by0
   go_wp2_with ((with_reducible show wpList _ _ _ (⟨none,Op.store _ _ (Operand.tmp 48),_,_,_,_⟩::_) _ _);refine wpList_storeA (o:=⟨none,_,_,_,_,_⟩) (by rfl) 25 (.tmp 6) (.tmp 48) (by rfl) (w.heap.size+1) (ndcells zN) (by rfl) (by rfl) aggNode hz6y (by rfl) (by rfl) (by intro u hu;simp [ndcells,zN] at hu;rcases hu with rfl|rfl <;> rfl) by1 (by omega) ?_;intro w7 h7 b7 g7)
   exact bodyPost_ret (v:=.tuple #[.agg (ndcells zN).toArray,.int .i64 5]) (results_blk_tmp rfl _ _ (w.heap.size+1) aggNode h7 (by rfl) rfl rfl) rfl ⟨rfl,b7⟩
set_option maxHeartbeats 8000000 in
set_option maxRecDepth 100000 in
theorem come_much (ps:List (Value × List UInt8)) (W0:World) (sa:Option Addr) (sc:Nat) (aa:Option Addr) (ac n B0 g m d:Nat) (hn:ps.length=n) (hns:n≤1048576) (h:List UInt8) (hl:h.length=32) (hd:d≤64) (q:Value × List UInt8) (hq:firstQ ps h=some q) (hm:m=4096) (w:World) (hw:ViW ps W0 sa sc aa ac n B0 g m w):Calls Try.prog 83 #[.pointer (some ⟨g,0,none⟩),.agg (h.map u8v).toArray,.int .i64 (d:Int)] w fun e w'=>e=.returned (.tuple #[.agg (ndcells zN).toArray,.int .i64 6])∧Below w.heap.size w w':=by
 obtain ⟨K0,hK0,hqk,hqs,hmiss0⟩:=first_at hq
 have hmiss:∀ k (_:k<K0) (hk:k<ps.length),sumB (ps[k]).2≠h:=fun k h1 _=>hmiss0 k h1
 have hhit:∀ (hk:K0<ps.length),sumB (ps[K0]).2=h:=fun hk=>by rw [hqk];exact hqs
 clear hmiss0
 obtain ⟨K,hK⟩:∃ K,K=h.map u8v:=⟨_,rfl⟩
 have hKl:K.length=32:=by rw [hK,List.length_map];exact hl
 obtain ⟨w1,hw1⟩:∃ w1,w1=(w.alloc (.cells K.toArray 69)).alloc (.cells #[.int .i64 0,.slice none 0 0,.slice none 0 0,.slice none 0 0] 25):=⟨_,rfl⟩
 have hbel:Below w.heap.size w w1:=by rw [hw1];exact ((Below.refl _ _).alloc (Nat.le_refl _) _).alloc (by simp) _
 have hh:Blk 69 w1 w.heap.size K:=by rw [hw1];exact (Blk.new w _ _).alloc _
 have hz6:Blk 25 w1 (w.heap.size+1) (ndcells zN):=by
  have:=Blk.new (w.alloc (.cells K.toArray 69)) 25 (ndcells zN)
  simp only [World.size_alloc] at this
  rw [hw1];exact this
 have hsz1:w1.heap.size=w.heap.size+2:=by rw [hw1];simp
 have hgl:=hw.hz.lt
 have hgW:=hw.hg
 have hW0:=hw.hw.size
 have rh:=hh.all0
 have Gn:=fun (L:List UInt8) (o1 o2:Operand) (x:World)=>guard_ne_h L h o1 o2 x
 have Qn:=fun (L:List UInt8) (hL:L.length=32) (x:World)=>run_ne_h L h hL hl x
 simp only [← hK] at Gn Qn ⊢
 have Hw1:=Lib.hid hw1
 have HKl:=Lib.hid hKl
 have FV:=Lib.hid (fun (u:World) (hu:Below w.heap.size w u)=>hw.kept hu)
 have Hn:=Lib.hid hn
 have HGn:=Lib.hid Gn
 have HQn:=Lib.hid Qn
 have Hmiss:=Lib.hid hmiss
 have Hhit:=Lib.hid hhit
 have hzd:¬ (64:Int)<(d:Int):=by omega
 subst hm
 clear hmiss hhit hKl Gn Qn hw1 hK hn hd hl hw hq hqk hqs
 go_enter Try.func83,Try.ntmps83
 go_wp2_with fail
 rw [show (w.alloc (.cells K.toArray 69)).alloc (.cells #[.int .i64 0,.slice none 0 0,.slice none 0 0,.slice none 0 0] 25)=w1 from Hw1.out.symm]
 go_loopw [8] (fun ix wr=>∃ k:Nat,k≤K0∧ix=.int .i64 (k:Int)∧Below w1.heap.size w1 wr) (fun ix _=>K0 - (intOf ix).toNat)
 case atStart=>exact ⟨0,by omega,rfl,Below.refl _ _⟩
 case round =>
  obtain ⟨k,hk,rfl,bwr⟩:=hrel
  have Fr:=FV.out wr (Below.then hbel bwr)
  have c0:=Fr.hz.cell 0
  simp only [viC,List.getElem?_cons_zero] at c0
  have g0:=fun u:Ext wr=>u.cell c0
  have rhw:wr.rangeAt w.heap.size 0 K:=World.rangeAt.below rh (bwr)
  by_cases hlt:k<K0
  ·have hkn:k<ps.length:=by have:=Hn.out;omega
   have hzN:k<n:=by have:=Hn.out;omega
   have hz:(k:Int)<(n:Int):=by omega
   have hwk:IntKind.i64.wrap ((k:Int)+1)=((k+1:Nat):Int):=by rw [IntWalk.i64_in _ (by omega)];omega
   obtain ⟨sb,so,hsa,rr⟩:=RowOf.range hq32_len Fr.ho.row k (by rw [List.length_map];exact hkn)
   subst hsa
   obtain ⟨L,hL⟩:∃ L,L=sumB ps[k].2:=⟨_,rfl⟩
   have hLl:L.length=32:=by rw [hL];exact outB_len _
   rw [List.getElem_map,← hL,hq32_eq hLl] at rr
   have hne:=Hmiss.out k hlt hkn
   rw [← hL] at hne
   have Gk:=HGn.out L
   have Qk:=HQn.out L hLl
   rw [show (L == h)=false from beq_eq_false_iff_ne.2 hne] at Qk
   obtain ⟨LC,hLC⟩:∃ LC,LC=L.map u8v:=⟨_,rfl⟩
   have hLCl:LC.length=32:=by rw [hLC,List.length_map];exact hLl
   simp only [← hLC] at rr Gk Qk
   have HLCl:=Lib.hid hLCl
   clear hne hLl hL hLC hLCl
   go_wp2_with fail
   refine wp_region_typed wr 18 (by kernel_rfl) (by kernel_rfl) (Below.refl _ _) ?_;simp only [List.take_succ_cons,List.take_zero,List.take_nil]
   iterate 14 (refine wpX_step (by rfl) (fun K hK=>?_);go_simp;first|(refine hK _ ?_;clear hK K)|(apply Exists.intro;refine ⟨fun _=>?_,hK _ ?_⟩;fail;clear hK K))
   (refine wpX_step (by rfl) (fun K hK=>?_);rw [if_pos (by rfl)];refine ⟨_,fun u=>const_loadm _ (.tmp 34) (by rfl) _ _ (by rfl) aggHash' HLCl.out (rangeAt.ext rr u),hK _ ?_⟩;clear hK K;simp only [Act.put,List.setIfInBounds_toArray,List.set_cons_zero,List.set_cons_succ])
   (refine wpX_step (by rfl) (fun K hK=>?_);rw [if_pos (by rfl)];refine ⟨_,fun u=>const_loadm _ (.tmp 4) (by rfl) _ _ (by rfl) aggHash' HKl.out (rangeAt.ext rhw u),hK _ ?_⟩;clear hK K;simp only [Act.put,List.setIfInBounds_toArray,List.set_cons_zero,List.set_cons_succ])
   (refine wpX_step (by rfl) (fun K hK=>?_);rw [if_pos (by rfl)];refine ⟨_,fun u=>const_neq _ _ _ _ (by rfl) (by rfl) (by rfl) (fun o1 o2 w1=>Gk o1 o2 w1) (fun w1=>Qk w1),hK _ ?_⟩;clear hK K;simp only [Act.put,List.setIfInBounds_toArray,List.set_cons_zero,List.set_cons_succ])
   (refine wpX_step (by rfl) (fun K hK=>?_);go_simp;first|(refine hK _ ?_;clear hK K)|(apply Exists.intro;refine ⟨fun _=>?_,hK _ ?_⟩;fail;clear hK K))
   refine wpX_nil ?_
   intro y hy
   change forallRel y [] _ _
   simp only [forallRel,List.drop_succ_cons,List.drop_zero,List.drop_nil]
   go_wp2_with fail
   go_roundw
   case rel=>exact ⟨k+1,by omega,by go_num,Below.then bwr hy⟩
   case measure=>simp [intOf];omega
  ·obtain rfl:k=K0:=by omega
   have hkn:k<ps.length:=by have:=Hn.out;omega
   have hzN:k<n:=by have:=Hn.out;omega
   have hz:(k:Int)<(n:Int):=by omega
   have hzn:((k:Int) == (n:Int))=false:=beq_eq_false_iff_ne.2 (by omega)
   obtain ⟨sb,so,hsa,rr⟩:=RowOf.range hq32_len Fr.ho.row k (by rw [List.length_map];exact hkn)
   subst hsa
   obtain ⟨L,hL⟩:∃ L,L=sumB ps[k].2:=⟨_,rfl⟩
   have hLl:L.length=32:=by rw [hL];exact outB_len _
   rw [List.getElem_map,← hL,hq32_eq hLl] at rr
   have hne:=Hhit.out hkn
   rw [← hL] at hne
   have Gk:=HGn.out L
   have Qk:=HQn.out L hLl
   rw [show (L == h)=true from beq_iff_eq.2 hne] at Qk
   obtain ⟨LC,hLC⟩:∃ LC,LC=L.map u8v:=⟨_,rfl⟩
   have hLCl:LC.length=32:=by rw [hLC,List.length_map];exact hLl
   simp only [← hLC] at rr Gk Qk
   have HLCl:=Lib.hid hLCl
   clear hne hLl hL hLC hLCl
   go_wp2_with fail
   refine wp_region_typed wr 18 (by kernel_rfl) (by kernel_rfl) (Below.refl _ _) ?_;simp only [List.take_succ_cons,List.take_zero,List.take_nil]
   iterate 14 (refine wpX_step (by rfl) (fun K hK=>?_);go_simp;first|(refine hK _ ?_;clear hK K)|(apply Exists.intro;refine ⟨fun _=>?_,hK _ ?_⟩;fail;clear hK K))
   (refine wpX_step (by rfl) (fun K hK=>?_);rw [if_pos (by rfl)];refine ⟨_,fun u=>const_loadm _ (.tmp 34) (by rfl) _ _ (by rfl) aggHash' HLCl.out (rangeAt.ext rr u),hK _ ?_⟩;clear hK K;simp only [Act.put,List.setIfInBounds_toArray,List.set_cons_zero,List.set_cons_succ])
   (refine wpX_step (by rfl) (fun K hK=>?_);rw [if_pos (by rfl)];refine ⟨_,fun u=>const_loadm _ (.tmp 4) (by rfl) _ _ (by rfl) aggHash' HKl.out (rangeAt.ext rhw u),hK _ ?_⟩;clear hK K;simp only [Act.put,List.setIfInBounds_toArray,List.set_cons_zero,List.set_cons_succ])
   (refine wpX_step (by rfl) (fun K hK=>?_);rw [if_pos (by rfl)];refine ⟨_,fun u=>const_neq _ _ _ _ (by rfl) (by rfl) (by rfl) (fun o1 o2 w1=>Gk o1 o2 w1) (fun w1=>Qk w1),hK _ ?_⟩;clear hK K;simp only [Act.put,List.setIfInBounds_toArray,List.set_cons_zero,List.set_cons_succ])
   (refine wpX_step (by rfl) (fun K hK=>?_);go_simp;first|(refine hK _ ?_;clear hK K)|(apply Exists.intro;refine ⟨fun _=>?_,hK _ ?_⟩;fail;clear hK K))
   refine wpX_nil ?_
   intro y hy
   change forallRel y [] _ _
   simp only [forallRel,List.drop_succ_cons,List.drop_zero,List.drop_nil]
   have by0:=Below.then bwr hy
   have by1:=Below.then hbel by0
   have Fy:=FV.out y by1
   have c0y:=Fy.hz.cell 0
   have c2y:=Fy.hz.cell 2
   simp only [viC,List.getElem?_cons_zero,List.getElem?_cons_succ] at c0y c2y
   have hz6y:=hz6.kept by0
   go_wp2_with ((with_reducible show wpList _ _ _ (⟨none,Op.store _ _ (Operand.tmp 54),_,_,_,_⟩::_) _ _);refine wpList_storeA (o:=⟨none,_,_,_,_,_⟩) (by rfl) 25 (.tmp 6) (.tmp 54) (by rfl) (w.heap.size+1) (ndcells zN) (by rfl) (by rfl) aggNode hz6y (by rfl) (by rfl) (by intro u hu;simp [ndcells,zN] at hu;rcases hu with rfl|rfl <;> rfl) by1 (by omega) ?_;intro w7 h7 b7 g7)
   exact bodyPost_ret (v:=.tuple #[.agg (ndcells zN).toArray,.int .i64 6]) (results_blk_tmp rfl _ _ (w.heap.size+1) aggNode h7 (by rfl) rfl rfl) rfl ⟨rfl,b7⟩
end Go.Proofs.Ytakhaanenlblmaa
/- (Ld14) What lies there while the reference's come makes a node. -/
namespace Go.Proofs.Ytakhaanenlblmaa
open Go.RowKit
theorem OwnOf.notO {α β:Type} {f:α→List Value} {f':β→List Value} {size size':Nat} {e e':TypeId} {w:World} {B B':Nat} {v v':Value} {l:List α} {l':List β} (h:OwnOf f size e w B v l) (h':OwnOf f' size' e' w B' v' l') (hne:e≠e'):∀ k,v.ownBlock=some k→v'.ownBlock≠some k:=by
 intro k hk hk'
 rcases h.2 with ⟨rfl,_⟩|⟨g1,cap,cur,rfl,_,hg,_⟩
 ·simp [Value.ownBlock] at hk
 ·rcases h'.2 with ⟨rfl,_⟩|⟨g2,cap2,cur2,rfl,_,hg2,_⟩
  ·simp [Value.ownBlock] at hk'
  ·simp only [Value.ownBlock,Option.some.injEq] at hk hk'
   subst hk
   subst hk'
   rw [hg] at hg2
   simp only [Option.some.injEq,Obj.cells.injEq] at hg2
   exact hne hg2.2.1
theorem ViW.app {ps:List (Value × List UInt8)} {W0:World} {sa:Option Addr} {sc:Nat} {aa:Option Addr} {ac n B0 g m:Nat} {u u':World} {B:Nat} {v:Value} {l:List Nd} (h:ViW ps W0 sa sc aa ac n B0 g m u) (ho:OwnOf ndcells 4 25 u B v l) (hg:u.grownBy u' v.ownBlock) (hB:W0.heap.size≤B):ViW ps W0 sa sc aa ac n B0 g m u' :=
 ⟨h.hz.grown hg (ho.notT h.hz (by decide)),OwnOf.grown h.ho hg (fun k hk=>ho.notO h.ho (by decide) k hk),h.hw.grown hg h.hw.size (fun k hk=>Nat.le_trans hB (ho.lt k hk)),h.hT,h.hg,h.hB⟩
structure LoopV (ps:List (Value × List UInt8)) (W0:World) (sa:Option Addr) (sc:Nat) (aa:Option Addr) (ac n B0 g:Nat) (w w4:World) (kd:Int) (pv vv tv:Value) (cv kv:Value) (ts:List Nd) (m:Nat) (u:World):Prop where
 ld:ViW ps W0 sa sc aa ac n B0 g m u
 hs:Blk 250 u w4.heap.size [.int .i64 kd,pv,vv,tv]
 hn:Blk 25 u (w4.heap.size+1) [.int .i64 kd,pv,vv,cv]
 h6:Blk 25 u (w.heap.size+1) (ndcells zN)
 ow:OwnOf ndcells 4 25 u (w4.heap.size+2) kv ts
 cl:Clean u kv
 is:∀ t∈ts,IsNd u t
 kd':∀ t∈ts,KdIn (fun k=>w4.heap.size+2≤k∧k<u.heap.size∧kv.ownBlock≠some k) t
 gr:w4.grownBy u (some g)
 gw:w.grownBy u (some g)
section
variable {ps:List (Value × List UInt8)} {W0:World} {sa:Option Addr} {sc:Nat} {aa:Option Addr} {ac n B0 g:Nat} {w w4:World} {kd:Int} {pv vv tv:Value} {cv kv:Value} {ts:List Nd} {m:Nat} {u u':World}
theorem LoopV.kept (h:LoopV ps W0 sa sc aa ac n B0 g w w4 kd pv vv tv cv kv ts m u) (hb:Below u.heap.size u u'):LoopV ps W0 sa sc aa ac n B0 g w w4 kd pv vv tv cv kv ts m u' where
 ld:=h.ld.kept hb
 hs:=h.hs.kept hb
 hn:=h.hn.kept hb
 h6:=h.h6.kept hb
 ow:=h.ow.kept hb
 cl:=h.cl.same (fun k hk=>hb.block k ((World.ownsRow.lt h.ow k hk).2))
 is:=fun t ht=>(h.is t ht).kept hb
 kd':=fun t ht=>(h.kd' t ht).mono (fun k hk=>⟨hk.1,Nat.lt_of_lt_of_le hk.2.1 hb.size,hk.2.2⟩)
 gr:=gb_below h.gr hb h.gr.size
 gw:=gb_below h.gw hb h.gw.size
theorem LoopV.call (h:LoopV ps W0 sa sc aa ac n B0 g w w4 kd pv vv tv cv kv ts m u) (hgw:g<w.heap.size) (hww:w.heap.size+1<w4.heap.size) {m':Nat} (hl:ViW ps W0 sa sc aa ac n B0 g m' u') (hg:u.grownBy u' (some g)):LoopV ps W0 sa sc aa ac n B0 g w w4 kd pv vv tv cv kv ts m' u' where
 ld:=hl
 hs:=h.hs.grown hg (by simp;omega)
 hn:=h.hn.grown hg (by simp;omega)
 h6:=h.h6.grown hg (by simp;omega)
 ow:=OwnOf.grown h.ow hg (fun k hk e=>by cases hk;have:=h.ow.lt g e;omega)
 cl:=h.cl.grown h.ow hg (fun k hk e=>by cases hk;have:=h.ow.lt g e;omega)
 is:=fun t ht=>(h.is t ht).offI h.ld.hz hl.hz hg (vi_b8 sa n sc aa n ac m m') (vi_nd sa n sc aa n ac m m')
 kd':=fun t ht=>(h.kd' t ht).mono (fun k hk=>⟨hk.1,Nat.lt_of_lt_of_le hk.2.1 hg.size,hk.2.2⟩)
 gr:=gb_then h.gr hg (fun k hk=>.inl (by cases hk;rfl))
 gw:=gb_then h.gw hg (fun k hk=>.inl (by cases hk;rfl))
theorem LoopV.put (h:LoopV ps W0 sa sc aa ac n B0 g w w4 kd pv vv tv cv kv ts m u) (hgw:g<w.heap.size) (hww:w.heap.size+1<w4.heap.size) (hW0:W0.heap.size≤w.heap.size) {z:Nat} {cs:List Value} (hz:Blk 25 u z cs) (hno:∀ u∈cs,∀ k,u≠.int .u8 k) (hg:u.grownBy u' (some z)) (hzB:w4.heap.size+2≤z) (hkz:kv.ownBlock≠some z) (hkk:∀ t∈ts,KdIn (fun k=>k≠z) t):LoopV ps W0 sa sc aa ac n B0 g w w4 kd pv vv tv cv kv ts m u' where
 ld:=h.ld.put hz (by decide) hg (by omega) (by omega)
 hs:=h.hs.grown hg (by simp;omega)
 hn:=h.hn.grown hg (by simp;omega)
 h6:=h.h6.grown hg (by simp;omega)
 ow:=OwnOf.grown h.ow hg (fun k hk e=>by cases hk;exact hkz e)
 cl:=h.cl.grown h.ow hg (fun k hk e=>by cases hk;exact hkz e)
 is:=fun t ht=>(h.is t ht).offK (row:=some z) (by
  have h1:=h.kd' t ht
  have h2:=hkk t ht
  clear ht
  induction h1 with
  | mk kd pv p vv v kv ks ok _ ih =>
   cases h2 with
   | mk _ _ _ _ _ _ _ ok2 hks=>exact .mk _ _ _ _ _ _ _ (fun k hk=>⟨fun e=>ok2 k hk (by cases e;rfl),(ok k hk).2.1⟩) (fun x hx=>ih x hx (hks x hx))) hg (hz.cells8 hno)
 kd':=fun t ht=>(h.kd' t ht).mono (fun k hk=>⟨hk.1,Nat.lt_of_lt_of_le hk.2.1 hg.size,hk.2.2⟩)
 gr:=gb_then h.gr hg (fun k hk=>.inr (by cases hk;omega))
 gw:=gb_then h.gw hg (fun k hk=>.inr (by cases hk;omega))
theorem LoopV.row (h:LoopV ps W0 sa sc aa ac n B0 g w w4 kd pv vv tv cv kv ts m u) (hgw:g<w.heap.size) (hww:w.heap.size+1<w4.heap.size) (hW0:W0.heap.size≤w.heap.size) {ts':List Nd} (hall:∀ x∈ts',IsNd u x∧KdIn (fun k=>w4.heap.size+2≤k∧k<u.heap.size∧kv.ownBlock≠some k) x)
  {v':Value} {w9:World} (o':OwnOf ndcells 4 25 w9 (w4.heap.size+2) v' ts') (g9:u.grownBy w9 kv.ownBlock) (p9:∀ k,v'.ownBlock=some k→kv.ownBlock=some k∨u.heap.size≤k) (c9:Clean w9 v') :
  LoopV ps W0 sa sc aa ac n B0 g w w4 kd pv vv tv cv v' ts' m w9:=by
 have hlt:=fun k (hk:kv.ownBlock=some k)=>h.ow.lt k hk
 exact {
  ld:=h.ld.app h.ow g9 (by omega)
  hs:=h.hs.grown g9 (fun e=>by have:=hlt _ e;omega)
  hn:=h.hn.grown g9 (fun e=>by have:=hlt _ e;omega)
  h6:=h.h6.grown g9 (fun e=>by have:=hlt _ e;omega)
  ow:=o'
  cl:=c9
  is:=fun x hx=>(hall x hx).1.offK ((hall x hx).2.mono (fun k hk=>⟨hk.2.2,hk.2.1⟩)) g9 h.cl.cells
  kd':=fun x hx=>(hall x hx).2.mono (fun k hk=>⟨hk.1,Nat.lt_of_lt_of_le hk.2.1 g9.size,fun e=>by
   rcases p9 k e with h1|h1
   ·exact hk.2.2 h1
   ·have:=hk.2.1;omega⟩)
  gr:=gb_then h.gr g9 (fun k hk=>.inr (by have:=hlt k hk;omega))
  gw:=gb_then h.gw g9 (fun k hk=>.inr (by have:=hlt k hk;omega)) }
theorem LoopV.cell {pa va ca:Option Addr} {pn pc vn vc cn cc:Nat} (h:LoopV ps W0 sa sc aa ac n B0 g w w4 kd (.slice pa pn pc) (.slice va vn vc) tv (.slice ca cn cc) kv ts m u) (hgw:g<w.heap.size) (hww:w.heap.size+1<w4.heap.size) (hW0:W0.heap.size≤w.heap.size) (v':Value) :
  LoopV ps W0 sa sc aa ac n B0 g w w4 kd (.slice pa pn pc) (.slice va vn vc) tv v' kv ts m (u.setCell ⟨w4.heap.size+1,3,none⟩ v'):=by
 have hlt:=fun k (hk:kv.ownBlock=some k)=>h.ow.lt k hk
 have gc:u.grownBy (u.setCell ⟨w4.heap.size+1,3,none⟩ v') (some (w4.heap.size+1)):=grown_cell 3 _
 exact {
  ld:=h.ld.put h.hn (by decide) gc (by omega) (by omega)
  hs:=h.hs.grown gc (by simp)
  hn:=h.hn.set 3 _
  h6:=h.h6.grown gc (by simp;omega)
  ow:=OwnOf.grown h.ow gc (fun k hk e=>by cases hk;have:=hlt _ e;omega)
  cl:=h.cl.grown h.ow gc (fun k hk e=>by cases hk;have:=hlt _ e;omega)
  is:=fun x hx=>(h.is x hx).offK (row:=some (w4.heap.size+1)) ((h.kd' x hx).mono (fun k hk=>⟨fun e=>by cases e;omega,hk.2.1⟩)) gc (h.hn.cells8 (no8_nd _ _ _ _ _ _ _ _ _ _))
  kd':=fun x hx=>(h.kd' x hx).mono (fun k hk=>⟨hk.1,by rw [World.size_setCell];exact hk.2.1,hk.2.2⟩)
  gr:=gb_then h.gr gc (fun k hk=>.inr (by cases hk;omega))
  gw:=gb_then h.gw gc (fun k hk=>.inr (by cases hk;omega)) }
theorem LoopV.kid (h:LoopV ps W0 sa sc aa ac n B0 g w w4 kd pv vv tv cv kv ts m u) (hgw:g<w.heap.size) (hww:w.heap.size+1<w4.heap.size) (hW0:W0.heap.size≤w.heap.size) {m':Nat} {t:Nd} {u2 u3:World} (hl:ViW ps W0 sa sc aa ac n B0 g m' u2) (hg:u.grownBy u2 (some g)) (ht:IsNd u2 t) (hk:KdIn (fun k=>u.heap.size≤k∧k<u2.heap.size) t) (hb:Below u2.heap.size u2 u3) :
  LoopV ps W0 sa sc aa ac n B0 g w w4 kd pv vv tv cv kv ts m' u3∧IsNd u3 t∧KdIn (fun k=>w4.heap.size+2≤k∧k<u3.heap.size∧kv.ownBlock≠some k) t:=by
 have hB:=h.hn.lt
 have hlt:=fun k (hk:kv.ownBlock=some k)=>(World.ownsRow.lt h.ow k hk).2
 exact ⟨(h.call hgw hww hl hg).kept hb,ht.kept hb,hk.mono (fun k hk=>⟨by omega,Nat.lt_of_lt_of_le hk.2 hb.size,fun e=>by have:=hlt _ e;omega⟩)⟩
theorem LoopV.bytes (h:LoopV ps W0 sa sc aa ac n B0 g w w4 kd pv vv tv cv kv ts m u) {m4:Nat} (hz:Blk 171 w4 g (viC (.slice sa n sc) (.slice aa n ac) m4)) {v:Value} {l:List UInt8} (hv:Bytes w4 v l):Bytes u v l:=RowOf.offI (size:=1) (fun _=>rfl) (by omega) hv hz h.ld.hz h.gr (fun x _=>vi_b8 sa n sc aa n ac m4 m x)
theorem LoopV.texts (h:LoopV ps W0 sa sc aa ac n B0 g w w4 kd pv vv tv cv kv ts m u) {m4:Nat} (hz:Blk 171 w4 g (viC (.slice sa n sc) (.slice aa n ac) m4)) {v:Value} {l:List (Value × List UInt8)} (hv:Texts w4 v l):Texts u v l:=hv.offI hz h.ld.hz h.gr (fun x=>vi_b8 sa n sc aa n ac m4 m x) (fun a n' c=>vi_tc _ _ m4 m a n' c)
end
def CmPost (R:Ldr) (ps:List (Value × List UInt8)) (W0:World) (sa:Option Addr) (sc:Nat) (aa:Option Addr) (ac n B0 g:Nat) (w:World) (e:Ending) (w':World):Prop:=∃ t,e=.returned (.tuple #[.agg (ndcells t).toArray,.int .i64 R.1])∧IsNd w' t∧(R.1=0→erN t=R.2.1)∧KdIn (fun k=>w.heap.size≤k∧k<w'.heap.size) t∧ViW ps W0 sa sc aa ac n B0 g R.2.2 w'∧w.grownBy w' (some g)
theorem LoopV.done {ps:List (Value × List UInt8)} {W0:World} {sa:Option Addr} {sc:Nat} {aa:Option Addr} {ac n B0 g:Nat} {w w4:World} {kd:Int} {pa va ka:Option Addr} {pn pc vn vc kn kc:Nat} {tv:Value} {ts:List Nd} {m:Nat} {u u':World} {pp vb:List UInt8} (h:LoopV ps W0 sa sc aa ac n B0 g w w4 kd (.slice pa pn pc) (.slice va vn vc) tv (.slice ka kn kc) (.slice ka kn kc) ts m u) (hgw:g<w.heap.size) (hww:w.heap.size+1<w4.heap.size) (hW0:W0.heap.size≤w.heap.size) {m4:Nat} (hz:Blk 171 w4 g (viC (.slice sa n sc) (.slice aa n ac) m4)) (hp:Bytes w4 (.slice pa pn pc) pp) (hv:Bytes w4 (.slice va vn vc) vb)
  (hg:u.grownBy u' (some (w.heap.size+1))) {R:Ldr} (h1:R.1=0→R.2.1=.mk kd pp vb (ts.map erN)) (h2:R.2.2=m):CmPost R ps W0 sa sc aa ac n B0 g w (.returned (.tuple #[.agg #[.int .i64 kd,.slice pa pn pc,.slice va vn vc,.slice ka kn kc],.int .i64 R.1])) u':=by
 have hc8:=h.h6.cells8 (no8_nd 0 none none none 0 0 0 0 0 0)
 have hlt:=fun k (hk:(Value.slice ka kn kc).ownBlock=some k)=>World.ownsRow.lt h.ow k hk
 refine ⟨.mk kd (.slice pa pn pc) pp (.slice va vn vc) vb (.slice ka kn kc) ts,rfl,.mk _ _ _ _ _ _ _ (Bytes.offC (h.bytes hz hp) hg hc8) (Bytes.offC (h.bytes hz hv) hg hc8) (RowOf.offT h.ow.row hg (fun x hx=>by have:=(hlt x hx).1;omega)) (fun t ht=>(h.is t ht).offK (row:=some (w.heap.size+1)) ((h.kd' t ht).mono (fun k hk=>⟨fun e=>by cases e;omega,hk.2.1⟩)) hg hc8),fun e=>by rw [h1 e];simp only [erN,erNL_map],.mk _ _ _ _ _ _ _ (fun k hk=>⟨by have:=(hlt k hk).1;omega,Nat.lt_of_lt_of_le (hlt k hk).2 hg.size⟩) (fun t ht=>(h.kd' t ht).mono (fun k hk=>⟨by omega,Nat.lt_of_lt_of_le hk.2.1 hg.size⟩)),by rw [h2];exact h.ld.put h.h6 (by decide) hg (by omega) (by omega),gb_then h.gw hg (fun k hk=>.inr (by cases hk;omega))⟩
end Go.Proofs.Ytakhaanenlblmaa
