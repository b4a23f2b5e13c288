/- The loader in a world; root's node: what goes wrong before the code is read. | root's node: what is read isn't right. | What lies there while root's node goes through the kids. -/
import Derived.Test.YtakhaanenlblmaaLdA
/- (Ld5) The loader in a world; root's node: what goes wrong before the code is read. -/
set_option linter.unusedSimpArgs false
set_option linter.unusedVariables false
namespace Go.Proofs.Ytakhaanenlblmaa
open Go.RowKit
theorem gb_of {w w':World} (h:Below w.heap.size w w') (row:Option Nat):w.grownBy w' row:=⟨h.os,h.tape,h.output,h.size,fun k hk _=>h.block k hk⟩
theorem gb_then {g:Nat} {w w1 w2:World} {row:Option Nat} (h:w.grownBy w1 (some g)) (h2:w1.grownBy w2 row) (hr:∀ k,row=some k→k=g∨w.heap.size≤k):w.grownBy w2 (some g) :=
 ⟨h2.os.trans h.os,h2.tape.trans h.tape,h2.output.trans h.output,Nat.le_trans h.size h2.size,fun k hk hne=>(h2.block k (Nat.lt_of_lt_of_le hk h.size) (fun e=>by
  rcases hr k e.symm with h3|h3
  ·exact hne (by rw [h3])
  ·omega)).trans (h.block k hk hne)⟩
theorem gb_below {g B:Nat} {w w1 w2:World} (h:w.grownBy w1 (some g)) (h2:Below B w1 w2) (hB:w.heap.size≤B):w.grownBy w2 (some g) :=
 ⟨h2.os.trans h.os,h2.tape.trans h.tape,h2.output.trans h.output,Nat.le_trans h.size h2.size,fun k hk hne=>(h2.block k (by omega)).trans (h.block k hk hne)⟩
theorem below_gb {g B:Nat} {w w1 w2:World} (h:Below B w w1) (h2:w1.grownBy w2 (some g)) (hB:B≤g) (hs:B≤w1.heap.size):Below B w w2:=h.grown h2 hs (fun k hk=>by cases hk;exact hB)
structure LdW (ps:List (Value × List UInt8)) (W0:World) (g b N m:Nat) (u:World):Prop where
 hz:Blk 166 u g (ldC b m)
 hk:KH u b N ps
 hw:Below W0.heap.size W0 u
 hg:W0.heap.size≤g
 hne:b≠g
theorem LdW.kept {ps:List (Value × List UInt8)} {W0 u u':World} {g b N m:Nat} (h:LdW ps W0 g b N m u) (hb:Below u.heap.size u u'):LdW ps W0 g b N m u' :=
 ⟨h.hz.kept hb,h.hk.kept hb,Below.then h.hw (hb),h.hg,h.hne⟩
theorem LdW.turn {ps:List (Value × List UInt8)} {W0 u u':World} {g b N m m':Nat} (h:LdW ps W0 g b N m u) (hz:Blk 166 u' g (ldC b m')) (hg:u.grownBy u' (some g)):LdW ps W0 g b N m' u' :=
 ⟨hz,h.hk.grown hg (by simpa using h.hne),below_gb h.hw hg h.hg h.hw.size,h.hg,h.hne⟩
theorem KH.notBlk {w:World} {b n z:Nat} {ps:List (Value × List UInt8)} {e:TypeId} {cs:List Value} (h:KH w b n ps) (hz:Blk e w z cs):b≠z:=by
 obtain ⟨D,⟨es,ck,h1,_⟩,_⟩:=h
 intro e2
 subst e2
 have hz2:w.heap[b]?=some (.cells cs.toArray e (0,0)):=hz
 rw [hz2] at h1;cases h1
theorem KH.notOwn {α:Type} {f:α→List Value} {size:Nat} {e:TypeId} {B:Nat} {v:Value} {l:List α} {w:World} {b n:Nat} {ps:List (Value × List UInt8)} (h:KH w b n ps) (ho:OwnOf f size e w B v l):some b≠v.ownBlock:=by
 obtain ⟨D,⟨es,ck,h1,_⟩,_⟩:=h
 rcases ho.2 with ⟨rfl,_⟩|⟨g',cap,cur,rfl,_,hg,_⟩
 ·simp [Value.ownBlock]
 ·intro e2
  simp only [Value.ownBlock,Option.some.injEq] at e2
  subst e2
  rw [hg] at h1;cases h1
theorem LdW.put {ps:List (Value × List UInt8)} {W0 u u':World} {g b N m z:Nat} {e:TypeId} {cs:List Value} (h:LdW ps W0 g b N m u) (hz:Blk e u z cs) (hg:u.grownBy u' (some z)) (hzg:z≠g) (hzW:W0.heap.size≤z):LdW ps W0 g b N m u' :=
 ⟨h.hz.grown hg (by simpa using hzg),h.hk.grown hg (by simpa using h.hk.notBlk hz),below_gb h.hw hg hzW h.hw.size,h.hg,h.hne⟩
theorem LdW.app {α:Type} {f:α→List Value} {size:Nat} {e:TypeId} {B:Nat} {v:Value} {l:List α} {ps:List (Value × List UInt8)} {W0 u u':World} {g b N m:Nat} (h:LdW ps W0 g b N m u) (ho:OwnOf f size e u B v l) (he:e≠166) (hg:u.grownBy u' v.ownBlock) (hB:W0.heap.size≤B):LdW ps W0 g b N m u' :=
 ⟨h.hz.grown hg (ho.notT h.hz he),h.hk.grown hg (h.hk.notOwn ho),h.hw.grown hg h.hw.size (fun k hk=>Nat.le_trans hB (ho.lt k hk)),h.hg,h.hne⟩
def lookV (ps:List (Value × List UInt8)) (h:List UInt8):Value:=((firstQ ps h).map (·.1)).getD (.slice none 0 0)
theorem KH.look {w:World} {b n:Nat} {ps:List (Value × List UInt8)} (h:KH w b n ps) (k:List UInt8) (hk:k.length=32) :
  (Instr.lookup 164 (.map (some b)) (.agg (k.map u8v).toArray) true).run Try.prog w=.ok (.tuple #[lookV ps k,.bool (firstQ ps k).isSome]) w:=by
 obtain ⟨D,h1,h2⟩:=h
 obtain ⟨v,ms,hr,hv⟩:=h1.look_ok lawHash (t:=164) (e:=22) Try.underlying164 (z:=.slice none 0 0) (by kernel_rfl) (zd:=.held (.slice none 0 0)) (zp:=[]) rfl (keyHash k hk)
 obtain ⟨l1,l2⟩:=h2.look k
 rw [hr,l1]
 have:v=lookV ps k:=by
  unfold lookV
  cases hf:firstQ ps k with
  | some q=>exact l2 q hf v ms hv
  | none =>
   have hn:Maps.has D (.string k)=false:=by rw [l1,hf];rfl
   rw [Maps.atKey_of_not_has hn] at hv
   simp only [heldR,Option.some.injEq,Prod.mk.injEq,DataW.held.injEq] at hv
   exact hv.1
 rw [this]
set_option maxHeartbeats 4000000 in
set_option maxRecDepth 100000 in
theorem node_early (ps:List (Value × List UInt8)) (W0:World) (g b N m d:Nat) (h:List UInt8) (hl:h.length=32) (hd:d≤1000000000) (hm:m≤4096) (E:Int) (hE:(64<d∧E=1)∨(d≤64∧firstQ ps h=none∧E=5)∨(d≤64∧(firstQ ps h).isSome=true∧m=4096∧E=6)) (w:World) (hw:LdW ps W0 g b N m w) :
  Calls Try.prog 81 #[.pointer (some ⟨g,0,none⟩),.agg (h.map u8v).toArray,.int .i64 (d:Int)] w fun e w'=>e=.returned (.tuple #[.agg (ndcells zN).toArray,.int .i64 E])∧Below w.heap.size w w':=by
 have look:=fun (u:World) (hu:Below w.heap.size w u)=>(hw.hk.kept hu).look h hl
 have hgl:=hw.hz.lt
 have G0:=fun (u:World) (hu:Below w.heap.size w u)=>(hw.hz.kept hu).cell 0
 have G1:=fun (u:World) (hu:Below w.heap.size w u)=>(hw.hz.kept hu).cell 1
 simp only [ldC,List.getElem?_cons_zero,List.getElem?_cons_succ] at G0 G1
 obtain ⟨K,hK⟩:∃ K,K=h.map u8v:=⟨_,rfl⟩
 have hKl:K.length=32:=by rw [hK,List.length_map];exact hl
 have hK1:∀ u∈K,u.oneCell'=true:=by rw [hK];intro u hu;obtain ⟨y,_,rfl⟩:=List.mem_map.1 hu;rfl
 simp only [← hK] at look ⊢
 obtain ⟨V,hV⟩:∃ V,V=lookV ps h:=⟨_,rfl⟩
 obtain ⟨F,hF⟩:∃ F,F=(firstQ ps h).isSome:=⟨_,rfl⟩
 rw [← hV,← hF] at look
 obtain ⟨w1,hw1⟩:∃ w1,w1=(w.alloc (.cells K.toArray 69)).alloc (.cells #[.int .i64 0,.slice none 0 0,.slice none 0 0,.slice none 0 0] 25):=⟨_,rfl⟩
 have hbel:Below w.heap.size w w1:=by rw [hw1];exact ((Below.refl _ _).alloc (Nat.le_refl _) _).alloc (by simp) _
 have hh:Blk 69 w1 w.heap.size K:=by rw [hw1];exact (Blk.new w _ _).alloc _
 have hz:Blk 25 w1 (w.heap.size+1) (ndcells zN):=by
  have:=Blk.new (w.alloc (.cells K.toArray 69)) 25 (ndcells zN)
  simp only [World.size_alloc] at this
  rw [hw1];exact this
 have lookE:=fun u:Ext w1=>look u.val (Below.then hbel u.property)
 have g0:=fun u:Ext w1=>G0 u.val (Below.then hbel u.property)
 have rh:=hh.all0
 have G1':=Lib.hid G1
 have Hw1:=Lib.hid hw1
 have HKl:=Lib.hid hKl
 have hcase:(64<d∧E=1)∨(d≤64∧F=false∧E=5)∨(d≤64∧F=true∧m=4096∧E=6):=by
  rcases hE with h1|⟨h1,h2,h3⟩|⟨h1,h2,h3⟩
  ·exact .inl h1
  ·exact .inr (.inl ⟨h1,by rw [hF,h2];rfl,h3⟩)
  ·exact .inr (.inr ⟨h1,by rw [hF];exact h2,h3⟩)
 clear hE hK hV hF hw1 G0 G1 look hw hl hKl
 rcases hcase with ⟨h1,rfl⟩|⟨h1,rfl,rfl⟩|⟨h1,rfl,rfl,rfl⟩
 ·have hz1:(64:Int)<(d:Int):=by omega
  clear h1 G1'
  go_enter Try.func81,Try.ntmps81
  go_wp2_with fail
  rw [show (w.alloc (.cells K.toArray 69)).alloc (.cells #[.int .i64 0,.slice none 0 0,.slice none 0 0,.slice none 0 0] 25)=w1 from Hw1.out.symm]
  refine wp_region_typed w1 11 (by kernel_rfl) (by kernel_rfl) (Below.refl _ _) ?_;simp only [List.take_succ_cons,List.take_zero,List.take_nil]
  iterate 4 (refine wpX_step (by rfl) (fun K hK=>?_);go_simp;first|(refine hK _ ?_;clear hK K)|(apply Exists.intro;refine ⟨fun _=>?_,hK _ ?_⟩;exact g0 _;clear hK K))
  (refine wpX_step (by rfl) (fun K hK=>?_);rw [if_pos (by rfl)];refine ⟨_,fun u=>const_loadm _ (.tmp 4) (by rfl) _ _ (by rfl) aggHash' HKl.out (rangeAt.ext rh u),hK _ ?_⟩;clear hK K;simp only [Act.put,List.setIfInBounds_toArray,List.set_cons_zero,List.set_cons_succ])
  (refine wpX_step (by rfl) (fun K hK=>?_);go_simp;first|(refine hK _ ?_;clear hK K)|(apply Exists.intro;refine ⟨fun _=>?_,hK _ ?_⟩;exact lookE _;clear hK K))
  iterate 5 (refine wpX_step (by rfl) (fun K hK=>?_);go_simp;first|(refine hK _ ?_;clear hK K)|(apply Exists.intro;refine ⟨fun _=>?_,hK _ ?_⟩;fail;clear hK K))
  refine wpX_nil ?_
  intro y hy
  change forallRel y [] _ _
  simp only [forallRel,List.drop_succ_cons,List.drop_zero,List.drop_nil]
  have by1:=Below.then hbel hy
  have hzy:=hz.kept hy
  go_wp2_with ((with_reducible show wpList _ _ _ (⟨none,Op.store _ _ (Operand.tmp 28),_,_,_,_⟩::_) _ _);refine wpList_storeA (o:=⟨none,_,_,_,_,_⟩) (by rfl) 25 (.tmp 6) (.tmp 28) (by rfl) (w.heap.size+1) (ndcells zN) (by rfl) (by rfl) aggNode hzy (by rfl) (by rfl) (by intro u hu;simp [ndcells,zN] at hu;rcases hu with rfl|rfl <;> rfl) by1 (by omega) ?_;intro w3 h3 b3 _)
  exact bodyPost_ret (results_blk_tmp rfl _ _ (w.heap.size+1) aggNode h3 (by rfl) rfl rfl) rfl ⟨rfl,b3⟩
 ·have hz1:¬ (64:Int)<(d:Int):=by omega
  clear h1 G1'
  go_enter Try.func81,Try.ntmps81
  go_wp2_with fail
  rw [show (w.alloc (.cells K.toArray 69)).alloc (.cells #[.int .i64 0,.slice none 0 0,.slice none 0 0,.slice none 0 0] 25)=w1 from Hw1.out.symm]
  refine wp_region_typed w1 11 (by kernel_rfl) (by kernel_rfl) (Below.refl _ _) ?_;simp only [List.take_succ_cons,List.take_zero,List.take_nil]
  iterate 4 (refine wpX_step (by rfl) (fun K hK=>?_);go_simp;first|(refine hK _ ?_;clear hK K)|(apply Exists.intro;refine ⟨fun _=>?_,hK _ ?_⟩;exact g0 _;clear hK K))
  (refine wpX_step (by rfl) (fun K hK=>?_);rw [if_pos (by rfl)];refine ⟨_,fun u=>const_loadm _ (.tmp 4) (by rfl) _ _ (by rfl) aggHash' HKl.out (rangeAt.ext rh u),hK _ ?_⟩;clear hK K;simp only [Act.put,List.setIfInBounds_toArray,List.set_cons_zero,List.set_cons_succ])
  (refine wpX_step (by rfl) (fun K hK=>?_);go_simp;first|(refine hK _ ?_;clear hK K)|(apply Exists.intro;refine ⟨fun _=>?_,hK _ ?_⟩;exact lookE _;clear hK K))
  iterate 5 (refine wpX_step (by rfl) (fun K hK=>?_);go_simp;first|(refine hK _ ?_;clear hK K)|(apply Exists.intro;refine ⟨fun _=>?_,hK _ ?_⟩;fail;clear hK K))
  refine wpX_nil ?_
  intro y hy
  change forallRel y [] _ _
  simp only [forallRel,List.drop_succ_cons,List.drop_zero,List.drop_nil]
  have by1:=Below.then hbel hy
  have hzy:=hz.kept hy
  go_wp2_with ((with_reducible show wpList _ _ _ (⟨none,Op.store _ _ (Operand.tmp 32),_,_,_,_⟩::_) _ _);refine wpList_storeA (o:=⟨none,_,_,_,_,_⟩) (by rfl) 25 (.tmp 6) (.tmp 32) (by rfl) (w.heap.size+1) (ndcells zN) (by rfl) (by rfl) aggNode hzy (by rfl) (by rfl) (by intro u hu;simp [ndcells,zN] at hu;rcases hu with rfl|rfl <;> rfl) by1 (by omega) ?_;intro w3 h3 b3 _)
  exact bodyPost_ret (results_blk_tmp rfl _ _ (w.heap.size+1) aggNode h3 (by rfl) rfl rfl) rfl ⟨rfl,b3⟩
 ·have hz1:¬ (64:Int)<(d:Int):=by omega
  clear h1
  go_enter Try.func81,Try.ntmps81
  go_wp2_with fail
  rw [show (w.alloc (.cells K.toArray 69)).alloc (.cells #[.int .i64 0,.slice none 0 0,.slice none 0 0,.slice none 0 0] 25)=w1 from Hw1.out.symm]
  refine wp_region_typed w1 11 (by kernel_rfl) (by kernel_rfl) (Below.refl _ _) ?_;simp only [List.take_succ_cons,List.take_zero,List.take_nil]
  iterate 4 (refine wpX_step (by rfl) (fun K hK=>?_);go_simp;first|(refine hK _ ?_;clear hK K)|(apply Exists.intro;refine ⟨fun _=>?_,hK _ ?_⟩;exact g0 _;clear hK K))
  (refine wpX_step (by rfl) (fun K hK=>?_);rw [if_pos (by rfl)];refine ⟨_,fun u=>const_loadm _ (.tmp 4) (by rfl) _ _ (by rfl) aggHash' HKl.out (rangeAt.ext rh u),hK _ ?_⟩;clear hK K;simp only [Act.put,List.setIfInBounds_toArray,List.set_cons_zero,List.set_cons_succ])
  (refine wpX_step (by rfl) (fun K hK=>?_);go_simp;first|(refine hK _ ?_;clear hK K)|(apply Exists.intro;refine ⟨fun _=>?_,hK _ ?_⟩;exact lookE _;clear hK K))
  iterate 5 (refine wpX_step (by rfl) (fun K hK=>?_);go_simp;first|(refine hK _ ?_;clear hK K)|(apply Exists.intro;refine ⟨fun _=>?_,hK _ ?_⟩;fail;clear hK K))
  refine wpX_nil ?_
  intro y hy
  change forallRel y [] _ _
  simp only [forallRel,List.drop_succ_cons,List.drop_zero,List.drop_nil]
  have by1:=Below.then hbel hy
  have hzy:=hz.kept hy
  have hg1:=G1'.out y by1
  go_wp2_with ((with_reducible show wpList _ _ _ (⟨none,Op.store _ _ (Operand.tmp 39),_,_,_,_⟩::_) _ _);refine wpList_storeA (o:=⟨none,_,_,_,_,_⟩) (by rfl) 25 (.tmp 6) (.tmp 39) (by rfl) (w.heap.size+1) (ndcells zN) (by rfl) (by rfl) aggNode hzy (by rfl) (by rfl) (by intro u hu;simp [ndcells,zN] at hu;rcases hu with rfl|rfl <;> rfl) by1 (by omega) ?_;intro w3 h3 b3 _)
  exact bodyPost_ret (results_blk_tmp rfl _ _ (w.heap.size+1) aggNode h3 (by rfl) rfl rfl) rfl ⟨rfl,b3⟩
end Go.Proofs.Ytakhaanenlblmaa
/- (Ld6) root's node: what is read isn't right. -/
namespace Go.Proofs.Ytakhaanenlblmaa
open Go.RowKit
set_option maxHeartbeats 4000000 in
set_option maxRecDepth 100000 in
theorem node_form (ps:List (Value × List UInt8)) (W0:World) (HT:∀ q∈ps,Bytes W0 q.1 q.2∧q.2.length≤1048576) (g b N m d:Nat) (h:List UInt8) (hl:h.length=32) (hd:d≤64) (hm:m<4096) (q:Value × List UInt8) (hq:firstQ ps h=some q) (hE:rdB q.2=none∨∃ s,rdB q.2=some s∧s.1=0∧0<d) (w:World) (hw:LdW ps W0 g b N m w) :
  Calls Try.prog 81 #[.pointer (some ⟨g,0,none⟩),.agg (h.map u8v).toArray,.int .i64 (d:Int)] w fun e w'=>e=.returned (.tuple #[.agg (ndcells zN).toArray,.int .i64 1])∧LdW ps W0 g b N (m+1) w'∧w.grownBy w' (some g):=by
 have look:=fun (u:World) (hu:Below w.heap.size w u)=>(hw.hk.kept hu).look h hl
 have hgl:=hw.hz.lt
 have G0:=fun (u:World) (hu:Below w.heap.size w u)=>(hw.hz.kept hu).cell 0
 simp only [ldC,List.getElem?_cons_zero] at G0
 obtain ⟨K,hK⟩:∃ K,K=h.map u8v:=⟨_,rfl⟩
 have hKl:K.length=32:=by rw [hK,List.length_map];exact hl
 have HTq:=HT q (first_mem hq).1
 have hV:lookV ps h=q.1:=by unfold lookV;rw [hq];rfl
 have hF:(firstQ ps h).isSome=true:=by rw [hq];rfl
 obtain ⟨qv,qc0⟩:=q
 obtain ⟨qa,qc,hqv,_⟩:=HTq.1.form
 dsimp only at hqv HTq hV
 subst hqv
 obtain ⟨qn,hqn⟩:∃ n,n=qc0.length:=⟨_,rfl⟩
 rw [← hqn] at HTq hV
 simp only [← hK,hV,hF] at look ⊢
 obtain ⟨w1,hw1⟩:∃ w1,w1=(w.alloc (.cells K.toArray 69)).alloc (.cells #[.int .i64 0,.slice none 0 0,.slice none 0 0,.slice none 0 0] 25):=⟨_,rfl⟩
 have hbel:Below w.heap.size w w1:=by rw [hw1];exact ((Below.refl _ _).alloc (Nat.le_refl _) _).alloc (by simp) _
 have hh:Blk 69 w1 w.heap.size K:=by rw [hw1];exact (Blk.new w _ _).alloc _
 have hz:Blk 25 w1 (w.heap.size+1) (ndcells zN):=by
  have:=Blk.new (w.alloc (.cells K.toArray 69)) 25 (ndcells zN)
  simp only [World.size_alloc] at this
  rw [hw1];exact this
 have hsz1:w1.heap.size=w.heap.size+2:=by rw [hw1];simp
 have lookE:=fun u:Ext w1=>look u.val (Below.then hbel u.property)
 have g0:=fun u:Ext w1=>G0 u.val (Below.then hbel u.property)
 have rh:=hh.all0
 have Hw1:=Lib.hid hw1
 have HKl:=Lib.hid hKl
 obtain ⟨S,hS⟩:∃ S,S=(rdB qc0).getD (0,[],[],[]):=⟨_,rfl⟩
 obtain ⟨E,hE2⟩:∃ E:Int,E=if (rdB qc0).isSome then 0 else 1:=⟨_,rfl⟩
 have C:=fun (u:World) (hu:Below W0.heap.size W0 u)=>Calls.mono (rread_any qa qn qc qc0 hqn.symm HTq.2 u (HTq.1.below hu)) (R':=fun e w'=>RdForm S E u e w') (fun e w' h=>by rw [hS,hE2];exact rd_form h)
 have hcase:E=1∨(E=0∧S.1=0∧0<d):=by
  rcases hE with h1|⟨s,h1,h2,h3⟩
  ·exact .inl (by rw [hE2,h1];rfl)
  ·exact .inr ⟨by rw [hE2,h1];rfl,by rw [hS,h1];exact h2,h3⟩
 obtain ⟨kd,pp,vb,ts⟩:=S
 have C1:=Lib.hid C
 have FW:=Lib.hid (fun (u:World) (hu:Below w.heap.size w u)=>hw.kept hu)
 have hgW:=hw.hg
 have hW0:=hw.hw.size
 have hz1:¬ (64:Int)<(d:Int):=by omega
 have hmm:¬ (m:Int)=4096:=by omega
 obtain ⟨M1,hM1⟩:∃ n,n=m+1:=⟨_,rfl⟩
 have hwr:IntKind.i64.wrap ((m:Int)+1)=(M1:Int):=by rw [IntWalk.i64_in _ (by omega)];omega
 have HM1:=Lib.hid hM1
 clear hM1
 clear hE hK hV hF hw1 G0 look hw hl hKl hS hE2 C hq hqn HTq
 rcases hcase with rfl|⟨rfl,hk0,hd0⟩
 ·clear hd
  go_enter Try.func81,Try.ntmps81
  go_wp2_with fail
  rw [show (w.alloc (.cells K.toArray 69)).alloc (.cells #[.int .i64 0,.slice none 0 0,.slice none 0 0,.slice none 0 0] 25)=w1 from Hw1.out.symm]
  refine wp_region_typed w1 11 (by kernel_rfl) (by kernel_rfl) (Below.refl _ _) ?_;simp only [List.take_succ_cons,List.take_zero,List.take_nil]
  iterate 4 (refine wpX_step (by rfl) (fun K hK=>?_);go_simp;first|(refine hK _ ?_;clear hK K)|(apply Exists.intro;refine ⟨fun _=>?_,hK _ ?_⟩;exact g0 _;clear hK K))
  (refine wpX_step (by rfl) (fun K hK=>?_);rw [if_pos (by rfl)];refine ⟨_,fun u=>const_loadm _ (.tmp 4) (by rfl) _ _ (by rfl) aggHash' HKl.out (rangeAt.ext rh u),hK _ ?_⟩;clear hK K;simp only [Act.put,List.setIfInBounds_toArray,List.set_cons_zero,List.set_cons_succ])
  (refine wpX_step (by rfl) (fun K hK=>?_);go_simp;first|(refine hK _ ?_;clear hK K)|(apply Exists.intro;refine ⟨fun _=>?_,hK _ ?_⟩;exact lookE _;clear hK K))
  iterate 5 (refine wpX_step (by rfl) (fun K hK=>?_);go_simp;first|(refine hK _ ?_;clear hK K)|(apply Exists.intro;refine ⟨fun _=>?_,hK _ ?_⟩;fail;clear hK K))
  refine wpX_nil ?_
  intro y hy
  change forallRel y [] _ _
  simp only [forallRel,List.drop_succ_cons,List.drop_zero,List.drop_nil]
  have by1:=Below.then hbel hy
  have hzy:=hz.kept hy
  have Fy:=FW.out y by1
  have hg1:y.cell? ⟨g,1,none⟩=some (.int .i64 (m:Int)):=Fy.hz.cell 1
  have hgf:=Fy.hz.free 1
  obtain ⟨y1,hy1⟩:∃ y1,y1=y.setCell ⟨g,1,none⟩ (.int .i64 (M1:Int)):=⟨_,rfl⟩
  have z1:Blk 166 y1 g (ldC b (m+1)):=by rw [hy1,← HM1.out];exact Fy.hz.set 1 _
  have gy:y.grownBy y1 (some g):=by rw [hy1];exact grown_cell 1 _
  have F1:LdW ps W0 g b N (m+1) y1:=Fy.turn z1 gy
  have G1:w.grownBy y1 (some g):=gb_then (gb_of by1 _) gy (fun k hk=>.inl (by cases hk;rfl))
  have hzy1:Blk 25 y1 (w.heap.size+1) (ndcells zN):=hzy.grown gy (by simp;omega)
  have sy1:y1.heap.size=y.heap.size:=by rw [hy1];simp
  have szy:w.heap.size+2≤y1.heap.size:=by have:=hy.size;omega
  have C2:=C1.out y1 F1.hw
  go_wp2_with (first
   | (go_at_call 139;rw [← hy1];(with_reducible refine C2.mono ?_);rintro e w4 ⟨pa,pc,va,vc,ka,kc,ps4,rfl,b4,_⟩;have F4:=F1.kept b4;have G4:=gb_below G1 b4 (by omega);have hz4:=(hzy1.kept b4);have s4:=b4.size)
   | ((with_reducible show wpList _ _ _ (⟨none,Op.store _ _ (Operand.tmp 63),_,_,_,_⟩::_) _ _);refine wpList_storeA (o:=⟨none,_,_,_,_,_⟩) (by rfl) 25 (.tmp 6) (.tmp 63) (by rfl) (w.heap.size+1) (ndcells zN) (by rfl) (by rfl) aggNode (hz4.alloc _) (by rfl) (by rfl) (by intro u hu;simp [ndcells,zN] at hu;rcases hu with rfl|rfl <;> rfl) (Below.refl 0 _) (Nat.zero_le _) ?_;intro w5 h5 _ g5))
  have FA:=F4.kept ((Below.refl w4.heap.size w4).alloc (Nat.le_refl _) (.cells #[.int .i64 kd,.slice pa pp.length pc,.slice va vb.length vc,.slice ka ts.length kc] 250))
  have GA:=gb_below G4 ((Below.refl w4.heap.size w4).alloc (Nat.le_refl _) (.cells #[.int .i64 kd,.slice pa pp.length pc,.slice va vb.length vc,.slice ka ts.length kc] 250)) (by omega)
  exact bodyPost_ret (results_blk_tmp rfl _ _ (w.heap.size+1) aggNode h5 (by rfl) rfl rfl) rfl ⟨rfl,FA.put (hz4.alloc _) g5 (by omega) (by omega),gb_then GA g5 (fun k hk=>.inr (by cases hk;omega))⟩
 ·dsimp only at hk0
  subst hk0
  have hdz:(0:Int)<(d:Int):=by omega
  clear hd hd0
  go_enter Try.func81,Try.ntmps81
  go_wp2_with fail
  rw [show (w.alloc (.cells K.toArray 69)).alloc (.cells #[.int .i64 0,.slice none 0 0,.slice none 0 0,.slice none 0 0] 25)=w1 from Hw1.out.symm]
  refine wp_region_typed w1 11 (by kernel_rfl) (by kernel_rfl) (Below.refl _ _) ?_;simp only [List.take_succ_cons,List.take_zero,List.take_nil]
  iterate 4 (refine wpX_step (by rfl) (fun K hK=>?_);go_simp;first|(refine hK _ ?_;clear hK K)|(apply Exists.intro;refine ⟨fun _=>?_,hK _ ?_⟩;exact g0 _;clear hK K))
  (refine wpX_step (by rfl) (fun K hK=>?_);rw [if_pos (by rfl)];refine ⟨_,fun u=>const_loadm _ (.tmp 4) (by rfl) _ _ (by rfl) aggHash' HKl.out (rangeAt.ext rh u),hK _ ?_⟩;clear hK K;simp only [Act.put,List.setIfInBounds_toArray,List.set_cons_zero,List.set_cons_succ])
  (refine wpX_step (by rfl) (fun K hK=>?_);go_simp;first|(refine hK _ ?_;clear hK K)|(apply Exists.intro;refine ⟨fun _=>?_,hK _ ?_⟩;exact lookE _;clear hK K))
  iterate 5 (refine wpX_step (by rfl) (fun K hK=>?_);go_simp;first|(refine hK _ ?_;clear hK K)|(apply Exists.intro;refine ⟨fun _=>?_,hK _ ?_⟩;fail;clear hK K))
  refine wpX_nil ?_
  intro y hy
  change forallRel y [] _ _
  simp only [forallRel,List.drop_succ_cons,List.drop_zero,List.drop_nil]
  have by1:=Below.then hbel hy
  have hzy:=hz.kept hy
  have Fy:=FW.out y by1
  have hg1:y.cell? ⟨g,1,none⟩=some (.int .i64 (m:Int)):=Fy.hz.cell 1
  have hgf:=Fy.hz.free 1
  obtain ⟨y1,hy1⟩:∃ y1,y1=y.setCell ⟨g,1,none⟩ (.int .i64 (M1:Int)):=⟨_,rfl⟩
  have z1:Blk 166 y1 g (ldC b (m+1)):=by rw [hy1,← HM1.out];exact Fy.hz.set 1 _
  have gy:y.grownBy y1 (some g):=by rw [hy1];exact grown_cell 1 _
  have F1:LdW ps W0 g b N (m+1) y1:=Fy.turn z1 gy
  have G1:w.grownBy y1 (some g):=gb_then (gb_of by1 _) gy (fun k hk=>.inl (by cases hk;rfl))
  have hzy1:Blk 25 y1 (w.heap.size+1) (ndcells zN):=hzy.grown gy (by simp;omega)
  have sy1:y1.heap.size=y.heap.size:=by rw [hy1];simp
  have szy:w.heap.size+2≤y1.heap.size:=by have:=hy.size;omega
  have C2:=C1.out y1 F1.hw
  go_wp2_with (first
   | (go_at_call 139;rw [← hy1];(with_reducible refine C2.mono ?_);rintro e w4 ⟨pa,pc,va,vc,ka,kc,ps4,rfl,b4,_⟩;have F4:=F1.kept b4;have G4:=gb_below G1 b4 (by omega);have hz4:=(hzy1.kept b4);have s4:=b4.size)
   | ((with_reducible show wpList _ _ _ (⟨none,Op.store _ _ (Operand.tmp 63),_,_,_,_⟩::_) _ _);refine wpList_storeA (o:=⟨none,_,_,_,_,_⟩) (by rfl) 25 (.tmp 6) (.tmp 63) (by rfl) (w.heap.size+1) (ndcells zN) (by rfl) (by rfl) aggNode (hz4.alloc _) (by rfl) (by rfl) (by intro u hu;simp [ndcells,zN] at hu;rcases hu with rfl|rfl <;> rfl) (Below.refl 0 _) (Nat.zero_le _) ?_;intro w5 h5 _ g5))
  have FA:=F4.kept ((Below.refl w4.heap.size w4).alloc (Nat.le_refl _) (.cells #[.int .i64 0,.slice pa pp.length pc,.slice va vb.length vc,.slice ka ts.length kc] 250))
  have GA:=gb_below G4 ((Below.refl w4.heap.size w4).alloc (Nat.le_refl _) (.cells #[.int .i64 0,.slice pa pp.length pc,.slice va vb.length vc,.slice ka ts.length kc] 250)) (by omega)
  exact bodyPost_ret (results_blk_tmp rfl _ _ (w.heap.size+1) aggNode h5 (by rfl) rfl rfl) rfl ⟨rfl,FA.put (hz4.alloc _) g5 (by omega) (by omega),gb_then GA g5 (fun k hk=>.inr (by cases hk;omega))⟩
end Go.Proofs.Ytakhaanenlblmaa
/- (Ld7) What lies there while root's node goes through the kids. -/
namespace Go.Proofs.Ytakhaanenlblmaa
open Go.RowKit
theorem bytes_range {w:World} {b off n c:Nat} {s:Option Nat} {l:List UInt8} (h:Bytes w (.slice (some ⟨b,off,s⟩) n c) l) (h0:0<n):s=none∧w.rangeAt b off (l.map u8v):=by
 have hn:=h.fits.1
 obtain ⟨_,a',c',hv,_,_,h3⟩:=h
 simp only [Value.slice.injEq] at hv
 obtain ⟨rfl,_,rfl⟩:=hv
 rcases h3 with ⟨h4,_⟩|⟨b',off',s',he,hs,hc⟩
 ·cases h4
 ·simp only [Option.some.injEq,Addr.mk.injEq] at he
  obtain ⟨rfl,rfl,rfl⟩:=he
  refine ⟨hs.resolve_right (by omega),fun j v hv=>hc j v (by rw [flat_b8];exact hv)⟩
theorem no8_nd (kd:Int) (pa va ka:Option Addr) (pn pc vn vc kn kc:Nat):∀ u∈[Value.int .i64 kd,.slice pa pn pc,.slice va vn vc,.slice ka kn kc],∀ k,u≠.int .u8 k:=by
 intro u hu k
 simp only [List.mem_cons,List.not_mem_nil,or_false] at hu
 rcases hu with rfl|rfl|rfl|rfl <;> simp
theorem no8_ndcells {w:World} {t:Nd} (h:IsNd w t):∀ u∈ndcells t,∀ k,u≠.int .u8 k:=by
 obtain ⟨kd,pv,p,vv,v,kv,ks⟩:=t
 obtain ⟨h1,h2,h3,_⟩:=h.inv
 obtain ⟨pa,pc,rfl,_⟩:=h1.form
 obtain ⟨va,vc,rfl,_⟩:=h2.form
 obtain ⟨ka,kc,rfl,_⟩:=h3.form
 exact no8_nd _ _ _ _ _ _ _ _ _ _
structure LoopN (ps:List (Value × List UInt8)) (W0:World) (g b N:Nat) (w w4:World) (kd:Int) (pv vv tv:Value) (kv:Value) (ts:List Nd) (m:Nat) (u:World):Prop where
 ld:LdW ps W0 g b N m u
 hs:Blk 250 u w4.heap.size [.int .i64 kd,pv,vv,tv]
 hn:Blk 25 u (w4.heap.size+1) [.int .i64 kd,pv,vv,kv]
 h6:Blk 25 u (w.heap.size+1) (ndcells zN)
 ow:OwnOf ndcells 4 25 u (w4.heap.size+2) kv ts
 cl:Clean u kv
 is:∀ t∈ts,IsNd u t
 kd':∀ t∈ts,KdIn (fun k=>w4.heap.size+2≤k∧k<u.heap.size∧kv.ownBlock≠some k) t
 gr:w4.grownBy u (some g)
 gw:w.grownBy u (some g)
section
variable {ps:List (Value × List UInt8)} {W0:World} {g b N:Nat} {w w4:World} {kd:Int} {pv vv tv:Value} {kv:Value} {ts:List Nd} {m:Nat} {u u':World}
theorem LoopN.kept (h:LoopN ps W0 g b N w w4 kd pv vv tv kv ts m u) (hb:Below u.heap.size u u'):LoopN ps W0 g b N w w4 kd pv vv tv kv ts m u' where
 ld:=h.ld.kept hb
 hs:=h.hs.kept hb
 hn:=h.hn.kept hb
 h6:=h.h6.kept hb
 ow:=h.ow.kept hb
 cl:=h.cl.same (fun k hk=>hb.block k ((World.ownsRow.lt h.ow k hk).2))
 is:=fun t ht=>(h.is t ht).kept hb
 kd':=fun t ht=>(h.kd' t ht).mono (fun k hk=>⟨hk.1,Nat.lt_of_lt_of_le hk.2.1 hb.size,hk.2.2⟩)
 gr:=gb_below h.gr hb h.gr.size
 gw:=gb_below h.gw hb h.gw.size
theorem LoopN.call (h:LoopN ps W0 g b N w w4 kd pv vv tv kv ts m u) (hgw:g<w.heap.size) (hww:w.heap.size+1<w4.heap.size) {m':Nat} (hl:LdW ps W0 g b N m' u') (hg:u.grownBy u' (some g)):LoopN ps W0 g b N w w4 kd pv vv tv kv ts m' u' where
 ld:=hl
 hs:=h.hs.grown hg (by simp;omega)
 hn:=h.hn.grown hg (by simp;omega)
 h6:=h.h6.grown hg (by simp;omega)
 ow:=OwnOf.grown h.ow hg (fun k hk e=>by cases hk;have:=h.ow.lt g e;omega)
 cl:=h.cl.grown h.ow hg (fun k hk e=>by cases hk;have:=h.ow.lt g e;omega)
 is:=fun t ht=>(h.is t ht).offI h.ld.hz hl.hz hg (ld_b8 b m m') (ld_nd b m m')
 kd':=fun t ht=>(h.kd' t ht).mono (fun k hk=>⟨hk.1,Nat.lt_of_lt_of_le hk.2.1 hg.size,hk.2.2⟩)
 gr:=gb_then h.gr hg (fun k hk=>.inl (by cases hk;rfl))
 gw:=gb_then h.gw hg (fun k hk=>.inl (by cases hk;rfl))
theorem LoopN.put (h:LoopN ps W0 g b N w w4 kd pv vv tv kv ts m u) (hgw:g<w.heap.size) (hww:w.heap.size+1<w4.heap.size) (hW0:W0.heap.size≤w.heap.size) {z:Nat} {e:TypeId} {cs:List Value} (hz:Blk e u z cs) (hno:∀ u∈cs,∀ k,u≠.int .u8 k) (hg:u.grownBy u' (some z)) (hzB:w4.heap.size+2≤z) (hkz:kv.ownBlock≠some z) (hkk:∀ t∈ts,KdIn (fun k=>k≠z) t):LoopN ps W0 g b N w w4 kd pv vv tv kv ts m u' where
 ld:=h.ld.put hz hg (by omega) (by omega)
 hs:=h.hs.grown hg (by simp;omega)
 hn:=h.hn.grown hg (by simp;omega)
 h6:=h.h6.grown hg (by simp;omega)
 ow:=OwnOf.grown h.ow hg (fun k hk e=>by cases hk;exact hkz e)
 cl:=h.cl.grown h.ow hg (fun k hk e=>by cases hk;exact hkz e)
 is:=fun t ht=>(h.is t ht).offK (row:=some z) (by
  have h1:=h.kd' t ht
  have h2:=hkk t ht
  clear ht
  induction h1 with
  | mk kd pv p vv v kv ks ok _ ih =>
   cases h2 with
   | mk _ _ _ _ _ _ _ ok2 hks=>exact .mk _ _ _ _ _ _ _ (fun k hk=>⟨fun e=>ok2 k hk (by cases e;rfl),(ok k hk).2.1⟩) (fun x hx=>ih x hx (hks x hx))) hg (hz.cells8 hno)
 kd':=fun t ht=>(h.kd' t ht).mono (fun k hk=>⟨hk.1,Nat.lt_of_lt_of_le hk.2.1 hg.size,hk.2.2⟩)
 gr:=gb_then h.gr hg (fun k hk=>.inr (by cases hk;omega))
 gw:=gb_then h.gw hg (fun k hk=>.inr (by cases hk;omega))
theorem LoopN.snoc {pa va ka:Option Addr} {pn pc vn vc kn kc:Nat} (h:LoopN ps W0 g b N w w4 kd (.slice pa pn pc) (.slice va vn vc) tv (.slice ka kn kc) ts m u) (hgw:g<w.heap.size) (hww:w.heap.size+1<w4.heap.size) (hW0:W0.heap.size≤w.heap.size) {t:Nd} (ht:IsNd u t) (htk:KdIn (fun k=>w4.heap.size+2≤k∧k<u.heap.size∧(Value.slice ka kn kc).ownBlock≠some k) t)
  {v':Value} {w9:World} (o':OwnOf ndcells 4 25 w9 (w4.heap.size+2) v' (ts++[t])) (g9:u.grownBy w9 (Value.slice ka kn kc).ownBlock) (p9:∀ k,v'.ownBlock=some k→(Value.slice ka kn kc).ownBlock=some k∨u.heap.size≤k) (c9:Clean w9 v') :
  LoopN ps W0 g b N w w4 kd (.slice pa pn pc) (.slice va vn vc) tv v' (ts++[t]) m (w9.setCell ⟨w4.heap.size+1,3,none⟩ v'):=by
 have hall:∀ x∈ts++[t],IsNd u x∧KdIn (fun k=>w4.heap.size+2≤k∧k<u.heap.size∧(Value.slice ka kn kc).ownBlock≠some k) x:=fun x hx=>by
  rcases List.mem_append.1 hx with hx|hx
  ·exact ⟨h.is x hx,h.kd' x hx⟩
  ·rw [List.mem_singleton] at hx;subst hx;exact ⟨ht,htk⟩
 have hlt:=fun k (hk:(Value.slice ka kn kc).ownBlock=some k)=>h.ow.lt k hk
 have hlt':=fun k (hk:v'.ownBlock=some k)=>o'.lt k hk
 have l9:=h.ld.app h.ow (by decide) g9 (by omega)
 have s9:=h.hs.grown g9 (fun e=>by have:=hlt _ e;omega)
 have n9:=h.hn.grown g9 (fun e=>by have:=hlt _ e;omega)
 have z9:=h.h6.grown g9 (fun e=>by have:=hlt _ e;omega)
 have i9:∀ x∈ts++[t],IsNd w9 x:=fun x hx=>(hall x hx).1.offK ((hall x hx).2.mono (fun k hk=>⟨hk.2.2,hk.2.1⟩)) g9 h.cl.cells
 have k9:∀ x∈ts++[t],KdIn (fun k=>w4.heap.size+2≤k∧k<w9.heap.size∧v'.ownBlock≠some k) x:=fun x hx=>(hall x hx).2.mono (fun k hk=>⟨hk.1,Nat.lt_of_lt_of_le hk.2.1 g9.size,fun e=>by
  rcases p9 k e with h1|h1
  ·exact hk.2.2 h1
  ·have:=hk.2.1;omega⟩)
 have r9:=gb_then h.gr g9 (fun k hk=>.inr (by have:=hlt k hk;omega))
 have q9:=gb_then h.gw g9 (fun k hk=>.inr (by have:=hlt k hk;omega))
 have gc:w9.grownBy (w9.setCell ⟨w4.heap.size+1,3,none⟩ v') (some (w4.heap.size+1)):=grown_cell 3 _
 exact {
  ld:=l9.put n9 gc (by omega) (by omega)
  hs:=s9.grown gc (by simp)
  hn:=n9.set 3 _
  h6:=z9.grown gc (by simp;omega)
  ow:=OwnOf.grown o' gc (fun k hk e=>by cases hk;have:=hlt' _ e;omega)
  cl:=c9.grown o' gc (fun k hk e=>by cases hk;have:=hlt' _ e;omega)
  is:=fun x hx=>(i9 x hx).offK (row:=some (w4.heap.size+1)) ((k9 x hx).mono (fun k hk=>⟨fun e=>by cases e;omega,hk.2.1⟩)) gc (n9.cells8 (no8_nd _ _ _ _ _ _ _ _ _ _))
  kd':=fun x hx=>(k9 x hx).mono (fun k hk=>⟨hk.1,by rw [World.size_setCell];exact hk.2.1,hk.2.2⟩)
  gr:=gb_then r9 gc (fun k hk=>.inr (by cases hk;omega))
  gw:=gb_then q9 gc (fun k hk=>.inr (by cases hk;omega)) }
theorem LoopN.kid (h:LoopN ps W0 g b N w w4 kd pv vv tv kv ts m u) (hgw:g<w.heap.size) (hww:w.heap.size+1<w4.heap.size) (hW0:W0.heap.size≤w.heap.size) {m':Nat} {t:Nd} {u1 u2 u3:World} (hu:Below u.heap.size u u1) (hs1:u1.heap.size=u.heap.size+1) {e:TypeId} {cs:List Value} (hz:Blk e u1 u.heap.size cs) (hno:∀ u∈cs,∀ k,u≠.int .u8 k)
  (hl:LdW ps W0 g b N m' u2) (hg:u1.grownBy u2 (some g)) (ht:IsNd u2 t) (hk:KdIn (fun k=>u1.heap.size≤k∧k<u2.heap.size) t) (hg3:u2.grownBy u3 (some u.heap.size)) :
  LoopN ps W0 g b N w w4 kd pv vv tv kv ts m' u3∧IsNd u3 t∧KdIn (fun k=>w4.heap.size+2≤k∧k<u3.heap.size∧kv.ownBlock≠some k) t:=by
 have hB:w4.heap.size+2≤u.heap.size:=by
  have:=h.hn.lt
  omega
 have hlt:=fun k (hk:kv.ownBlock=some k)=>(World.ownsRow.lt h.ow k hk).2
 have hgz:g≠u.heap.size:=by have:=h.gw.size;omega
 have hz2:=hz.grown hg (by simpa using hgz)
 have h2:=(h.kept hu).call hgw hww hl hg
 refine ⟨h2.put hgw hww hW0 hz2 hno hg3 hB (fun e=>by have:=hlt _ e;omega) (fun x hx=>(h.kd' x hx).mono (fun k hk=>by have:=hk.2.1;omega)),ht.offK (row:=some u.heap.size) (hk.mono (fun k hk=>⟨fun e=>by cases e;omega,hk.2⟩)) hg3 (hz2.cells8 hno),hk.mono (fun k hk=>⟨by omega,Nat.lt_of_lt_of_le hk.2 hg3.size,fun e=>by have:=hlt _ e;omega⟩)⟩
theorem LoopN.bytes (h:LoopN ps W0 g b N w w4 kd pv vv tv kv ts m u) {m4:Nat} (hz:Blk 166 w4 g (ldC b m4)) {v:Value} {l:List UInt8} (hv:Bytes w4 v l):Bytes u v l:=RowOf.offI (size:=1) (fun _=>rfl) (by omega) hv hz h.ld.hz h.gr (fun x _=>ld_b8 b m4 m x)
theorem LoopN.texts (h:LoopN ps W0 g b N w w4 kd pv vv tv kv ts m u) {m4:Nat} (hz:Blk 166 w4 g (ldC b m4)) {v:Value} {l:List (Value × List UInt8)} (hv:Texts w4 v l):Texts u v l:=hv.offI hz h.ld.hz h.gr (fun x=>ld_b8 b m4 m x) (fun a n c=>ld_tc b m4 m a n c)
end
def NdPost (R:Ldr) (ps:List (Value × List UInt8)) (W0:World) (g b N:Nat) (w:World) (e:Ending) (w':World):Prop:=∃ t,e=.returned (.tuple #[.agg (ndcells t).toArray,.int .i64 R.1])∧IsNd w' t∧(R.1=0→erN t=R.2.1)∧KdIn (fun k=>w.heap.size≤k∧k<w'.heap.size) t∧LdW ps W0 g b N R.2.2 w'∧w.grownBy w' (some g)
theorem LoopN.done {ps:List (Value × List UInt8)} {W0:World} {g b N:Nat} {w w4:World} {kd:Int} {pa va ka:Option Addr} {pn pc vn vc kn kc:Nat} {tv:Value} {ts:List Nd} {m:Nat} {u u':World} {pp vb:List UInt8} (h:LoopN ps W0 g b N w w4 kd (.slice pa pn pc) (.slice va vn vc) tv (.slice ka kn kc) ts m u) (hgw:g<w.heap.size) (hww:w.heap.size+1<w4.heap.size) (hW0:W0.heap.size≤w.heap.size) {m4:Nat} (hz:Blk 166 w4 g (ldC b m4)) (hp:Bytes w4 (.slice pa pn pc) pp) (hv:Bytes w4 (.slice va vn vc) vb)
  (hg:u.grownBy u' (some (w.heap.size+1))) {R:Ldr} (hR:R=(0,.mk kd pp vb (ts.map erN),m)):NdPost R ps W0 g b N w (.returned (.tuple #[.agg #[.int .i64 kd,.slice pa pn pc,.slice va vn vc,.slice ka kn kc],.int .i64 0])) u':=by
 subst hR
 have hc8:=h.h6.cells8 (no8_nd 0 none none none 0 0 0 0 0 0)
 have hlt:=fun k (hk:(Value.slice ka kn kc).ownBlock=some k)=>World.ownsRow.lt h.ow k hk
 refine ⟨.mk kd (.slice pa pn pc) pp (.slice va vn vc) vb (.slice ka kn kc) ts,rfl,.mk _ _ _ _ _ _ _ (Bytes.offC (h.bytes hz hp) hg hc8) (Bytes.offC (h.bytes hz hv) hg hc8) (RowOf.offT h.ow.row hg (fun x hx=>by have:=(hlt x hx).1;omega)) (fun t ht=>(h.is t ht).offK (row:=some (w.heap.size+1)) ((h.kd' t ht).mono (fun k hk=>⟨fun e=>by cases e;omega,hk.2.1⟩)) hg hc8),fun _=>by simp only [erN,erNL_map],.mk _ _ _ _ _ _ _ (fun k hk=>⟨by have:=(hlt k hk).1;omega,Nat.lt_of_lt_of_le (hlt k hk).2 hg.size⟩) (fun t ht=>(h.kd' t ht).mono (fun k hk=>⟨by omega,Nat.lt_of_lt_of_le hk.2.1 hg.size⟩)),h.ld.put h.h6 hg (by omega) (by omega),gb_then h.gw hg (fun k hk=>.inr (by cases hk;omega))⟩
end Go.Proofs.Ytakhaanenlblmaa
