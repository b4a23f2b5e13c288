/- tree's show: leaves and roads. | tree's show: forks. | tree.show. | tree.Get and the reference's GGet. | tree.Put. -/
import Derived.Test.YtbdmkfjgnjfjbaaGreatLazyServesK13
import Derived.Test.YtbdmkfjgnjfjbaaGreatLazyServesK09
import Derived.Handy
import Derived.Test.YtbdmkfjgnjfjbaaGreatLazyServesK11
import Derived.Test.YtbdmkfjgnjfjbaaGreatLazyServesK14
import Derived.Test.YtbdmkfjgnjfjbaaGreatLazyServesK15
set_option linter.unusedSimpArgs false
set_option linter.unusedVariables false
set_option maxHeartbeats 4000000
set_option maxRecDepth 100000
namespace Go.Proofs.YtbdmkfjgnjfjbaaGreat
open Go.RowKit
theorem Q8f (a:Option Addr)(n c:Nat)(l:List UInt8)(hl:n≤1000000000)(B:Nat)(w:World)(hB:B≤w.heap.size)(h:Bytes w (.slice a n c) l):Calls Tryz.prog 170 #[.slice a n c] w fun e w'=>∃ v,e=.returned v∧TxO B l v w'∧Below w.heap.size w w' :=
 (Q8g a n c l hl w h).mono (by
  rintro e w' ⟨v,rfl,o,b⟩
  exact ⟨v,rfl,⟨o.row,fun k hk=>by have:=o.lt k hk;omega⟩,b⟩)
theorem Qh2 (X : Value) (n : Nat) (h : 0 < n) (w : World) : (method n 189 X "lampbearer/tree.plain").run Tryz.prog w = .ok (206, X) w := by
 cases n with
 | zero=>omega
 | succ n=>kernel_rfl
theorem Qic (X:Value)(w:World):(callFunc 206 #[X]).run Tryz.prog w=.ok (.enter 206 #[X]) w:=by kernel_rfl
def PlC (k:Nd):Prop:=∀ (X:Value) (w:World),nv k=.iface 189 X→IsNv w k→Calls Tryz.prog 206 #[X] w (Q0x (clN k) w)
theorem Qed (pa va:Option Addr)(pn pc vn vc:Nat)(p v:List UInt8)(hpn:pn≤1000000000)(hvn:vn≤1000000000)(w:World)(hp:Bytes w (.slice pa pn pc) p)(hv:Bytes w (.slice va vn vc) v) :
  Calls Tryz.prog 204 #[.agg #[.slice pa pn pc,.slice va vn vc]] w (Q0x (.mk 1 p v []) w):=by
 obtain ⟨w1,hw1⟩:∃ w1,w1=(w.alloc (.cells #[.slice pa pn pc,.slice va vn vc] 182)).alloc (.cells (Q03 zN).toArray 70):=⟨_,rfl⟩
 have hz0:Blk 182 w1 w.heap.size [.slice pa pn pc,.slice va vn vc]:=by rw [hw1];exact (Blk.new w _ _).alloc _
 have hz:Blk 70 w1 (w.heap.size+1) (Q03 zN):=by
  have:=Blk.new (w.alloc (.cells #[.slice pa pn pc,.slice va vn vc] 182)) 70 (Q03 zN)
  simp only [World.size_alloc] at this
  rw [hw1];exact this
 have hbel:Below w.heap.size w w1:=by rw [hw1];exact (Qba _ _).alloc (by simp) _
 have hsz:w1.heap.size=w.heap.size+2:=by rw [hw1];simp
 have k0:=fun u:Ext w1=>u.cell (hz0.cell 0)
 have k1:=fun u:Ext w1=>u.cell (hz0.cell 1)
 have O1:=Qhd (fun (u:World) (hu:Below w.heap.size w u) (h2:w.heap.size+2≤u.heap.size)=>Q8f pa pn pc p hpn (w.heap.size+2) u h2 (hp.below hu))
 have O2:=Qhd (fun (u:World) (hu:Below w.heap.size w u) (h2:w.heap.size+2≤u.heap.size)=>Q8f va vn vc v hvn (w.heap.size+2) u h2 (hv.below hu))
 have Hw1:=Qhd hw1
 have Hz:=Qhd hz
 clear hw1 hz hz0 hp hv
 go_enter Tryz.func204,Tryz.ntmps204
 go_wp2_with fail
 rw [show (w.alloc (.cells #[.slice pa pn pc,.slice va vn vc] 182)).alloc (.cells #[.int .i64 0,.slice none 0 0,.slice none 0 0,.slice none 0 0] 70)=w1 from by rw [Hw1.out];rfl]
 refine Q02 w1 7 (by kernel_rfl) (by kernel_rfl) (Below.refl _ _) ?_;simp only [List.take_succ_cons,List.take_zero,List.take_nil]
 iterate 2 (refine Q01 (by rfl) (fun K hK=>?_);go_simp;refine hK _ ?_;clear hK K)
 refine Q07 5 (TxO (w.heap.size+2) p) rfl (of_decide_eq_true rfl) (TxO.mono _ _) (fun w6 hw6=>?_) ?_
 ·simp only [relOf,List.filter_nil,Q00]
  refine ⟨rfl,?_⟩
  go_simp
  exact (O1.out _ (Below.then hbel hw6) (by have:=hw6.size;omega)).mono (by rintro e w7 ⟨v,rfl,h,b⟩;exact ⟨_,rfl,h,b⟩)
 iterate 2 (refine Q01 (by rfl) (fun K hK=>?_);go_simp;refine hK _ ?_;clear hK K)
 refine Q07 8 (TxO (w.heap.size+2) v) rfl (of_decide_eq_true rfl) (TxO.mono _ _) (fun w6 hw6=>?_) ?_
 ·change Q00 w6 [] _ _
  simp only [Q00]
  refine ⟨rfl,?_⟩
  go_simp
  exact (O2.out _ (Below.then hbel hw6) (by have:=hw6.size;omega)).mono (by rintro e w7 ⟨v,rfl,h,b⟩;exact ⟨_,rfl,h,b⟩)
 refine Q07 9 (NdT (w.heap.size+2) (.mk 1 p v [])) rfl (of_decide_eq_true rfl) (NdT.mono _ _) (fun w6 hw6=>?_) ?_
 ·change Q00 w6 [(8,_),(5,_)] _ _
  rintro v8 ⟨h8,o8⟩ v5 ⟨h5,o5⟩
  obtain ⟨a8,c8,rfl,_,_⟩:=h8.form
  obtain ⟨a5,c5,rfl,_,_⟩:=h5.form
  simp only [Q00]
  refine ⟨rfl,?_⟩
  go_simp
  exact ⟨Below.refl _ _,.mk 1 _ p _ v (.slice none 0 0) [],rfl,.mk 1 _ p _ v (.slice none 0 0) [] h5 o5 h8 o8 (RowOf.nil Q03 4 _) (by intro k e;cases e) (by simp),rfl⟩
 refine Q09 ?_
 intro u2 hb2 v5 _ v8 _ v9 h9
 change wpList _ _ _ [_] _ _
 simp only [Act.put,Qzs]
 obtain ⟨t,rfl,ot,et⟩:=h9
 have bb2:=Below.then hbel hb2
 have hz2:=Hz.out.kept hb2
 have hone:=ot.is.one
 have hlen:=Q06 t
 clear k0 k1
 go_wp2_with ((with_reducible refine Qgs 9 ?_);refine Qsa 70 2 9 (w.heap.size+1) (Q03 t) Q05 hz2 hlen (by rfl) hone bb2 (by omega) ?_;intro w3 h3 b3 g3)
 exact bodyPost_ret (Q0b rfl _ _ (w.heap.size+1) Q05 h3 hlen rfl) rfl ⟨t,rfl,(ot.off g3 (by omega)).lower (by omega),et,b3⟩
theorem Qec (pa:Option Addr)(pn pc:Nat)(p:List UInt8)(hpn:pn≤1000000000)(k:Nd)(hk3:k.kd=3)(ih:PlC k)(w:World)(hp:Bytes w (.slice pa pn pc) p)(hk:IsNv w k) :
  Calls Tryz.prog 205 #[.agg #[.slice pa pn pc,nv k]] w (Q0x (.mk 2 p [] [clN k]) w):=by
 obtain ⟨X,hX⟩:=Q8i hk3
 have cg:=fun (u:World) (hu:Below w.heap.size w u)=>ih X u hX (hk.kept hu)
 rw [hX]
 obtain ⟨SG,hSG⟩:∃ SG,SG=clN k:=⟨_,rfl⟩
 rw [←hSG] at cg ⊢
 obtain ⟨w1,hw1⟩:∃ w1,w1=(w.alloc (.cells #[.slice pa pn pc,.iface 189 X] 185)).alloc (.cells (Q03 zN).toArray 70):=⟨_,rfl⟩
 have hz0:Blk 185 w1 w.heap.size [.slice pa pn pc,.iface 189 X]:=by rw [hw1];exact (Blk.new w _ _).alloc _
 have hz:Blk 70 w1 (w.heap.size+1) (Q03 zN):=by
  have:=Blk.new (w.alloc (.cells #[.slice pa pn pc,.iface 189 X] 185)) 70 (Q03 zN)
  simp only [World.size_alloc] at this
  rw [hw1];exact this
 have hbel:Below w.heap.size w w1:=by rw [hw1];exact (Qba _ _).alloc (by simp) _
 have hsz:w1.heap.size=w.heap.size+2:=by rw [hw1];simp
 have k0:=fun u:Ext w1=>u.cell (hz0.cell 0)
 have k1:=fun u:Ext w1=>u.cell (hz0.cell 1)
 have O1:=Qhd (fun (u:World) (hu:Below w.heap.size w u) (h2:w.heap.size+2≤u.heap.size)=>Q8f pa pn pc p hpn (w.heap.size+2) u h2 (hp.below hu))
 have Cg:=Qhd cg
 have Hw1:=Qhd hw1
 have Hz:=Qhd hz
 clear hw1 hz hz0 hp hk cg ih hX hSG hk3
 go_enter Tryz.func205,Tryz.ntmps205
 go_wp2_with fail
 rw [show (w.alloc (.cells #[.slice pa pn pc,.iface 189 X] 185)).alloc (.cells #[.int .i64 0,.slice none 0 0,.slice none 0 0,.slice none 0 0] 70)=w1 from by rw [Hw1.out];rfl]
 refine Q02 w1 8 (by kernel_rfl) (by kernel_rfl) (Below.refl _ _) ?_;simp only [List.take_succ_cons,List.take_zero,List.take_nil]
 iterate 2 (refine Q01 (by rfl) (fun K hK=>?_);go_simp;refine hK _ ?_;clear hK K)
 refine Q07 5 (TxO (w.heap.size+2) p) rfl (of_decide_eq_true rfl) (TxO.mono _ _) (fun w6 hw6=>?_) ?_
 ·simp only [relOf,List.filter_nil,Q00]
  refine ⟨rfl,?_⟩
  go_simp
  exact (O1.out _ (Below.then hbel hw6) (by have:=hw6.size;omega)).mono (by rintro e w7 ⟨v,rfl,h,b⟩;exact ⟨_,rfl,h,b⟩)
 iterate 2 (refine Q01 (by rfl) (fun K hK=>?_);go_simp;refine hK _ ?_;clear hK K)
 refine Q07 8 (NdT (w.heap.size+2) SG) rfl (of_decide_eq_true rfl) (NdT.mono _ _) (fun w6 hw6=>?_) ?_
 ·change Q00 w6 [] _ _
  simp only [Q00]
  refine ⟨rfl,?_⟩
  go_simp
  rw [Qh2 X _ (by decide) w6,Result.andThen_ok]
  show match (callFunc 206 #[X]).run Tryz.prog w6 with
   | Result.ok (Next.value u) w'=>Below w6.heap.size w6 w'∧NdT (w.heap.size+2) SG u w'
   | Result.ok Next.skip w'=>Below w6.heap.size w6 w'∧NdT (w.heap.size+2) SG undef w'
   | Result.ok (Next.enter f args) w'=>w'=w6∧Calls Tryz.prog f args w6 fun e w''=>∃ v,e=Ending.returned v∧NdT (w.heap.size+2) SG v w''∧Below w6.heap.size w6 w''
   | x=>False
  rw [Qic]
  refine ⟨rfl,?_⟩
  refine (Cg.out w6 (Below.then hbel hw6)).mono ?_
  rintro e w7 ⟨t,rfl,ot,et,b7⟩
  exact ⟨_,rfl,⟨t,rfl,ot.lower (by have:=hw6.size;omega),et⟩,b7⟩
 refine Q07 9 (NdT1 (w.heap.size+2) SG) rfl (of_decide_eq_true rfl) (NdT1.mono _ _) (fun w6 hw6=>?_) ?_
 ·change Q00 w6 [(8,_)] _ _
  rintro v53 ⟨t,rfl,ot,et⟩
  obtain ⟨kd,pv,p,vv,v,kv,ks⟩:=t
  have hbu:=Row.built Q06 w6 70 [.mk kd pv p vv v kv ks] 1 rfl (by unfold maxLen;omega)
  have hbA:Below w6.heap.size w6 (w6.alloc (.cells ([Nd.mk kd pv p vv v kv ks].flatMap Q03).toArray 70)):=Qba _ _
  have ot2:=ot.kept hbA
  simp only [Q03,Q00]
  refine ⟨rfl,?_⟩
  go_simp
  exact ⟨hbA,w6.heap.size,.mk kd pv p vv v kv ks,rfl,by have:=hw6.size;omega,hbu,ot2,et⟩
 refine Q07 10 (NdT (w.heap.size+2) (.mk 2 p [] [SG])) rfl (of_decide_eq_true rfl) (NdT.mono _ _) (fun w6 hw6=>?_) ?_
 ·change Q00 w6 [(9,_),(5,_)] _ _
  rintro v54 ⟨g,t,rfl,hg,hr,ot,et⟩ v49 ⟨h49,o49⟩
  obtain ⟨a49,c49,rfl,_,_⟩:=h49.form
  simp only [Q00]
  refine ⟨rfl,?_⟩
  go_simp
  refine ⟨Below.refl _ _,.mk 2 _ p (.slice none 0 0) [] _ [t],rfl,.mk 2 _ p (.slice none 0 0) [] _ [t] h49 o49 (RowOf.nil b8 1 _) (by intro k e;cases e) hr (fun k e=>by cases e;exact hg) (fun k hk=>by rw [List.mem_singleton] at hk;rw [hk];exact ot),?_⟩
  simp only [erN,erNL,et]
 refine Q09 ?_
 intro u2 hb2 v5 _ v8 _ v9 _ v10 h10
 change wpList _ _ _ [_] _ _
 simp only [Act.put,Qzs]
 obtain ⟨t,rfl,ot,et⟩:=h10
 have bb2:=Below.then hbel hb2
 have hz2:=Hz.out.kept hb2
 have hone:=ot.is.one
 have hlen:=Q06 t
 clear k0 k1
 go_wp2_with ((with_reducible refine Qgs 10 ?_);refine Qsa 70 2 10 (w.heap.size+1) (Q03 t) Q05 hz2 hlen (by rfl) hone bb2 (by omega) ?_;intro w3 h3 b3 g3)
 exact bodyPost_ret (Q0b rfl _ _ (w.heap.size+1) Q05 h3 hlen rfl) rfl ⟨t,rfl,(ot.off g3 (by omega)).lower (by omega),et,b3⟩
theorem Qdn {e e':TypeId}{w:World}{g:Nat}{cs cs':List Value}(h:Blk e w g cs)(h':Blk e' w g cs'):cs=cs':=by
 unfold Blk at h h'
 have e:=Option.some.inj (h.symm.trans h')
 injection e with e1 _
 simpa using congrArg Array.toList e1
theorem nd_no8 {w:World}{k:Nd}(h:IsNd w k):∀ u∈Q03 k,∀ x,u≠.int .u8 x:=by
 obtain ⟨kd,pv,p,vv,v,kv,ks⟩:=k
 obtain ⟨hp,hv,hk,_⟩:=h.inv
 obtain ⟨a1,c1,rfl,_,_⟩:=hp.form
 obtain ⟨a2,c2,rfl,_,_⟩:=hv.form
 obtain ⟨a3,c3,rfl,_,_⟩:=hk.form
 intro u hu x
 simp only [Q03,List.mem_cons,List.not_mem_nil,or_false] at hu
 rcases hu with rfl|rfl|rfl|rfl<;>simp
theorem Qlh {w:World}{ks:List Nd}(h:∀ k∈ks,IsNd w k):∀ u∈ks.flatMap Q03,∀ x,u≠.int .u8 x:=by
 intro u hu
 obtain ⟨k,hk,hu⟩:=List.mem_flatMap.1 hu
 exact nd_no8 (h k hk) u hu
structure FpN (w:World)(R F:Nat)(vv:Value)(v:List UInt8)(kids:List Nd)(u:World):Prop where
 hb:Below w.heap.size w u
 hz:Blk 70 u (w.heap.size+1) (Q03 zN)
 hR:Blk 70 u R (kids.flatMap Q03)
 hF:Blk 70 u F (fcells vv R)
 hv:TxO (w.heap.size+2) v vv u
 hk:∀ k∈kids,OwnNd u (R+1) k
 hl:kids.length=16
 hlR:w.heap.size+2≤R
 hlF:w.heap.size+2≤F
theorem FpN.ne {w:World}{R F:Nat}{vv:Value}{v:List UInt8}{kids:List Nd}{u:World}(h:FpN w R F vv v kids u):R≠F:=by
 rintro rfl
 have:=congrArg List.length (Qdn h.hR h.hF)
 rw [Q6k,h.hl] at this
 simp [fcells] at this
theorem FpN.kept {w:World}{R F:Nat}{vv:Value}{v:List UInt8}{kids:List Nd}{u u':World}(h:FpN w R F vv v kids u)(hb:Below u.heap.size u u'):FpN w R F vv v kids u' :=
 ⟨Below.then h.hb hb,h.hz.kept hb,h.hR.kept hb,h.hF.kept hb,⟨h.hv.1.below hb,h.hv.2⟩,fun k hk=>(h.hk k hk).kept hb,h.hl,h.hlR,h.hlF⟩
theorem FpN.row {w:World}{R F:Nat}{vv:Value}{v:List UInt8}{kids:List Nd}{u:World}(h:FpN w R F vv v kids u):RowOf Q03 4 u (.slice (some ⟨R,0,none⟩) 16 16) kids :=
 Blk.row h.hR kids 16 16 Q06 h.hl (fun _ _ e=>e) (Nat.le_refl _) (by unfold maxLen;omega)
theorem FpN.there {w:World}{R F:Nat}{vv:Value}{v:List UInt8}{kids:List Nd}{u:World}(h:FpN w R F vv v kids u)(i:Nat)(hi:i<16):u.there R (i*4) 4:=fun j hj=>by
 refine ⟨?_,h.hR.free _⟩
 rw [h.hR.cell,List.getElem?_eq_getElem (by rw [Q6k,h.hl];omega)]
 rfl
theorem FpN.put {w:World}{R F:Nat}{vv:Value}{v:List UInt8}{kids:List Nd}{u:World}(h:FpN w R F vv v kids u)(i:Nat)(hi:i<16)(t:Nd)(ht:OwnNd u (R+1) t):FpN w R F vv v (kids.set i t) (u.setCells R (i*4) (Q03 t)):=by
 have hg:u.grownBy (u.setCells R (i*4) (Q03 t)) (some R):=Q1v (Q03 t) (i*4) ⟨rfl,rfl,rfl,Nat.le_refl _,fun _ _ _=>rfl⟩
 have hlR:=h.hlR
 have hne:=h.ne
 have hR:=h.hR.sets (Q03 t) (i*4)
 rw [Qfy kids i (by rw [h.hl];exact hi) t] at hR
 have hno:=Qlh (fun k hk=>(h.hk k hk).is)
 refine ⟨h.hb.grown hg h.hb.size (fun k e=>by cases e;omega),h.hz.grown hg (fun e=>by simp at e;omega),hR,h.hF.grown hg (fun e=>by simp at e;omega),⟨Bytes.off_v h.hv.1 h.hR hno hg,h.hv.2⟩,fun k hk=>?_,by rw [List.length_set];exact h.hl,hlR,h.hlF⟩
 rcases List.mem_or_eq_of_mem_set hk with hk|rfl
 ·exact (h.hk k hk).off hg (Nat.lt_succ_self _)
 ·exact ht.off hg (Nat.lt_succ_self _)
theorem FpN.done {w:World}{R F:Nat}{vv:Value}{v:List UInt8}{kids:List Nd}{u u':World}(h:FpN w R F vv v kids u)(hg:u.grownBy u' (some (w.heap.size+1)))(hb:Below w.heap.size w u') :
  Q0x (.mk 3 [] v (kids.map erN)) w (.returned (.agg (fcells vv R).toArray)) u':=by
 have hlR:=h.hlR
 refine ⟨.mk 3 (.slice none 0 0) [] vv v (.slice (some ⟨R,0,none⟩) 16 16) kids,rfl,?_,?_,hb⟩
 ·refine .mk 3 _ [] vv v _ kids (RowOf.nil b8 1 _) (by intro k e;cases e) (h.hv.1.offV hg (fun k e=>by have:=h.hv.2 k e;omega)) (fun k e=>by have:=h.hv.2 k e;omega) (h.row.offV hg (fun k e=>by have e2:R=k:=(by cases e;rfl);omega)) (fun k e=>by have e2:R=k:=(by cases e;rfl);omega) (fun k hk=>?_)
  exact ((h.hk k hk).off hg (by omega)).lower (by omega)
 ·simp only [erN,Q1y]
def RwT (B:Nat):Ty:=fun v w=>∃ R,v=.slice (some ⟨R,0,none⟩) 16 16∧Blk 70 w R ((List.replicate 16 zN).flatMap Q03)∧B≤R
theorem RwT.mono (B:Nat):Mono (RwT B):=fun _ _ _ ⟨R,h,h2,h3⟩ hb=>⟨R,h,h2.kept hb,h3⟩
def FcT (B:Nat)(v:List UInt8):Ty:=fun x w=>∃ vv R,x=.agg (fcells vv R).toArray∧TxO B v vv w∧(∃ a n c,vv=.slice a n c)∧Blk 70 w R ((List.replicate 16 zN).flatMap Q03)∧B≤R
theorem FcT.mono (B:Nat)(v:List UInt8):Mono (FcT B v):=fun _ _ _ ⟨vv,R,h,h2,h3,h4,h5⟩ hb=>⟨vv,R,h,TxO.mono _ _ _ _ _ h2 hb,h3,h4.kept hb,h5⟩
def PtrN (e:TypeId)(cs:List Value)(B:Nat):Ty:=fun v w=>∃ g,v=.pointer (some ⟨g,0,none⟩)∧Blk e w g cs∧B≤g
theorem PtrN.mono (e:TypeId)(cs:List Value)(B:Nat):Mono (PtrN e cs B):=fun _ _ _ ⟨g,h1,h2,h3⟩ hb=>⟨g,h1,h2.kept hb,h3⟩
theorem Qjv (w:World):∃ w',(Instr.makeSlice 68 (.int .i64 16) (.int .i64 16)).run Tryz.prog w=.ok (.slice (some ⟨w.heap.size,0,none⟩) 16 16) w'∧Blk 70 w' w.heap.size ((List.replicate 16 zN).flatMap Q03)∧Below w.heap.size w w':=by
 obtain ⟨i,hi,hz,hsi,hby⟩:=elNode.info
 obtain ⟨w',h1,h2,h3⟩:=run_make_full (P:=Tryz.prog) w w.heap.size 68 70 i _ 4 elNode.ht hi hz hsi .i64 .i64 16 (by rw [hby];omega) (by unfold maxLen;omega) (Nat.le_refl _)
 refine ⟨w',h1,?_,(Below.refl _ _).grown h3 (Nat.le_refl _) (fun k hk=>by cases hk)⟩
 have hcs:(madeCells (Value.agg #[.int .i64 0,.slice none 0 0,.slice none 0 0,.slice none 0 0]).cells (16*4)).toList=(List.replicate 16 zN).flatMap Q03:=by
  unfold madeCells
  rw [Array.toList_map,Array.toList_range]
  rfl
 rw [←hcs]
 rcases h2.2 with ⟨h',_⟩|⟨g',cap',cur,h',_,hgg,_,_,hcs',htake⟩
 ·simp at h'
 ·simp only [Value.slice.injEq,Option.some.injEq,Addr.mk.injEq,and_true,true_and] at h'
  obtain ⟨rfl,rfl⟩:=h'
  have:cur.toList=(madeCells (Value.agg #[.int .i64 0,.slice none 0 0,.slice none 0 0,.slice none 0 0]).cells (16*4)).toList:=by
   rw [←htake];exact (List.take_of_length_le (by simp [hcs'])).symm
  unfold Blk;rw [←this];simpa using hgg
def ShC (k:Nd):Prop:=∀ w:World,IsNv w k→Calls Tryz.prog 106 #[nv k] w (Q0x (clN k) w)
theorem Qee (va:Option Addr)(vn vc:Nat)(v:List UInt8)(hvn:vn≤1000000000)(ks:List Nd)(hks:ks.length=16)(ih:∀ k∈ks,ShC k)(w:World)(hv:Bytes w (.slice va vn vc) v)(hk:∀ k∈ks,IsNv w k) :
  Calls Tryz.prog 206 #[.agg (nvL ks++[Value.slice va vn vc]).toArray] w (Q0x (.mk 3 [] v (clNL ks)) w):=by
 obtain ⟨FC,hFC⟩:∃ FC,FC=nvL ks++[Value.slice va vn vc]:=⟨_,rfl⟩
 have hNl:(nvL ks).length=16:=by rw [Q17];simp [hks]
 have hat:∀ i (hi:i<16),(nvL ks)[i]?=some (nv (ks[i]'(by omega))):=by
  intro i hi
  rw [Q17,List.getElem?_map,List.getElem?_eq_getElem (by omega)];rfl
 have h16:FC[16]?=some (.slice va vn vc):=by rw [hFC,List.getElem?_append_right (by omega),hNl];rfl
 have hpre:∀ (j:Nat) v,(nvL ks)[j]?=some v→FC[j]?=some v:=by
  intro j v h
  rw [hFC,List.getElem?_append_left (List.getElem?_eq_some_iff.1 h).1];exact h
 obtain ⟨w1,hw1⟩:∃ w1,w1=(w.alloc (.cells FC.toArray 189)).alloc (.cells (Q03 zN).toArray 70):=⟨_,rfl⟩
 have hz0:Blk 189 w1 w.heap.size FC:=by rw [hw1];exact (Blk.new w _ _).alloc _
 have hz:Blk 70 w1 (w.heap.size+1) (Q03 zN):=by
  have:=Blk.new (w.alloc (.cells FC.toArray 189)) 70 (Q03 zN)
  simp only [World.size_alloc] at this
  rw [hw1];exact this
 have hbel:Below w.heap.size w w1:=by rw [hw1];exact (Qba _ _).alloc (by simp) _
 have hsz:w1.heap.size=w.heap.size+2:=by rw [hw1];simp
 have k1:=fun u:Ext w1=>u.cell ((hz0.cell 16).trans h16)
 have r16:w1.rangeAt w.heap.size 0 (nvL ks):=fun j v hv=>by rw [Nat.zero_add,hz0.cell];exact hpre j v hv
 have O1:=Qhd (fun (u:World) (hu:Below w.heap.size w u) (h2:w.heap.size+2≤u.heap.size)=>Q8f va vn vc v hvn (w.heap.size+2) u h2 (hv.below hu))
 obtain ⟨KC,hKC⟩:∃ KC,KC=nvL ks:=⟨_,rfl⟩
 rw [←hFC]
 rw [←hKC] at r16 hNl
 have Hat:Hid (∀ i<16,KC[i]?=some (nv (ks.getD i nilN))):=Qhd (fun i hi=>by rw [hKC,hat i hi,List.getD_eq_getElem?_getD,List.getElem?_eq_getElem (by omega)];rfl)
 have Hks:=Qhd hks
 have Hmem:Hid (∀ i<16,ks.getD i nilN∈ks):=Qhd (fun i hi=>by rw [List.getD_eq_getElem?_getD,List.getElem?_eq_getElem (by omega)];exact List.getElem_mem _)
 have Hsh:Hid (∀ i<16,∀ u,Below w.heap.size w u→Calls Tryz.prog 106 #[nv (ks.getD i nilN)] u (Q0x (clN (ks.getD i nilN)) u)):=Qhd (fun i hi u hu=>ih _ (Hmem.out i hi) u ((hk _ (Hmem.out i hi)).kept hu))
 have HNl:=Qhd hNl
 have Hr16:=Qhd r16
 have Hw1:=Qhd hw1
 have Hz:=Qhd hz
 clear hat hpre hw1 hFC hKC hks hv hk ih hNl h16 hz0 hz r16 Hmem
 go_enter Tryz.func206,Tryz.ntmps206
 go_wp2_with fail
 rw [show (w.alloc (.cells FC.toArray 189)).alloc (.cells #[.int .i64 0,.slice none 0 0,.slice none 0 0,.slice none 0 0] 70)=w1 from by rw [Hw1.out];rfl]
 refine Q02 w1 6 (by kernel_rfl) (by kernel_rfl) (Below.refl _ _) ?_;simp only [List.take_succ_cons,List.take_zero,List.take_nil]
 iterate 2 (refine Q01 (by rfl) (fun K hK=>?_);go_simp;refine hK _ ?_;clear hK K)
 refine Q07 8 (TxO (w.heap.size+2) v) rfl (of_decide_eq_true rfl) (TxO.mono _ _) (fun w6 hw6=>?_) ?_
 ·simp only [relOf,List.filter_nil,Q00]
  refine ⟨rfl,?_⟩
  go_simp
  exact (O1.out _ (Below.then hbel hw6) (by have:=hw6.size;omega)).mono (by rintro e w7 ⟨v,rfl,h,b⟩;exact ⟨_,rfl,h,b⟩)
 refine Q07 9 (RwT (w.heap.size+2)) rfl (of_decide_eq_true rfl) (RwT.mono _) (fun w6 hw6=>?_) ?_
 ·change Q00 w6 [] _ _
  simp only [Q00]
  refine ⟨rfl,?_⟩
  obtain ⟨w7,hrun,hR7,b7⟩:=Qjv w6
  go_simp
  exact ⟨w6.heap.size,rfl,hR7,by have:=hw6.size;omega⟩
 refine Q07 10 (FcT (w.heap.size+2) v) rfl (of_decide_eq_true rfl) (FcT.mono _ _) (fun w6 hw6=>?_) ?_
 ·change Q00 w6 [(9,_),(8,_)] _ _
  rintro v9 ⟨R,rfl,hR9,hlR⟩ v8 ⟨h8,o8⟩
  obtain ⟨a8,c8,rfl,_,_⟩:=h8.form
  simp only [Q00]
  refine ⟨rfl,?_⟩
  go_simp
  exact ⟨Below.refl _ _,.slice a8 v.length c8,R,rfl,⟨h8,o8⟩,⟨_,_,_,rfl⟩,hR9,hlR⟩
 refine Q07 3 (PtrN 70 (Q03 zN) (w.heap.size+2)) rfl (of_decide_eq_true rfl) (PtrN.mono _ _ _) (fun w6 hw6=>?_) ?_
 ·show _∧_
  refine ⟨by rfl,?_⟩
  go_simp
  exact ⟨Qba _ _,w6.heap.size,rfl,Blk.new w6 70 (Q03 zN),by have:=hw6.size;omega⟩
 refine Q09 ?_
 intro u2 hb2 v8 _ v9 _ v10 h10 v3 h3
 change wpList _ _ _ [_] _ _
 simp only [Act.put,Qzs]
 obtain ⟨vv,R,rfl,hvv,⟨a8,n8,c8,rfl⟩,hR2,hlR⟩:=h10
 obtain ⟨F,rfl,hF2,hlF⟩:=h3
 have bb2:=Below.then hbel hb2
 have hz2:=Hz.out.kept hb2
 have honeF:∀ u∈fcells (.slice a8 n8 c8) R,u.oneCell'=true:=by intro u hu;simp [fcells,nilV] at hu;rcases hu with rfl|rfl|rfl|rfl<;>rfl
 have hrz:((List.replicate 16 zN).flatMap Q03).length=64:=by rw [Q6k];rfl
 have hRF:R≠F:=by
  rintro rfl
  have:=congrArg List.length (Qdn hR2 hF2)
  rw [hrz] at this
  simp [Q06] at this
 have hzl:(Q03 zN).length=4:=rfl
 have r162:u2.rangeAt w.heap.size 0 KC:=rangeAt.ext Hr16.out ⟨u2,hb2⟩
 clear k1
 have hpre:∀ u,Below u2.heap.size u2 u→u.rangeAt w.heap.size 0 KC:=fun u hu=>rangeAt.ext r162 ⟨u,hu⟩
 have hlt3:=hF2.lt
 go_wp2_with (first
  |((with_reducible refine Qgs 10 ?_);refine Qsa 70 3 10 F (fcells (.slice a8 n8 c8) R) Q05 hF2 rfl hzl honeF bb2 (by omega) ?_;intro w3 hF3 bb3 g3;have r163:w3.rangeAt w.heap.size 0 KC:=rangeAt.ext Hr16.out ⟨w3,(hb2.grown g3 hb2.size (fun k hk=>by cases hk;omega))⟩)
  |((with_reducible refine Qgl 12 ?_);refine Qlw 187 11 w.heap.size 0 Qij HNl.out r163 ?_))
 have FP:FpN w R F (.slice a8 n8 c8) v (List.replicate 16 zN) w3:=⟨bb3,hz2.grown g3 (fun e=>by simp at e;omega),hR2.grown g3 (fun e=>by simp at e;omega),hF3,⟨Bytes.off_v hvv.1 hF2 (nd_no8 (OwnNd.zero u2 0).is) g3,hvv.2⟩,fun k hk=>by rw [List.eq_of_mem_replicate hk];exact OwnNd.zero _ _,by simp,hlR,hlF⟩
 clear hpre r162 r163 hR2 hF2 hF3 hz2 g3 hvv bb2 hb2 hrz hzl O1 Hz Hr16 HNl hbel hsz hlt3
 go_loopw [13] (fun ix wr=>∃ (i:Nat) (kids:List Nd),i≤16∧ix=.int .i64 (i:Int)∧FpN w R F (.slice a8 n8 c8) v kids wr∧∀ j<i,(kids[j]?).map erN=(ks[j]?).map clN) (fun ix _=>16 - (intOf ix).toNat)
 case atStart=>exact ⟨0,List.replicate 16 zN,by omega,rfl,FP,fun j hj=>by omega⟩
 case round =>
  obtain ⟨i,kids,hii,rfl,FK1,hdn⟩:=hrel
  obtain ⟨wo,rfl⟩:∃ x,x=wr:=⟨wr,rfl⟩
  by_cases hlt:i<16
  ·have hki:(i:Int)<16:=by omega
   have hkl:i<kids.length:=by rw [FK1.hl];exact hlt
   have hix:=Q4x KC i hlt _ (Hat.out i hlt)
   have j3:=fun u:Ext wo=>u.cell ((FK1.hF.cell 3).trans (show _=some (Value.slice (some ⟨R,0,none⟩) 16 16) from rfl))
   have cs:=fun (u:World) (hu:Below wo.heap.size wo u)=>Hsh.out i hlt u (Below.then FK1.hb hu)
   have hkd:ks[i]?=some (ks.getD i nilN):=by rw [List.getD_eq_getElem?_getD,List.getElem?_eq_getElem (by have:=Hks.out;omega)];rfl
   obtain ⟨K,hK⟩:∃ K,K=ks.getD i nilN:=⟨_,rfl⟩
   rw [←hK] at hix hkd
   simp only [←hK] at cs
   obtain ⟨V,hV⟩:∃ V,V=nv K:=⟨_,rfl⟩
   rw [←hV] at hix
   simp only [←hV] at cs
   have Cs:=Qhd cs
   have Hkd:=Qhd hkd
   have Hdn:=Qhd hdn
   have hwi:IntKind.i64.wrap ((i:Int)+1)=((i+1:Nat):Int):=by rw [IntWalk.i64_in _ (by omega)];omega
   have hRlt:=FK1.hR.lt
   clear cs hK hV hkd hdn hlt
   go_wp2_with fail
   refine Q02 wo 6 (by kernel_rfl) (by kernel_rfl) (Below.refl _ _) ?_;simp only [List.take_succ_cons,List.take_zero,List.take_nil]
   iterate 4 (refine Q01 (by rfl) (fun K hK=>?_);go_simp;refine hK _ ?_;clear hK K)
   refine Q07 21 (NdT (R+1) (clN K)) rfl (of_decide_eq_true rfl) (NdT.mono _ _) (fun w6 hw6=>?_) ?_
   ·simp only [relOf,List.filter_nil,Q00]
    refine ⟨rfl,?_⟩
    go_simp
    refine (Cs.out w6 hw6).mono ?_
    rintro e w7 ⟨t,rfl,ot,et,b7⟩
    exact ⟨_,rfl,⟨t,rfl,ot.lower (by have:=hw6.size;omega),et⟩,b7⟩
   (refine Q01 (by rfl) (fun K hK=>?_);go_simp;refine hK _ ?_;clear hK K)
   refine Q09 ?_
   intro u3 hb3 v21 h21
   change wpList _ _ _ [_] _ _
   simp only [Act.put,Qzs]
   obtain ⟨t,rfl,ot,et⟩:=h21
   have hlt:i<16:=by omega
   have FK3:=FK1.kept hb3
   have hone:=ot.is.one
   have hlen:=Q06 t
   have hsz4:(Q03 t).toArray.size=4:=by rw [List.size_toArray,hlen]
   have hth:=FK3.there i hlt
   have FK4:=FK3.put i hlt t ot
   have hdn':Hid (∀ j<i+1,((kids.set i t)[j]?).map erN=(ks[j]?).map clN):=Qhd (fun j hj=>by
    by_cases e:j=i
    ·subst e
     rw [List.getElem?_set_self hkl,Hkd.out]
     simp [et]
    ·rw [List.getElem?_set_ne (fun h=>e h.symm)]
     exact Hdn.out j (by omega))
   clear j3 hlt
   go_wp2_with (refine wpList_store_mid (by rfl) 70 (.tmp 22) (.tmp 21) (by rfl) R (i*4) (Q03 t).toArray (by rfl) (by rfl) (by rw [hsz4];exact hth) (by rw [hsz4];kernel_rfl) (all_oneCell_toArray hone) ?_)
   go_roundw
   case rel=>exact ⟨i+1,kids.set i t,by omega,by go_num,FK4,hdn'.out⟩
   case measure=>simp [intOf];omega
  ·obtain rfl:i=16:=by omega
   have hzq:=FK1.hz
   have hFq:=FK1.hF
   have hbq:=FK1.hb
   have hkids:kids.map erN=clNL ks:=by
    rw [Q1c]
    apply List.ext_getElem?
    intro j
    by_cases hj:j<16
    ·rw [List.getElem?_map,List.getElem?_map];exact hdn j hj
    ·rw [List.getElem?_eq_none (by rw [List.length_map,FK1.hl];omega),List.getElem?_eq_none (by rw [List.length_map,Hks.out];omega)]
   have hfin:=fun u' hg hb=>FK1.done (u':=u') hg hb
   rw [hkids] at hfin
   have Hfin:=Qhd hfin
   clear hfin hkids hlt hdn
   go_wp2_with (first
    |(refine Qla 70 3 F Q05 hFq (by rfl) ?_)
    |((with_reducible refine Qgs 24 ?_);refine Qsa 70 2 24 (w.heap.size+1) (fcells (.slice a8 n8 c8) R) Q05 hzq (by rfl) (by rfl) honeF hbq (by omega) ?_;intro w7 h7 b7 g7))
   exact bodyPost_ret (Q0b rfl _ _ (w.heap.size+1) Q05 h7 (by rfl) rfl) rfl (Hfin.out _ g7 b7)
theorem Qfu (w:World):Calls Tryz.prog 106 #[.nilIface] w (Q0x nP w):=by
 have hz:=Blk.new w 70 (Q03 zN)
 have hbel:Below w.heap.size w (w.alloc (.cells (Q03 zN).toArray 70)):=Qba _ _
 have hfin:∀ u,Below w.heap.size w u→Q0x nP w (.returned (.agg (Q03 zN).toArray)) u:=fun u hu=>⟨zN,rfl,OwnNd.zero _ _,rfl,hu⟩
 have Hfin:=Qhd hfin
 clear hfin
 go_enter Tryz.func106,Tryz.ntmps106
 go_wp2_with ((with_reducible refine Qgs 5 ?_);refine Qsa 70 2 5 w.heap.size (Q03 zN) Q05 hz (by rfl) (by rfl) (by intro u hu;simp [zcells] at hu;rcases hu with rfl|rfl<;>rfl) hbel (Nat.le_refl _) ?_;intro w2 h2 b2 _)
 exact bodyPost_ret (Q0b rfl _ _ w.heap.size Q05 h2 rfl rfl) rfl (Hfin.out _ b2)
theorem Qfv (X:Value)(T:Pn)(w:World)(hc:∀ u,Below w.heap.size w u→Calls Tryz.prog 204 #[X] u (Q0x T u)):Calls Tryz.prog 106 #[.iface 182 X] w (Q0x T w):=by
 have hz:Blk 70 (w.alloc (.cells #[.int .i64 0,.slice none 0 0,.slice none 0 0,.slice none 0 0] 70)) w.heap.size (Q03 zN):=Blk.new w 70 (Q03 zN)
 have hbel:Below w.heap.size w (w.alloc (.cells #[.int .i64 0,.slice none 0 0,.slice none 0 0,.slice none 0 0] 70)):=Qba _ _
 have hcc:=hc _ hbel
 have Hc:=Qhd hcc
 clear hc hcc
 go_enter Tryz.func106,Tryz.ntmps106
 go_wp2_with (first
  |(go_at_call 204;(with_reducible refine Hc.out.mono ?_);rintro e w3 ⟨t,rfl,ot,et,b3⟩;have hz3:=hz.kept b3;have b3':=Below.then hbel b3;have hone:=ot.is.one;have hlen:=Q06 t)
  |((with_reducible refine Qgs 7 ?_);refine Qsa 70 2 7 w.heap.size (Q03 t) Q05 hz3 hlen (by rfl) hone b3' (Nat.le_refl _) ?_;intro w4 h4 b4 g4))
 have hs:w.heap.size<(w.alloc (.cells #[.int .i64 0,.slice none 0 0,.slice none 0 0,.slice none 0 0] 70)).heap.size:=by simp
 exact bodyPost_ret (Q0b rfl _ _ w.heap.size Q05 h4 hlen rfl) rfl ⟨t,rfl,(ot.off g4 hs).lower (by omega),et,b4⟩
theorem Qft (X:Value)(T:Pn)(w:World)(hc:∀ u,Below w.heap.size w u→Calls Tryz.prog 205 #[X] u (Q0x T u)):Calls Tryz.prog 106 #[.iface 185 X] w (Q0x T w):=by
 have hz:Blk 70 (w.alloc (.cells #[.int .i64 0,.slice none 0 0,.slice none 0 0,.slice none 0 0] 70)) w.heap.size (Q03 zN):=Blk.new w 70 (Q03 zN)
 have hbel:Below w.heap.size w (w.alloc (.cells #[.int .i64 0,.slice none 0 0,.slice none 0 0,.slice none 0 0] 70)):=Qba _ _
 have hcc:=hc _ hbel
 have Hc:=Qhd hcc
 clear hc hcc
 go_enter Tryz.func106,Tryz.ntmps106
 go_wp2_with (first
  |(go_at_call 205;(with_reducible refine Hc.out.mono ?_);rintro e w3 ⟨t,rfl,ot,et,b3⟩;have hz3:=hz.kept b3;have b3':=Below.then hbel b3;have hone:=ot.is.one;have hlen:=Q06 t)
  |((with_reducible refine Qgs 7 ?_);refine Qsa 70 2 7 w.heap.size (Q03 t) Q05 hz3 hlen (by rfl) hone b3' (Nat.le_refl _) ?_;intro w4 h4 b4 g4))
 have hs:w.heap.size<(w.alloc (.cells #[.int .i64 0,.slice none 0 0,.slice none 0 0,.slice none 0 0] 70)).heap.size:=by simp
 exact bodyPost_ret (Q0b rfl _ _ w.heap.size Q05 h4 hlen rfl) rfl ⟨t,rfl,(ot.off g4 hs).lower (by omega),et,b4⟩
theorem Qfw (X:Value)(T:Pn)(w:World)(hc:∀ u,Below w.heap.size w u→Calls Tryz.prog 206 #[X] u (Q0x T u)):Calls Tryz.prog 106 #[.iface 189 X] w (Q0x T w):=by
 have hz:Blk 70 (w.alloc (.cells #[.int .i64 0,.slice none 0 0,.slice none 0 0,.slice none 0 0] 70)) w.heap.size (Q03 zN):=Blk.new w 70 (Q03 zN)
 have hbel:Below w.heap.size w (w.alloc (.cells #[.int .i64 0,.slice none 0 0,.slice none 0 0,.slice none 0 0] 70)):=Qba _ _
 have hcc:=hc _ hbel
 have Hc:=Qhd hcc
 clear hc hcc
 go_enter Tryz.func106,Tryz.ntmps106
 go_wp2_with (first
  |(go_at_call 206;(with_reducible refine Hc.out.mono ?_);rintro e w3 ⟨t,rfl,ot,et,b3⟩;have hz3:=hz.kept b3;have b3':=Below.then hbel b3;have hone:=ot.is.one;have hlen:=Q06 t)
  |((with_reducible refine Qgs 7 ?_);refine Qsa 70 2 7 w.heap.size (Q03 t) Q05 hz3 hlen (by rfl) hone b3' (Nat.le_refl _) ?_;intro w4 h4 b4 g4))
 have hs:w.heap.size<(w.alloc (.cells #[.int .i64 0,.slice none 0 0,.slice none 0 0,.slice none 0 0] 70)).heap.size:=by simp
 exact bodyPost_ret (Q0b rfl _ _ w.heap.size Q05 h4 hlen rfl) rfl ⟨t,rfl,(ot.off g4 hs).lower (by omega),et,b4⟩
theorem Qkx {p:List UInt8}{l:List Rt}(h:Sml (pre p l)):Sml l:=fun r hr=>by
 have:=h _ (Q2x (p:=p) hr)
 simp only [List.length_append] at this
 exact ⟨by omega,this.2⟩
theorem PlC.leaf {pv:Value}{p:List UInt8}{vv:Value}{v:List UInt8}{kv:Value}{ks:List Nd}:PlC (.mk 1 pv p vv v kv ks):=fun X w h _=>by
 have h2:Value.iface 182 _=Value.iface 189 X:=h
 injection h2 with h1 _
 exact absurd h1 (by decide)
theorem PlC.road {pv:Value}{p:List UInt8}{vv:Value}{v:List UInt8}{kv:Value}{k:Nd}:PlC (.mk 2 pv p vv v kv [k]):=fun X w h _=>by
 have h2:Value.iface 185 _=Value.iface 189 X:=h
 injection h2 with h1 _
 exact absurd h1 (by decide)
theorem Qcj:∀ (n:Nat)(t:Nd),SizeOf.sizeOf t≤n→∀ l,Grows l (clN t)→Sml l→ShC t∧PlC t
 | 0,.mk kd pv p vv v kv ks,h=>by simp at h
 | n+1,.mk kd pv p vv v kv ks,h=>by
  intro l hg hB
  have hks:∀ k∈ks,∀ l,Grows l (clN k)→Sml l→ShC k∧PlC k:=by
   intro k hk
   refine Qcj n k ?_
   have:=List.sizeOf_lt_of_mem hk
   simp only [Nd.mk.sizeOf_spec] at h
   omega
  have hforkc:∀ w,IsNv w (.mk 3 pv p vv v kv ks)→kd=3→∃ va vn vc,vv=.slice va vn vc∧Calls Tryz.prog 206 #[.agg (nvL ks++[Value.slice va vn vc]).toArray] w (Q0x (.mk 3 [] v (clNL ks)) w):=by
   intro w hI h3
   subst h3
   generalize hT:(Nd.mk 3 pv p vv v kv ks)=T at hI
   cases hI with
   | none=>cases hT
   | leaf=>cases hT
   | road=>cases hT
   | fork pv p vv v kv ks hv hl hk =>
    cases hT
    obtain ⟨ua,uc,rfl,_,_⟩:=hv.form
    rw [show clN (.mk 3 pv p (.slice ua v.length uc) v kv ks)=.mk 3 [] v (clNL ks) from rfl] at hg
    have hkk:(v.length≤1000000000)∧∀ (i:Nat) (k:Nd),ks[i]?=some k→∃ l',Grows l' (clN k)∧Sml l':=by
     generalize hT:(Pn.mk 3 [] v (clNL ks))=T at hg
     cases hg with
     | none=>cases hT
     | leaf=>cases hT
     | road=>cases hT
     | fork v2 ls ks2 hl2 hk2 h2 hm =>
      cases hT
      refine ⟨?_,fun i k hi=>?_⟩
      ·by_cases h0:v=[]
       ·rw [h0];simp
       ·exact (hB ([],v) (List.mem_append_left _ (by rw [if_neg h0];exact List.mem_singleton.2 rfl))).2
      ·have hi16:i<16:=by have:=(List.getElem?_eq_some_iff.1 hi).1;omega
       have h1:ls[i]?=some (ls[i]'(by omega)):=List.getElem?_eq_getElem _
       refine ⟨ls[i]'(by omega),h2 i _ _ h1 (by rw [Q1c,List.getElem?_map,hi];rfl),fun r hr=>?_⟩
       have:=hB _ (List.mem_append_right _ (Q2y (i:=0) h1 hr))
       simp only [List.length_cons] at this
       exact ⟨by omega,this.2⟩
    refine ⟨ua,_,uc,rfl,Qee ua _ uc v hkk.1 ks hl (fun k hk2=>?_) w hv hk⟩
    obtain ⟨i,hi⟩:=List.getElem?_of_mem hk2
    obtain ⟨l',h1,h2⟩:=hkk.2 i k hi
    exact (hks k hk2 l' h1 h2).1
  refine ⟨fun w hI=>?_,?_⟩
  ·cases hI with
   | none pv p vv v kv ks=>exact Qfu w
   | leaf pv p vv v kv ks hp hv =>
    obtain ⟨pa,pc,rfl,_,_⟩:=hp.form
    obtain ⟨ua,uc,rfl,_,_⟩:=hv.form
    rw [show clN (.mk 1 (.slice pa p.length pc) p (.slice ua v.length uc) v kv ks)=.mk 1 p v [] from rfl] at hg ⊢
    have hb:p.length≤2000000∧v.length≤1000000000:=by
     generalize hT:(Pn.mk 1 p v [])=T at hg
     cases hg with
     | none=>cases hT
     | leaf p2 v2 hv2 hp2=>cases hT;exact hB (p,v) (List.mem_singleton.2 rfl)
     | road=>cases hT
     | fork=>cases hT
    exact Qfv _ _ w (fun u hu=>Qed pa ua _ pc _ uc p v (by omega) (by omega) u (hp.below hu) (hv.below hu))
   | road pv p vv v kv k hp hk3 hk =>
    obtain ⟨pa,pc,rfl,_,_⟩:=hp.form
    rw [show clN (.mk 2 (.slice pa p.length pc) p vv v kv [k])=.mk 2 p [] [clN k] from rfl] at hg ⊢
    have hpl:p.length≤2000000:=Q2a hg 2000000 (fun r hr=>(hB r hr).1)
    obtain ⟨l',rfl,hgk⟩:∃ l',l=pre p l'∧Grows l' (clN k):=by
     generalize hT:(Pn.mk 2 p [] [clN k])=T at hg
     cases hg with
     | none=>cases hT
     | leaf=>cases hT
     | road p2 l2 k2 hp0 hn h2 hk2=>cases hT;exact ⟨l2,rfl,h2⟩
     | fork=>cases hT
    have hsk:=(hks k (List.mem_singleton.2 rfl) l' hgk (Qkx hB)).2
    exact Qft _ _ w (fun u hu=>Qec pa _ pc p (by omega) k hk3 hsk u (hp.below hu) (hk.kept hu))
   | fork pv p vv v kv ks hv hl hk =>
    obtain ⟨ua,uc,rfl,_,_⟩:=hv.form
    refine Qfw _ _ w (fun u hu=>?_)
    obtain ⟨a,n',c,e,hc⟩:=hforkc u (.fork pv p _ v kv ks (hv.below hu) hl (fun k hk2=>(hk k hk2).kept hu)) rfl
    cases e
    exact hc
  ·intro X w hX hI
   cases hI with
   | none pv p vv v kv ks=>exact absurd hX (by unfold nv;simp)
   | leaf pv p vv v kv ks hp hv=>exact PlC.leaf X w hX (.leaf _ _ _ _ _ _ hp hv)
   | road pv p vv v kv k hp hk3 hk=>exact PlC.road X w hX (.road _ _ _ _ _ _ hp hk3 hk)
   | fork pv p vv v kv ks hv hl hk =>
    obtain ⟨a,n',c,e,hc⟩:=hforkc w (.fork pv p _ v kv ks hv hl hk) rfl
    subst e
    rw [show nv (.mk 3 pv p (.slice a n' c) v kv ks)=.iface 189 (.agg (nvL ks++[Value.slice a n' c]).toArray) from rfl] at hX
    exact (Value.iface.inj hX).2▸hc
theorem Q56 (l:List UInt8):∀ x∈Q0d l,x.toNat<16:=by
 intro x hx
 unfold Q0d at hx
 obtain ⟨y,_,hy⟩:=List.mem_flatMap.1 hx
 unfold halfB at hy
 have h256:=y.toNat_lt
 simp only [List.mem_cons,List.not_mem_nil,or_false] at hy
 rcases hy with rfl|rfl
 ·rw [UInt8.toNat_div]
  show y.toNat / 16<16
  omega
 ·rw [UInt8.toNat_mod]
  show y.toNat % 16<16
  omega
theorem Q6f (key:List UInt8):(Q0d key).length=2*key.length:=by
 have:=Q1f key
 omega
end Go.Proofs.YtbdmkfjgnjfjbaaGreat
