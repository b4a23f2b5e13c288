/- root's node: what is read is right (other). | root's node: what is read is right (none). | root's node: what is read is right (road). | root's node, at every input. -/
import Derived.Test.YtakhaanenlblmaaLdB
/- (Ld8) root's node: what is read is right (other). -/
set_option linter.unusedSimpArgs false
set_option linter.unusedVariables false
namespace Go.Proofs.Ytakhaanenlblmaa
open Go.RowKit
def NodeC (ps:List (Value × List UInt8)) (W0:World) (g b N n:Nat):Prop:=∀ (h:List UInt8) (d m:Nat) (w:World),h.length=32→65≤n+d→d≤5000000→m≤4096→LdW ps W0 g b N m w →
 Calls Try.prog 81 #[.pointer (some ⟨g,0,none⟩),.agg (h.map u8v).toArray,.int .i64 (d:Int)] w (NdPost (ldP (ps.map (·.2)) n h d m) ps W0 g b N w)
def ofKids (kd:Int) (pp vb:List UInt8) (r:Int × List Pn × Nat):Ldr:=if r.1=0 then (0,.mk kd pp vb r.2.1,r.2.2) else (r.1,zP,r.2.2)
theorem no8_one {w:World} {t:Nd} (h:IsNd w t):∀ u∈[t].flatMap ndcells,∀ x,u≠.int .u8 x:=by
 simp only [List.flatMap_cons,List.flatMap_nil,List.append_nil]
 exact no8_ndcells h
theorem one_one {w:World} {t:Nd} (h:IsNd w t):∀ u∈[t].flatMap ndcells,u.oneCell'=true:=by
 simp only [List.flatMap_cons,List.flatMap_nil,List.append_nil]
 exact h.one
theorem no8_zero:∀ u∈(Value.agg #[.int .i64 0,.slice none 0 0,.slice none 0 0,.slice none 0 0]).cells.toList,∀ x,u≠.int .u8 x:=by
 intro u hu x
 simp [Value.cells] at hu
 rcases hu with rfl|rfl <;> simp
theorem IsNd.zeroN (w:World):IsNd w zN:=.mk 0 _ [] _ [] _ [] (RowOf.nil b8 1 w) (RowOf.nil b8 1 w) (RowOf.nil ndcells 4 w) (by simp)
theorem row_none {w:World} {n c:Nat} {l:List UInt8} (h:Bytes w (.slice none n c) l):n=0:=by
 obtain ⟨_,_,_,hv,_,_,h3⟩:=h
 simp only [Value.slice.injEq] at hv
 obtain ⟨rfl,e1,_⟩:=hv
 rcases h3 with ⟨_,h4,_⟩|⟨_,_,_,h4,_⟩
 ·omega
 ·cases h4
theorem elem_at {ps:List (Value × List UInt8)} {K:List (List UInt8)} (h:ps.map (·.2)=K) {k:Nat} (hk:k<ps.length):K.drop k=ps[k].2::K.drop (k+1)∧ps[k].2∈K:=by
 subst h
 refine ⟨?_,List.mem_map.2 ⟨_,List.getElem_mem hk,rfl⟩⟩
 rw [List.drop_eq_getElem_cons (by simpa using hk),List.getElem_map]
set_option maxHeartbeats 8000000 in
set_option maxRecDepth 100000 in
theorem node_other (ps:List (Value × List UInt8)) (W0:World) (HT:∀ q∈ps,Bytes W0 q.1 q.2∧q.2.length≤1048576) (g b N n:Nat) (f:List UInt8→Nat→Nat→Ldr) (hfine:FineF f) (ih:∀ (h:List UInt8) (d m:Nat) (w:World),h.length=32→65≤n+d→d≤5000000→m≤4096→LdW ps W0 g b N m w→Calls Try.prog 81 #[.pointer (some ⟨g,0,none⟩),.agg (h.map u8v).toArray,.int .i64 (d:Int)] w (NdPost (f h d m) ps W0 g b N w))
  (h:List UInt8) (hl:h.length=32) (d m:Nat) (hd:d≤64) (hnd:65≤n+1+d) (hm:m<4096) (q:Value × List UInt8) (hq:firstQ ps h=some q) (kd:Int) (pp vb:List UInt8) (KK:List (List UInt8)) (hr:rdB q.2=some (kd,pp,vb,KK)) (hlen:pp.length≤4194304∧vb.length≤1048576∧KK.length≤1048576) (hK32:∀ k∈KK,k=[]∨k.length=32) (hk0:¬ kd=0) (hk2:¬ kd=2) (D:Nat) (hD:D=d+1) (R:Ldr) (hR:R=ofKids kd pp vb (kidsL f D KK (m+1) [])) (w:World) (hw:LdW ps W0 g b N m w) :
  Calls Try.prog 81 #[.pointer (some ⟨g,0,none⟩),.agg (h.map u8v).toArray,.int .i64 (d:Int)] w (NdPost R ps W0 g b N w):=by
 have look:=fun (u:World) (hu:Below w.heap.size w u)=>(hw.hk.kept hu).look h hl
 have hgl:=hw.hz.lt
 have G0:=fun (u:World) (hu:Below w.heap.size w u)=>(hw.hz.kept hu).cell 0
 simp only [ldC,List.getElem?_cons_zero] at G0
 obtain ⟨K,hK⟩:∃ K,K=h.map u8v:=⟨_,rfl⟩
 have hKl:K.length=32:=by rw [hK,List.length_map];exact hl
 have HTq:=HT q (first_mem hq).1
 have hV:lookV ps h=q.1:=by unfold lookV;rw [hq];rfl
 have hF:(firstQ ps h).isSome=true:=by rw [hq];rfl
 obtain ⟨qv,qc0⟩:=q
 obtain ⟨qa,qc,hqv,_⟩:=HTq.1.form
 dsimp only at hqv HTq hV
 subst hqv
 obtain ⟨qn,hqn⟩:∃ n,n=qc0.length:=⟨_,rfl⟩
 rw [← hqn] at HTq hV
 simp only [← hK,hV,hF] at look ⊢
 obtain ⟨w1,hw1⟩:∃ w1,w1=(w.alloc (.cells K.toArray 69)).alloc (.cells #[.int .i64 0,.slice none 0 0,.slice none 0 0,.slice none 0 0] 25):=⟨_,rfl⟩
 have hbel:Below w.heap.size w w1:=by rw [hw1];exact ((Below.refl _ _).alloc (Nat.le_refl _) _).alloc (by simp) _
 have hh:Blk 69 w1 w.heap.size K:=by rw [hw1];exact (Blk.new w _ _).alloc _
 have hz:Blk 25 w1 (w.heap.size+1) (ndcells zN):=by
  have:=Blk.new (w.alloc (.cells K.toArray 69)) 25 (ndcells zN)
  simp only [World.size_alloc] at this
  rw [hw1];exact this
 have hsz1:w1.heap.size=w.heap.size+2:=by rw [hw1];simp
 have lookE:=fun u:Ext w1=>look u.val (Below.then hbel u.property)
 have g0:=fun u:Ext w1=>G0 u.val (Below.then hbel u.property)
 have rh:=hh.all0
 have Hw1:=Lib.hid hw1
 have HKl:=Lib.hid hKl
 obtain ⟨pn,hpn⟩:∃ n,n=pp.length:=⟨_,rfl⟩
 obtain ⟨vn,hvn⟩:∃ n,n=vb.length:=⟨_,rfl⟩
 obtain ⟨Kn,hKn⟩:∃ n,n=KK.length:=⟨_,rfl⟩
 have C:∀ (u:World) (hu:Below W0.heap.size W0 u),Calls Try.prog 139 #[.slice qa qn qc] u (fun e w'=>∃ (pa:Option Addr) (pc:Nat) (va:Option Addr) (vc:Nat) (ka:Option Addr) (kc:Nat) (ps4:List (Value × List UInt8)),e=.returned (.tuple #[.agg #[.int .i64 kd,.slice pa pn pc,.slice va vn vc,.slice ka Kn kc],.int .i64 0]) ∧
   Below u.heap.size u w'∧Bytes w' (.slice pa pn pc) pp∧Bytes w' (.slice va vn vc) vb∧Texts w' (.slice ka Kn kc) ps4∧ps4.map (·.2)=KK):=fun u hu=>by
  rw [hpn,hvn,hKn]
  refine Calls.mono (rread_any qa qn qc qc0 hqn.symm HTq.2 u (HTq.1.below hu)) (fun e w' h=>?_)
  dsimp only at hr
  rw [hr] at h
  exact rd_form h
 rw [← hpn,← hvn,← hKn] at hlen
 obtain ⟨l1,l2,l3⟩:=hlen
 have C1:=Lib.hid C
 have FW:=Lib.hid (fun (u:World) (hu:Below w.heap.size w u)=>hw.kept hu)
 have HfR:=Lib.hid hfine
 have Ih:=Lib.hid ih
 have HK32:=Lib.hid hK32
 have hgW:=hw.hg
 have hW0:=hw.hw.size
 have hz1:¬ (64:Int)<(d:Int):=by omega
 have hmm:¬ (m:Int)=4096:=by omega
 obtain ⟨M1,hM1⟩:∃ n,n=m+1:=⟨_,rfl⟩
 have hwr:IntKind.i64.wrap ((m:Int)+1)=(M1:Int):=by rw [IntWalk.i64_in _ (by omega)];omega
 have hM2:M1≤4096:=by omega
 rw [← hM1] at hR
 have HM1:=Lib.hid hM1
 have HR:=Lib.hid hR
 have HKn:=Lib.hid hKn
 have Hnd:=Lib.hid hnd
 have hat:=fun (a:Option Addr) (c:Nat) (x:World)=>run_arrayAt (P:=Try.prog) (t:=69) (e:=5) (n:=32) Try.underlying69 a 32 c (Nat.le_refl _) x
 have hk0b:(kd == (0:Int))=false:=beq_eq_false_iff_ne.2 hk0
 have hk2b:(kd == (2:Int))=false:=beq_eq_false_iff_ne.2 hk2
 clear hk0 hk2
 have hwD:IntKind.i64.wrap ((d:Int)+1)=(D:Int):=by rw [IntWalk.i64_in _ (by omega)];omega
 have hDle:D≤65:=by omega
 have hDn:65≤n+D:=by omega
 clear hD
 clear hM1 hR hKn hpn hvn hnd hK hV hF hw1 G0 look hw hl hKl C hq hqn HTq hr hfine ih hK32
 go_enter Try.func81,Try.ntmps81
 go_wp2_with fail
 rw [show (w.alloc (.cells K.toArray 69)).alloc (.cells #[.int .i64 0,.slice none 0 0,.slice none 0 0,.slice none 0 0] 25)=w1 from Hw1.out.symm]
 refine wp_region_typed w1 11 (by kernel_rfl) (by kernel_rfl) (Below.refl _ _) ?_;simp only [List.take_succ_cons,List.take_zero,List.take_nil]
 iterate 4 (refine wpX_step (by rfl) (fun K hK=>?_);go_simp;first|(refine hK _ ?_;clear hK K)|(apply Exists.intro;refine ⟨fun _=>?_,hK _ ?_⟩;exact g0 _;clear hK K))
 (refine wpX_step (by rfl) (fun K hK=>?_);rw [if_pos (by rfl)];refine ⟨_,fun u=>const_loadm _ (.tmp 4) (by rfl) _ _ (by rfl) aggHash' HKl.out (rangeAt.ext rh u),hK _ ?_⟩;clear hK K;simp only [Act.put,List.setIfInBounds_toArray,List.set_cons_zero,List.set_cons_succ])
 (refine wpX_step (by rfl) (fun K hK=>?_);go_simp;first|(refine hK _ ?_;clear hK K)|(apply Exists.intro;refine ⟨fun _=>?_,hK _ ?_⟩;exact lookE _;clear hK K))
 iterate 5 (refine wpX_step (by rfl) (fun K hK=>?_);go_simp;first|(refine hK _ ?_;clear hK K)|(apply Exists.intro;refine ⟨fun _=>?_,hK _ ?_⟩;fail;clear hK K))
 refine wpX_nil ?_
 intro y hy
 change forallRel y [] _ _
 simp only [forallRel,List.drop_succ_cons,List.drop_zero,List.drop_nil]
 have by1:=Below.then hbel hy
 have hzy:=hz.kept hy
 have Fy:=FW.out y by1
 have hg1:y.cell? ⟨g,1,none⟩=some (.int .i64 (m:Int)):=Fy.hz.cell 1
 have hgf:=Fy.hz.free 1
 obtain ⟨y1,hy1⟩:∃ y1,y1=y.setCell ⟨g,1,none⟩ (.int .i64 (M1:Int)):=⟨_,rfl⟩
 have z1:Blk 166 y1 g (ldC b (m+1)):=by rw [hy1,← HM1.out];exact Fy.hz.set 1 _
 have gy:y.grownBy y1 (some g):=by rw [hy1];exact grown_cell 1 _
 have F1:LdW ps W0 g b N (m+1) y1:=Fy.turn z1 gy
 have G1:w.grownBy y1 (some g):=gb_then (gb_of by1 _) gy (fun k hk=>.inl (by cases hk;rfl))
 have hzy1:Blk 25 y1 (w.heap.size+1) (ndcells zN):=hzy.grown gy (by simp;omega)
 have sy1:y1.heap.size=y.heap.size:=by rw [hy1];simp
 have szy:w.heap.size+2≤y1.heap.size:=by have:=hy.size;omega
 have C2:=C1.out y1 F1.hw
 go_wp2_with (first
  | (go_at_call 139;rw [← hy1];(with_reducible refine C2.mono ?_);rintro e w4 ⟨pa,pc,va,vc,ka,kc,ps4,rfl,b4,i1,i2,i3,i4⟩;have F4:=F1.kept b4;have G4:=gb_below G1 b4 (by omega);have hz4:=(hzy1.kept b4);have s4:=b4.size))
 have hww:w.heap.size+1<w4.heap.size:=by omega
 have z4:=F4.hz
 have F0:LoopN ps W0 g b N w w4 kd (.slice pa pn pc) (.slice va vn vc) (.slice ka Kn kc) (.slice none 0 0) [] M1 ((w4.alloc (.cells #[.int .i64 kd,.slice pa pn pc,.slice va vn vc,.slice ka Kn kc] 250)).alloc (.cells #[.int .i64 kd,.slice pa pn pc,.slice va vn vc,.slice none 0 0] 25)):=by
  have bA:=(Below.refl w4.heap.size w4).alloc (Nat.le_refl _) (.cells #[.int .i64 kd,.slice pa pn pc,.slice va vn vc,.slice ka Kn kc] 250)
  have bB:=bA.alloc (by simp) (.cells #[.int .i64 kd,.slice pa pn pc,.slice va vn vc,.slice none 0 0] 25)
  have nB:=Blk.new (w4.alloc (.cells #[.int .i64 kd,.slice pa pn pc,.slice va vn vc,.slice ka Kn kc] 250)) 25 [.int .i64 kd,.slice pa pn pc,.slice va vn vc,.slice none 0 0]
  simp only [World.size_alloc] at nB
  rw [← HM1.out] at F4
  exact ⟨F4.kept bB,(Blk.new w4 250 [.int .i64 kd,.slice pa pn pc,.slice va vn vc,.slice ka Kn kc]).alloc _,nB,hz4.kept bB,OwnOf.nil _ _ _ _ _,Clean.nil _,by simp,by simp,gb_of bB _,gb_below G4 bB (by omega)⟩
 have S4:=Lib.hid i4
 have hps:ps4.length=Kn:=i3.1.fits.1.symm
 clear i4
 go_loopw [83] (fun ix wr=>∃ (k:Nat) (va':Option Addr) (vc':Nat) (ts:List Nd) (mi:Nat),k≤Kn∧ts.length=k∧mi≤4096∧ix=.int .i64 (k:Int)∧kidsL f D KK M1 []=kidsL f D (KK.drop k) mi (ts.map erN)∧LoopN ps W0 g b N w w4 kd (.slice pa pn pc) (.slice va vn vc) (.slice ka Kn kc) (.slice va' k vc') ts mi wr) (fun ix _=>Kn - (intOf ix).toNat)
 case atStart=>exact ⟨0,none,0,[],M1,by omega,rfl,hM2,rfl,by simp,F0⟩
 case round =>
  clear F0
  obtain ⟨k,va',vc',ts,mi,hk,hts,hmi,rfl,heq,F⟩:=hrel
  have hnl:=F.hn.lt
  by_cases hlt:k<Kn
  ·have hz:(k:Int)<(Kn:Int):=by omega
   have T:=F.texts z4 i3
   have hkl:k<ps4.length:=by omega
   obtain ⟨kb,koff,hka,hc⟩:=T.1.cells (f:=tcell) (size:=1) (fun _=>rfl) k hkl
   have hc0:wr.cell? ⟨kb,koff+k,none⟩=some ps4[k].1:=by have:=hc 0 _ rfl;simpa using this
   have hq:=T.2 ps4[k] (List.getElem_mem _)
   obtain ⟨hdr,hmem⟩:=elem_at S4.out hkl
   obtain ⟨X,hX⟩:∃ X,X=ps4[k]:=⟨_,rfl⟩
   rw [← hX] at hc0 hq hdr hmem
   clear hX hc T
   obtain ⟨xv,xl⟩:=X
   obtain ⟨xa,xc,hxv,_⟩:=RowOf.form hq
   dsimp only at hxv hdr hmem hc0 hq
   subst hxv
   subst hka
   have h32:=HK32.out xl hmem
   rw [hdr] at heq
   have hkb:=World.block_lt_of_cell? wr _ hc0
   obtain ⟨U,hU⟩:∃ U,U=wr.alloc (.cells #[.int .i64 0,.slice none 0 0,.slice none 0 0,.slice none 0 0] 25):=⟨_,rfl⟩
   have bU:Below wr.heap.size wr U:=by rw [hU];exact (Below.refl _ _).alloc (Nat.le_refl _) _
   have sU:U.heap.size=wr.heap.size+1:=by rw [hU];simp
   have zU:Blk 25 U wr.heap.size (ndcells zN):=by rw [hU];exact Blk.new wr _ _
   have HU:=Lib.hid hU
   have FU:=F.kept bU
   have cU:=FU.hn.cell 3
   simp only [List.getElem?_cons_succ,List.getElem?_cons_zero] at cU
   clear hU hdr hmem
   by_cases hx:xl=[]
   ·subst hx
    rw [kidsL_hole] at heq
    have Heq:=Lib.hid heq
    simp only [List.length_nil] at hc0 hq
    clear heq h32 hq
    have cU':(wr.alloc (.cells #[.int .i64 0,.slice none 0 0,.slice none 0 0,.slice none 0 0] 25)).cell? ⟨w4.heap.size+1,3,none⟩=some (.slice va' k vc'):=by rw [← HU.out];exact cU
    go_wp2_with (first
     | ((with_reducible show wpList _ _ _ (⟨some 106,_,_,_,_,_⟩::_) _ _);refine wpList_loadA (o:=⟨some 106,_,_,_,_,_⟩) (by rfl) 25 (.tmp 15) (by rfl) wr.heap.size (by rfl) aggNode (cs:=ndcells zN) (Blk.new wr _ _) (by rfl) ?_)
     | ((with_reducible show wpList _ _ _ (⟨some 107,_,_,_,_,_⟩::_) _ _);refine wpList_buildW (o:=⟨some 107,_,_,_,_,_⟩) (by rfl) 23 1 [(0,.tmp 106)] (by rfl) elNode [zN] [.agg (ndcells zN).toArray] rfl (by rfl) (by rfl) (by omega) (by omega) ?_;intro w8 h8 r8 b8;rw [← HU.out] at b8;have F8:=FU.kept b8;have s8:=b8.size)
     | (((with_reducible show wpList _ _ _ (⟨some 108,_,_,_,_,_⟩::_) _ _);refine wpList_appD (o:=⟨some 108,_,_,_,_,_⟩) (by rfl) (.tmp 105) (.tmp 107) 23 (by rfl) elNode (m:=[zN]) (one_one (IsNd.zeroN w8)) (by rfl) F8.ow (by rfl) r8 (by omega) (by have:=F8.hn.lt;omega) (by simp only [List.length_cons,List.length_nil];omega) (by simp only [List.length_cons,List.length_nil];unfold maxLen;omega) F8.cl (no8_one (IsNd.zeroN w8)) no8_zero ?_;intro v9 w9 o9 g9 p9 c9;obtain ⟨a9,q9,rfl,_⟩:=o9.form' (k+1) (by rw [List.length_append,hts];rfl);have y9:=F8.hn.grown g9 (fun e=>by have:=F8.ow.lt _ e;omega);obtain ⟨x9,hx9⟩:=y9.has 3 (by simp);have hf9:=y9.free 3)))
    go_roundw
    case rel=>exact ⟨k+1,a9,q9,ts++[zN],mi,by omega,by simp [hts],hmi,by go_num,by rw [Heq.out,List.map_append];rfl,F8.snoc hgl hww hW0 (IsNd.zeroN _) (KdIn.zero _) o9 g9 p9 c9⟩
    case measure=>simp [intOf];omega
   ·have hxl:xl.length=32:=h32.resolve_left hx
    rw [hxl] at hq hc0
    cases xa with
    | none=>exact absurd (row_none hq) (by omega)
    | some xp =>
    obtain ⟨xb,xo,xs⟩:=xp
    obtain ⟨rfl,hrng⟩:=bytes_range (hq.kept bU) (by omega)
    have hXl:(xl.map u8v).length=32:=by rw [List.length_map];exact hxl
    obtain ⟨R5,hR5⟩:∃ R5,R5=f xl D mi:=⟨_,rfl⟩
    have CI:=Ih.out xl D mi U hxl (by have:=Hnd.out;omega) (by omega) hmi FU.ld
    have hf5:=HfR.out xl D mi hmi
    rw [← hR5] at CI hf5
    obtain ⟨X,hX⟩:∃ X,X=xl.map u8v:=⟨_,rfl⟩
    rw [← hX] at CI hrng hXl
    by_cases hE:R5.1=0
    ·have hkg:=kidsL_good f D mi (ts.map erN) xl (KK.drop (k+1)) hx (by rw [← hR5];exact hE)
     rw [← hR5] at hkg
     rw [hkg] at heq
     have Heq:=Lib.hid heq
     obtain ⟨E5,P5,m5⟩:=R5
     dsimp only at hE
     subst hE
     have CI2:=Lib.hid CI
     have Hf5:=Lib.hid hf5
     clear heq hkg hR5 CI hf5 h32 hx hX hq hxl
     go_wp2_with (first
      | ((with_reducible show wpList _ _ _ (⟨some 94,_,_,_,_,_⟩::_) _ _);refine wpList_loadW (o:=⟨some 94,_,_,_,_,_⟩) 69 (.tmp 93) (by rfl) xb xo (by rfl) aggHash' hXl (by rw [← HU.out];exact hrng) (by rfl) ?_)
      | (go_at_call 81;rw [← HU.out];(with_reducible refine CI2.out.mono ?_);rintro e w5 ⟨t5,rfl,i5,e5,k5,l5,g5⟩;have n5:=i5.one;have z5:=zU.grown g5 (by simp;have:=F.gw.size;omega);have t5l:=ndcells_len t5)
      | ((with_reducible show wpList _ _ _ (⟨none,Op.store _ _ (Operand.tmp 98),_,_,_,_⟩::_) _ _);refine wpList_storeA (o:=⟨none,_,_,_,_,_⟩) (by rfl) 25 (.tmp 15) (.tmp 98) (by rfl) wr.heap.size (ndcells t5) (by rfl) (by rfl) aggNode z5 t5l (by rfl) n5 (Below.refl 0 _) (Nat.zero_le _) ?_;intro w6 h6 _ g6;obtain ⟨F6,i6,k6⟩:=F.kid hgl hww hW0 bU sU zU (no8_nd _ _ _ _ _ _ _ _ _ _) l5 g5 i5 k5 g6;have c6:=F6.hn.cell 3;simp only [List.getElem?_cons_succ,List.getElem?_cons_zero] at c6)
      | ((with_reducible show wpList _ _ _ (⟨some 106,_,_,_,_,_⟩::_) _ _);refine wpList_loadA (o:=⟨some 106,_,_,_,_,_⟩) (by rfl) 25 (.tmp 15) (by rfl) wr.heap.size (by rfl) aggNode h6 t5l ?_)
      | ((with_reducible show wpList _ _ _ (⟨some 107,_,_,_,_,_⟩::_) _ _);refine wpList_buildW (o:=⟨some 107,_,_,_,_,_⟩) (by rfl) 23 1 [(0,.tmp 106)] (by rfl) elNode [t5] [.agg (ndcells t5).toArray] rfl (by rfl) (by simp [Value.cells]) (by omega) (by omega) ?_;intro w8 h8 r8 b8;have F8:=F6.kept b8;have i8:=i6.kept b8;have k8:=k6.mono (fun k hk=>And.intro hk.1 (And.intro (Nat.lt_of_lt_of_le hk.2.1 b8.size) hk.2.2));have s8:=b8.size)
      | (((with_reducible show wpList _ _ _ (⟨some 108,_,_,_,_,_⟩::_) _ _);refine wpList_appD (o:=⟨some 108,_,_,_,_,_⟩) (by rfl) (.tmp 105) (.tmp 107) 23 (by rfl) elNode (m:=[t5]) (one_one i8) (by rfl) F8.ow (by rfl) r8 (by omega) (by have:=F8.hn.lt;omega) (by simp only [List.length_cons,List.length_nil];omega) (by simp only [List.length_cons,List.length_nil];unfold maxLen;omega) F8.cl (no8_one i8) no8_zero ?_;intro v9 w9 o9 g9 p9 c9;obtain ⟨a9,q9,rfl,_⟩:=o9.form' (k+1) (by rw [List.length_append,hts];rfl);have y9:=F8.hn.grown g9 (fun e=>by have:=F8.ow.lt _ e;omega);obtain ⟨x9,hx9⟩:=y9.has 3 (by simp);have hf9:=y9.free 3)))
     go_roundw
     case rel=>exact ⟨k+1,a9,q9,ts++[t5],m5,by omega,by simp [hts],Hf5.out.2.1,by go_num,by rw [Heq.out,List.map_append];simp only [List.map_cons,List.map_nil];rw [e5 (by trivial)],F8.snoc hgl hww hW0 i8 k8 o9 g9 p9 c9⟩
     case measure=>simp [intOf];omega
    ·have hkg:=kidsL_bad f D mi (ts.map erN) xl (KK.drop (k+1)) hx (by rw [← hR5];exact hE)
     rw [← hR5] at hkg
     rw [hkg] at heq
     have hRR:R=(R5.1,zP,R5.2.2):=by rw [HR.out,heq];unfold ofKids;rw [if_neg hE]
     obtain ⟨E5,P5,m5⟩:=R5
     dsimp only at hE hRR
     have HRR:=Lib.hid hRR
     have CI2:=Lib.hid CI
     clear heq hkg hR5 CI hf5 h32 hx hX hq hxl hRR
     go_wp2_with (first
      | ((with_reducible show wpList _ _ _ (⟨some 94,_,_,_,_,_⟩::_) _ _);refine wpList_loadW (o:=⟨some 94,_,_,_,_,_⟩) 69 (.tmp 93) (by rfl) xb xo (by rfl) aggHash' hXl (by rw [← HU.out];exact hrng) (by rfl) ?_)
      | (go_at_call 81;rw [← HU.out];(with_reducible refine CI2.out.mono ?_);rintro e w5 ⟨t5,rfl,i5,e5,k5,l5,g5⟩;have n5:=i5.one;have z5:=zU.grown g5 (by simp;have:=F.gw.size;omega);have t5l:=ndcells_len t5)
      | ((with_reducible show wpList _ _ _ (⟨none,Op.store _ _ (Operand.tmp 98),_,_,_,_⟩::_) _ _);refine wpList_storeA (o:=⟨none,_,_,_,_,_⟩) (by rfl) 25 (.tmp 15) (.tmp 98) (by rfl) wr.heap.size (ndcells t5) (by rfl) (by rfl) aggNode z5 t5l (by rfl) n5 (Below.refl 0 _) (Nat.zero_le _) ?_;intro w6 h6 _ g6;obtain ⟨F6,i6,k6⟩:=F.kid hgl hww hW0 bU sU zU (no8_nd _ _ _ _ _ _ _ _ _ _) l5 g5 i5 k5 g6)
      | ((with_reducible show wpList _ _ _ (⟨none,Op.store _ _ (Operand.tmp 102),_,_,_,_⟩::_) _ _);refine wpList_storeA (o:=⟨none,_,_,_,_,_⟩) (by rfl) 25 (.tmp 6) (.tmp 102) (by rfl) (w.heap.size+1) (ndcells zN) (by rfl) (by rfl) aggNode F6.h6 (by rfl) (by rfl) (by intro u hu;simp [ndcells,zN] at hu;rcases hu with rfl|rfl <;> rfl) (Below.refl 0 _) (Nat.zero_le _) ?_;intro w7 h7 _ g7))
     exact bodyPost_ret (v:=.tuple #[.agg (ndcells zN).toArray,.int .i64 E5]) (results_blk_tmp rfl _ _ (w.heap.size+1) aggNode h7 (by rfl) rfl rfl) rfl ⟨zN,by rw [HRR.out],IsNd.zeroN _,fun e=>absurd (by rw [HRR.out] at e;exact e) hE,KdIn.zero _,by rw [HRR.out];exact F6.ld.put F6.h6 g7 (by omega) (by omega),gb_then F6.gw g7 (fun k hk=>.inr (by cases hk;omega))⟩
  ·obtain rfl:k=Kn:=by omega
   have hz:¬ (k:Int)<(k:Int):=by omega
   have hRR:R=(0,.mk kd pp vb (ts.map erN),mi):=by rw [HR.out,heq,List.drop_eq_nil_of_le (by have:=HKn.out;omega),kidsL_empty];unfold ofKids;rw [if_pos rfl]
   have HRR:=Lib.hid hRR
   clear hRR heq
   go_wp2_with (first
    | ((with_reducible show wpList _ _ _ (⟨some 111,_,_,_,_,_⟩::_) _ _);refine wpList_loadA (o:=⟨some 111,_,_,_,_,_⟩) (by rfl) 25 (.tmp 12) (by rfl) (w4.heap.size+1) (by rfl) aggNode F.hn (by rfl) ?_)
    | ((with_reducible show wpList _ _ _ (⟨none,Op.store _ _ (Operand.tmp 111),_,_,_,_⟩::_) _ _);refine wpList_storeA (o:=⟨none,_,_,_,_,_⟩) (by rfl) 25 (.tmp 6) (.tmp 111) (by rfl) (w.heap.size+1) [.int .i64 kd,.slice pa pn pc,.slice va vn vc,.slice va' k vc'] (by rfl) (by rfl) aggNode F.h6 (by rfl) (by rfl) (by intro u hu;simp at hu;rcases hu with rfl|rfl|rfl|rfl <;> rfl) (Below.refl 0 _) (Nat.zero_le _) ?_;intro w7 h7 _ g7))
   exact bodyPost_ret (v:=.tuple #[.agg #[.int .i64 kd,.slice pa pn pc,.slice va vn vc,.slice va' k vc'],.int .i64 0]) (results_blk_tmp rfl _ _ (w.heap.size+1) aggNode h7 (by rfl) rfl rfl) rfl (F.done hgl hww hW0 z4 i1 i2 g7 HRR.out)
end Go.Proofs.Ytakhaanenlblmaa
/- (Ld9) root's node: what is read is right (none). -/
namespace Go.Proofs.Ytakhaanenlblmaa
open Go.RowKit
set_option maxHeartbeats 8000000 in
set_option maxRecDepth 100000 in
theorem node_none (ps:List (Value × List UInt8)) (W0:World) (HT:∀ q∈ps,Bytes W0 q.1 q.2∧q.2.length≤1048576) (g b N n:Nat) (f:List UInt8→Nat→Nat→Ldr) (hfine:FineF f) (ih:∀ (h:List UInt8) (d m:Nat) (w:World),h.length=32→65≤n+d→d≤5000000→m≤4096→LdW ps W0 g b N m w→Calls Try.prog 81 #[.pointer (some ⟨g,0,none⟩),.agg (h.map u8v).toArray,.int .i64 (d:Int)] w (NdPost (f h d m) ps W0 g b N w))
  (h:List UInt8) (hl:h.length=32) (d m:Nat) (hd:d≤64) (hnd:65≤n+1+d) (hm:m<4096) (q:Value × List UInt8) (hq:firstQ ps h=some q) (kd:Int) (pp vb:List UInt8) (KK:List (List UInt8)) (hr:rdB q.2=some (kd,pp,vb,KK)) (hlen:pp.length≤4194304∧vb.length≤1048576∧KK.length≤1048576) (hK32:∀ k∈KK,k=[]∨k.length=32) (hk:kd=0) (hd0:d=0) (hKK:KK.length=0) (D:Nat) (hD:D=1) (R:Ldr) (hR:R=ofKids kd pp vb (kidsL f D KK (m+1) [])) (w:World) (hw:LdW ps W0 g b N m w) :
  Calls Try.prog 81 #[.pointer (some ⟨g,0,none⟩),.agg (h.map u8v).toArray,.int .i64 (d:Int)] w (NdPost R ps W0 g b N w):=by
 have look:=fun (u:World) (hu:Below w.heap.size w u)=>(hw.hk.kept hu).look h hl
 have hgl:=hw.hz.lt
 have G0:=fun (u:World) (hu:Below w.heap.size w u)=>(hw.hz.kept hu).cell 0
 simp only [ldC,List.getElem?_cons_zero] at G0
 obtain ⟨K,hK⟩:∃ K,K=h.map u8v:=⟨_,rfl⟩
 have hKl:K.length=32:=by rw [hK,List.length_map];exact hl
 have HTq:=HT q (first_mem hq).1
 have hV:lookV ps h=q.1:=by unfold lookV;rw [hq];rfl
 have hF:(firstQ ps h).isSome=true:=by rw [hq];rfl
 obtain ⟨qv,qc0⟩:=q
 obtain ⟨qa,qc,hqv,_⟩:=HTq.1.form
 dsimp only at hqv HTq hV
 subst hqv
 obtain ⟨qn,hqn⟩:∃ n,n=qc0.length:=⟨_,rfl⟩
 rw [← hqn] at HTq hV
 simp only [← hK,hV,hF] at look ⊢
 obtain ⟨w1,hw1⟩:∃ w1,w1=(w.alloc (.cells K.toArray 69)).alloc (.cells #[.int .i64 0,.slice none 0 0,.slice none 0 0,.slice none 0 0] 25):=⟨_,rfl⟩
 have hbel:Below w.heap.size w w1:=by rw [hw1];exact ((Below.refl _ _).alloc (Nat.le_refl _) _).alloc (by simp) _
 have hh:Blk 69 w1 w.heap.size K:=by rw [hw1];exact (Blk.new w _ _).alloc _
 have hz:Blk 25 w1 (w.heap.size+1) (ndcells zN):=by
  have:=Blk.new (w.alloc (.cells K.toArray 69)) 25 (ndcells zN)
  simp only [World.size_alloc] at this
  rw [hw1];exact this
 have hsz1:w1.heap.size=w.heap.size+2:=by rw [hw1];simp
 have lookE:=fun u:Ext w1=>look u.val (Below.then hbel u.property)
 have g0:=fun u:Ext w1=>G0 u.val (Below.then hbel u.property)
 have rh:=hh.all0
 have Hw1:=Lib.hid hw1
 have HKl:=Lib.hid hKl
 obtain ⟨pn,hpn⟩:∃ n,n=pp.length:=⟨_,rfl⟩
 obtain ⟨vn,hvn⟩:∃ n,n=vb.length:=⟨_,rfl⟩
 obtain ⟨Kn,hKn⟩:∃ n,n=KK.length:=⟨_,rfl⟩
 have C:∀ (u:World) (hu:Below W0.heap.size W0 u),Calls Try.prog 139 #[.slice qa qn qc] u (fun e w'=>∃ (pa:Option Addr) (pc:Nat) (va:Option Addr) (vc:Nat) (ka:Option Addr) (kc:Nat) (ps4:List (Value × List UInt8)),e=.returned (.tuple #[.agg #[.int .i64 kd,.slice pa pn pc,.slice va vn vc,.slice ka Kn kc],.int .i64 0]) ∧
   Below u.heap.size u w'∧Bytes w' (.slice pa pn pc) pp∧Bytes w' (.slice va vn vc) vb∧Texts w' (.slice ka Kn kc) ps4∧ps4.map (·.2)=KK):=fun u hu=>by
  rw [hpn,hvn,hKn]
  refine Calls.mono (rread_any qa qn qc qc0 hqn.symm HTq.2 u (HTq.1.below hu)) (fun e w' h=>?_)
  dsimp only at hr
  rw [hr] at h
  exact rd_form h
 rw [← hpn,← hvn,← hKn] at hlen
 obtain ⟨l1,l2,l3⟩:=hlen
 have C1:=Lib.hid C
 have FW:=Lib.hid (fun (u:World) (hu:Below w.heap.size w u)=>hw.kept hu)
 have HfR:=Lib.hid hfine
 have Ih:=Lib.hid ih
 have HK32:=Lib.hid hK32
 have hgW:=hw.hg
 have hW0:=hw.hw.size
 have hz1:¬ (64:Int)<(d:Int):=by omega
 have hmm:¬ (m:Int)=4096:=by omega
 obtain ⟨M1,hM1⟩:∃ n,n=m+1:=⟨_,rfl⟩
 have hwr:IntKind.i64.wrap ((m:Int)+1)=(M1:Int):=by rw [IntWalk.i64_in _ (by omega)];omega
 have hM2:M1≤4096:=by omega
 rw [← hM1] at hR
 have HM1:=Lib.hid hM1
 have HR:=Lib.hid hR
 have HKn:=Lib.hid hKn
 have Hnd:=Lib.hid hnd
 have hat:=fun (a:Option Addr) (c:Nat) (x:World)=>run_arrayAt (P:=Try.prog) (t:=69) (e:=5) (n:=32) Try.underlying69 a 32 c (Nat.le_refl _) x
 subst hk
 have HK0:=Lib.hid (hKn.trans hKK)
 clear hKK
 have hz0:¬ (0:Int)<(d:Int):=by omega
 have hwD:IntKind.i64.wrap ((d:Int)+1)=(D:Int):=by rw [IntWalk.i64_in _ (by omega)];omega
 have hDle:D≤65:=by omega
 have hDn:65≤n+D:=by omega
 clear hD hd0
 clear hM1 hR hKn hpn hvn hnd hK hV hF hw1 G0 look hw hl hKl C hq hqn HTq hr hfine ih hK32
 go_enter Try.func81,Try.ntmps81
 go_wp2_with fail
 rw [show (w.alloc (.cells K.toArray 69)).alloc (.cells #[.int .i64 0,.slice none 0 0,.slice none 0 0,.slice none 0 0] 25)=w1 from Hw1.out.symm]
 refine wp_region_typed w1 11 (by kernel_rfl) (by kernel_rfl) (Below.refl _ _) ?_;simp only [List.take_succ_cons,List.take_zero,List.take_nil]
 iterate 4 (refine wpX_step (by rfl) (fun K hK=>?_);go_simp;first|(refine hK _ ?_;clear hK K)|(apply Exists.intro;refine ⟨fun _=>?_,hK _ ?_⟩;exact g0 _;clear hK K))
 (refine wpX_step (by rfl) (fun K hK=>?_);rw [if_pos (by rfl)];refine ⟨_,fun u=>const_loadm _ (.tmp 4) (by rfl) _ _ (by rfl) aggHash' HKl.out (rangeAt.ext rh u),hK _ ?_⟩;clear hK K;simp only [Act.put,List.setIfInBounds_toArray,List.set_cons_zero,List.set_cons_succ])
 (refine wpX_step (by rfl) (fun K hK=>?_);go_simp;first|(refine hK _ ?_;clear hK K)|(apply Exists.intro;refine ⟨fun _=>?_,hK _ ?_⟩;exact lookE _;clear hK K))
 iterate 5 (refine wpX_step (by rfl) (fun K hK=>?_);go_simp;first|(refine hK _ ?_;clear hK K)|(apply Exists.intro;refine ⟨fun _=>?_,hK _ ?_⟩;fail;clear hK K))
 refine wpX_nil ?_
 intro y hy
 change forallRel y [] _ _
 simp only [forallRel,List.drop_succ_cons,List.drop_zero,List.drop_nil]
 have by1:=Below.then hbel hy
 have hzy:=hz.kept hy
 have Fy:=FW.out y by1
 have hg1:y.cell? ⟨g,1,none⟩=some (.int .i64 (m:Int)):=Fy.hz.cell 1
 have hgf:=Fy.hz.free 1
 obtain ⟨y1,hy1⟩:∃ y1,y1=y.setCell ⟨g,1,none⟩ (.int .i64 (M1:Int)):=⟨_,rfl⟩
 have z1:Blk 166 y1 g (ldC b (m+1)):=by rw [hy1,← HM1.out];exact Fy.hz.set 1 _
 have gy:y.grownBy y1 (some g):=by rw [hy1];exact grown_cell 1 _
 have F1:LdW ps W0 g b N (m+1) y1:=Fy.turn z1 gy
 have G1:w.grownBy y1 (some g):=gb_then (gb_of by1 _) gy (fun k hk=>.inl (by cases hk;rfl))
 have hzy1:Blk 25 y1 (w.heap.size+1) (ndcells zN):=hzy.grown gy (by simp;omega)
 have sy1:y1.heap.size=y.heap.size:=by rw [hy1];simp
 have szy:w.heap.size+2≤y1.heap.size:=by have:=hy.size;omega
 have C2:=C1.out y1 F1.hw
 go_wp2_with (first
  | (go_at_call 139;rw [← hy1];(with_reducible refine C2.mono ?_);rintro e w4 ⟨pa,pc,va,vc,ka,kc,ps4,rfl,b4,i1,i2,i3,i4⟩;have F4:=F1.kept b4;have G4:=gb_below G1 b4 (by omega);have hz4:=(hzy1.kept b4);have s4:=b4.size))
 have hww:w.heap.size+1<w4.heap.size:=by omega
 have z4:=F4.hz
 have F0:LoopN ps W0 g b N w w4 0 (.slice pa pn pc) (.slice va vn vc) (.slice ka Kn kc) (.slice none 0 0) [] M1 ((w4.alloc (.cells #[.int .i64 0,.slice pa pn pc,.slice va vn vc,.slice ka Kn kc] 250)).alloc (.cells #[.int .i64 0,.slice pa pn pc,.slice va vn vc,.slice none 0 0] 25)):=by
  have bA:=(Below.refl w4.heap.size w4).alloc (Nat.le_refl _) (.cells #[.int .i64 0,.slice pa pn pc,.slice va vn vc,.slice ka Kn kc] 250)
  have bB:=bA.alloc (by simp) (.cells #[.int .i64 0,.slice pa pn pc,.slice va vn vc,.slice none 0 0] 25)
  have nB:=Blk.new (w4.alloc (.cells #[.int .i64 0,.slice pa pn pc,.slice va vn vc,.slice ka Kn kc] 250)) 25 [.int .i64 0,.slice pa pn pc,.slice va vn vc,.slice none 0 0]
  simp only [World.size_alloc] at nB
  rw [← HM1.out] at F4
  exact ⟨F4.kept bB,(Blk.new w4 250 [.int .i64 0,.slice pa pn pc,.slice va vn vc,.slice ka Kn kc]).alloc _,nB,hz4.kept bB,OwnOf.nil _ _ _ _ _,Clean.nil _,by simp,by simp,gb_of bB _,gb_below G4 bB (by omega)⟩
 have S4:=Lib.hid i4
 have hps:ps4.length=Kn:=i3.1.fits.1.symm
 clear i4
 go_loopw [83] (fun ix wr=>∃ (k:Nat) (va':Option Addr) (vc':Nat) (ts:List Nd) (mi:Nat),k≤Kn∧ts.length=k∧mi≤4096∧ix=.int .i64 (k:Int)∧kidsL f D KK M1 []=kidsL f D (KK.drop k) mi (ts.map erN)∧LoopN ps W0 g b N w w4 0 (.slice pa pn pc) (.slice va vn vc) (.slice ka Kn kc) (.slice va' k vc') ts mi wr) (fun ix _=>Kn - (intOf ix).toNat)
 case atStart=>exact ⟨0,none,0,[],M1,by omega,rfl,hM2,rfl,by simp,F0⟩
 case round =>
  clear F0
  obtain ⟨k,va',vc',ts,mi,hk,hts,hmi,rfl,heq,F⟩:=hrel
  have hnl:=F.hn.lt
  by_cases hlt:k<Kn
  ·exfalso;have:=HK0.out;omega
  ·obtain rfl:k=Kn:=by omega
   have hz:¬ (k:Int)<(k:Int):=by omega
   have hRR:R=(0,.mk 0 pp vb (ts.map erN),mi):=by rw [HR.out,heq,List.drop_eq_nil_of_le (by have:=HKn.out;omega),kidsL_empty];unfold ofKids;rw [if_pos rfl]
   have HRR:=Lib.hid hRR
   clear hRR heq
   go_wp2_with (first
    | ((with_reducible show wpList _ _ _ (⟨some 111,_,_,_,_,_⟩::_) _ _);refine wpList_loadA (o:=⟨some 111,_,_,_,_,_⟩) (by rfl) 25 (.tmp 12) (by rfl) (w4.heap.size+1) (by rfl) aggNode F.hn (by rfl) ?_)
    | ((with_reducible show wpList _ _ _ (⟨none,Op.store _ _ (Operand.tmp 111),_,_,_,_⟩::_) _ _);refine wpList_storeA (o:=⟨none,_,_,_,_,_⟩) (by rfl) 25 (.tmp 6) (.tmp 111) (by rfl) (w.heap.size+1) [.int .i64 0,.slice pa pn pc,.slice va vn vc,.slice va' k vc'] (by rfl) (by rfl) aggNode F.h6 (by rfl) (by rfl) (by intro u hu;simp at hu;rcases hu with rfl|rfl|rfl|rfl <;> rfl) (Below.refl 0 _) (Nat.zero_le _) ?_;intro w7 h7 _ g7))
   exact bodyPost_ret (v:=.tuple #[.agg #[.int .i64 0,.slice pa pn pc,.slice va vn vc,.slice va' k vc'],.int .i64 0]) (results_blk_tmp rfl _ _ (w.heap.size+1) aggNode h7 (by rfl) rfl rfl) rfl (F.done hgl hww hW0 z4 i1 i2 g7 HRR.out)
end Go.Proofs.Ytakhaanenlblmaa
/- (Ld10) root's node: what is read is right (road). -/
namespace Go.Proofs.Ytakhaanenlblmaa
open Go.RowKit
set_option maxHeartbeats 8000000 in
set_option maxRecDepth 100000 in
theorem node_road (ps:List (Value × List UInt8)) (W0:World) (HT:∀ q∈ps,Bytes W0 q.1 q.2∧q.2.length≤1048576) (g b N n:Nat) (f:List UInt8→Nat→Nat→Ldr) (hfine:FineF f) (ih:∀ (h:List UInt8) (d m:Nat) (w:World),h.length=32→65≤n+d→d≤5000000→m≤4096→LdW ps W0 g b N m w→Calls Try.prog 81 #[.pointer (some ⟨g,0,none⟩),.agg (h.map u8v).toArray,.int .i64 (d:Int)] w (NdPost (f h d m) ps W0 g b N w))
  (h:List UInt8) (hl:h.length=32) (d m:Nat) (hd:d≤64) (hnd:65≤n+1+d) (hm:m<4096) (q:Value × List UInt8) (hq:firstQ ps h=some q) (kd:Int) (pp vb:List UInt8) (KK:List (List UInt8)) (hr:rdB q.2=some (kd,pp,vb,KK)) (hlen:pp.length≤4194304∧vb.length≤1048576∧KK.length≤1048576) (hK32:∀ k∈KK,k=[]∨k.length=32) (hk:kd=2) (hp1:1≤pp.length) (D:Nat) (hD:D=d+pp.length) (R:Ldr) (hR:R=ofKids kd pp vb (kidsL f D KK (m+1) [])) (w:World) (hw:LdW ps W0 g b N m w) :
  Calls Try.prog 81 #[.pointer (some ⟨g,0,none⟩),.agg (h.map u8v).toArray,.int .i64 (d:Int)] w (NdPost R ps W0 g b N w):=by
 have look:=fun (u:World) (hu:Below w.heap.size w u)=>(hw.hk.kept hu).look h hl
 have hgl:=hw.hz.lt
 have G0:=fun (u:World) (hu:Below w.heap.size w u)=>(hw.hz.kept hu).cell 0
 simp only [ldC,List.getElem?_cons_zero] at G0
 obtain ⟨K,hK⟩:∃ K,K=h.map u8v:=⟨_,rfl⟩
 have hKl:K.length=32:=by rw [hK,List.length_map];exact hl
 have HTq:=HT q (first_mem hq).1
 have hV:lookV ps h=q.1:=by unfold lookV;rw [hq];rfl
 have hF:(firstQ ps h).isSome=true:=by rw [hq];rfl
 obtain ⟨qv,qc0⟩:=q
 obtain ⟨qa,qc,hqv,_⟩:=HTq.1.form
 dsimp only at hqv HTq hV
 subst hqv
 obtain ⟨qn,hqn⟩:∃ n,n=qc0.length:=⟨_,rfl⟩
 rw [← hqn] at HTq hV
 simp only [← hK,hV,hF] at look ⊢
 obtain ⟨w1,hw1⟩:∃ w1,w1=(w.alloc (.cells K.toArray 69)).alloc (.cells #[.int .i64 0,.slice none 0 0,.slice none 0 0,.slice none 0 0] 25):=⟨_,rfl⟩
 have hbel:Below w.heap.size w w1:=by rw [hw1];exact ((Below.refl _ _).alloc (Nat.le_refl _) _).alloc (by simp) _
 have hh:Blk 69 w1 w.heap.size K:=by rw [hw1];exact (Blk.new w _ _).alloc _
 have hz:Blk 25 w1 (w.heap.size+1) (ndcells zN):=by
  have:=Blk.new (w.alloc (.cells K.toArray 69)) 25 (ndcells zN)
  simp only [World.size_alloc] at this
  rw [hw1];exact this
 have hsz1:w1.heap.size=w.heap.size+2:=by rw [hw1];simp
 have lookE:=fun u:Ext w1=>look u.val (Below.then hbel u.property)
 have g0:=fun u:Ext w1=>G0 u.val (Below.then hbel u.property)
 have rh:=hh.all0
 have Hw1:=Lib.hid hw1
 have HKl:=Lib.hid hKl
 obtain ⟨pn,hpn⟩:∃ n,n=pp.length:=⟨_,rfl⟩
 obtain ⟨vn,hvn⟩:∃ n,n=vb.length:=⟨_,rfl⟩
 obtain ⟨Kn,hKn⟩:∃ n,n=KK.length:=⟨_,rfl⟩
 have C:∀ (u:World) (hu:Below W0.heap.size W0 u),Calls Try.prog 139 #[.slice qa qn qc] u (fun e w'=>∃ (pa:Option Addr) (pc:Nat) (va:Option Addr) (vc:Nat) (ka:Option Addr) (kc:Nat) (ps4:List (Value × List UInt8)),e=.returned (.tuple #[.agg #[.int .i64 kd,.slice pa pn pc,.slice va vn vc,.slice ka Kn kc],.int .i64 0]) ∧
   Below u.heap.size u w'∧Bytes w' (.slice pa pn pc) pp∧Bytes w' (.slice va vn vc) vb∧Texts w' (.slice ka Kn kc) ps4∧ps4.map (·.2)=KK):=fun u hu=>by
  rw [hpn,hvn,hKn]
  refine Calls.mono (rread_any qa qn qc qc0 hqn.symm HTq.2 u (HTq.1.below hu)) (fun e w' h=>?_)
  dsimp only at hr
  rw [hr] at h
  exact rd_form h
 rw [← hpn,← hvn,← hKn] at hlen
 obtain ⟨l1,l2,l3⟩:=hlen
 have C1:=Lib.hid C
 have FW:=Lib.hid (fun (u:World) (hu:Below w.heap.size w u)=>hw.kept hu)
 have HfR:=Lib.hid hfine
 have Ih:=Lib.hid ih
 have HK32:=Lib.hid hK32
 have hgW:=hw.hg
 have hW0:=hw.hw.size
 have hz1:¬ (64:Int)<(d:Int):=by omega
 have hmm:¬ (m:Int)=4096:=by omega
 obtain ⟨M1,hM1⟩:∃ n,n=m+1:=⟨_,rfl⟩
 have hwr:IntKind.i64.wrap ((m:Int)+1)=(M1:Int):=by rw [IntWalk.i64_in _ (by omega)];omega
 have hM2:M1≤4096:=by omega
 rw [← hM1] at hR
 have HM1:=Lib.hid hM1
 have HR:=Lib.hid hR
 have HKn:=Lib.hid hKn
 have Hnd:=Lib.hid hnd
 have hat:=fun (a:Option Addr) (c:Nat) (x:World)=>run_arrayAt (P:=Try.prog) (t:=69) (e:=5) (n:=32) Try.underlying69 a 32 c (Nat.le_refl _) x
 subst hk
 rw [← hpn] at hp1 hD
 obtain ⟨D1,hD1⟩:∃ n,n=d+(pn - 1):=⟨_,rfl⟩
 have hwP:IntKind.i64.wrap ((pn:Int) - 1)=((pn - 1:Nat):Int):=by rw [IntWalk.i64_in _ (by omega)];omega
 obtain ⟨p1,hp2⟩:∃ p,p=pn - 1:=⟨_,rfl⟩
 rw [← hp2] at hwP hD1
 have hwQ:IntKind.i64.wrap ((d:Int)+(p1:Int))=(D1:Int):=by rw [IntWalk.i64_in _ (by omega)];omega
 have hwD:IntKind.i64.wrap ((D1:Int)+1)=(D:Int):=by rw [IntWalk.i64_in _ (by omega)];omega
 have hDle:D≤4194400:=by omega
 have hDn:65≤n+D:=by omega
 clear hD hD1 hp2
 clear hM1 hR hKn hpn hvn hnd hK hV hF hw1 G0 look hw hl hKl C hq hqn HTq hr hfine ih hK32
 go_enter Try.func81,Try.ntmps81
 go_wp2_with fail
 rw [show (w.alloc (.cells K.toArray 69)).alloc (.cells #[.int .i64 0,.slice none 0 0,.slice none 0 0,.slice none 0 0] 25)=w1 from Hw1.out.symm]
 refine wp_region_typed w1 11 (by kernel_rfl) (by kernel_rfl) (Below.refl _ _) ?_;simp only [List.take_succ_cons,List.take_zero,List.take_nil]
 iterate 4 (refine wpX_step (by rfl) (fun K hK=>?_);go_simp;first|(refine hK _ ?_;clear hK K)|(apply Exists.intro;refine ⟨fun _=>?_,hK _ ?_⟩;exact g0 _;clear hK K))
 (refine wpX_step (by rfl) (fun K hK=>?_);rw [if_pos (by rfl)];refine ⟨_,fun u=>const_loadm _ (.tmp 4) (by rfl) _ _ (by rfl) aggHash' HKl.out (rangeAt.ext rh u),hK _ ?_⟩;clear hK K;simp only [Act.put,List.setIfInBounds_toArray,List.set_cons_zero,List.set_cons_succ])
 (refine wpX_step (by rfl) (fun K hK=>?_);go_simp;first|(refine hK _ ?_;clear hK K)|(apply Exists.intro;refine ⟨fun _=>?_,hK _ ?_⟩;exact lookE _;clear hK K))
 iterate 5 (refine wpX_step (by rfl) (fun K hK=>?_);go_simp;first|(refine hK _ ?_;clear hK K)|(apply Exists.intro;refine ⟨fun _=>?_,hK _ ?_⟩;fail;clear hK K))
 refine wpX_nil ?_
 intro y hy
 change forallRel y [] _ _
 simp only [forallRel,List.drop_succ_cons,List.drop_zero,List.drop_nil]
 have by1:=Below.then hbel hy
 have hzy:=hz.kept hy
 have Fy:=FW.out y by1
 have hg1:y.cell? ⟨g,1,none⟩=some (.int .i64 (m:Int)):=Fy.hz.cell 1
 have hgf:=Fy.hz.free 1
 obtain ⟨y1,hy1⟩:∃ y1,y1=y.setCell ⟨g,1,none⟩ (.int .i64 (M1:Int)):=⟨_,rfl⟩
 have z1:Blk 166 y1 g (ldC b (m+1)):=by rw [hy1,← HM1.out];exact Fy.hz.set 1 _
 have gy:y.grownBy y1 (some g):=by rw [hy1];exact grown_cell 1 _
 have F1:LdW ps W0 g b N (m+1) y1:=Fy.turn z1 gy
 have G1:w.grownBy y1 (some g):=gb_then (gb_of by1 _) gy (fun k hk=>.inl (by cases hk;rfl))
 have hzy1:Blk 25 y1 (w.heap.size+1) (ndcells zN):=hzy.grown gy (by simp;omega)
 have sy1:y1.heap.size=y.heap.size:=by rw [hy1];simp
 have szy:w.heap.size+2≤y1.heap.size:=by have:=hy.size;omega
 have C2:=C1.out y1 F1.hw
 go_wp2_with (first
  | (go_at_call 139;rw [← hy1];(with_reducible refine C2.mono ?_);rintro e w4 ⟨pa,pc,va,vc,ka,kc,ps4,rfl,b4,i1,i2,i3,i4⟩;have F4:=F1.kept b4;have G4:=gb_below G1 b4 (by omega);have hz4:=(hzy1.kept b4);have s4:=b4.size))
 have hww:w.heap.size+1<w4.heap.size:=by omega
 have z4:=F4.hz
 have F0:LoopN ps W0 g b N w w4 2 (.slice pa pn pc) (.slice va vn vc) (.slice ka Kn kc) (.slice none 0 0) [] M1 ((w4.alloc (.cells #[.int .i64 2,.slice pa pn pc,.slice va vn vc,.slice ka Kn kc] 250)).alloc (.cells #[.int .i64 2,.slice pa pn pc,.slice va vn vc,.slice none 0 0] 25)):=by
  have bA:=(Below.refl w4.heap.size w4).alloc (Nat.le_refl _) (.cells #[.int .i64 2,.slice pa pn pc,.slice va vn vc,.slice ka Kn kc] 250)
  have bB:=bA.alloc (by simp) (.cells #[.int .i64 2,.slice pa pn pc,.slice va vn vc,.slice none 0 0] 25)
  have nB:=Blk.new (w4.alloc (.cells #[.int .i64 2,.slice pa pn pc,.slice va vn vc,.slice ka Kn kc] 250)) 25 [.int .i64 2,.slice pa pn pc,.slice va vn vc,.slice none 0 0]
  simp only [World.size_alloc] at nB
  rw [← HM1.out] at F4
  exact ⟨F4.kept bB,(Blk.new w4 250 [.int .i64 2,.slice pa pn pc,.slice va vn vc,.slice ka Kn kc]).alloc _,nB,hz4.kept bB,OwnOf.nil _ _ _ _ _,Clean.nil _,by simp,by simp,gb_of bB _,gb_below G4 bB (by omega)⟩
 have S4:=Lib.hid i4
 have hps:ps4.length=Kn:=i3.1.fits.1.symm
 clear i4
 go_loopw [83] (fun ix wr=>∃ (k:Nat) (va':Option Addr) (vc':Nat) (ts:List Nd) (mi:Nat),k≤Kn∧ts.length=k∧mi≤4096∧ix=.int .i64 (k:Int)∧kidsL f D KK M1 []=kidsL f D (KK.drop k) mi (ts.map erN)∧LoopN ps W0 g b N w w4 2 (.slice pa pn pc) (.slice va vn vc) (.slice ka Kn kc) (.slice va' k vc') ts mi wr) (fun ix _=>Kn - (intOf ix).toNat)
 case atStart=>exact ⟨0,none,0,[],M1,by omega,rfl,hM2,rfl,by simp,F0⟩
 case round =>
  clear F0
  obtain ⟨k,va',vc',ts,mi,hk,hts,hmi,rfl,heq,F⟩:=hrel
  have hnl:=F.hn.lt
  by_cases hlt:k<Kn
  ·have hz:(k:Int)<(Kn:Int):=by omega
   have T:=F.texts z4 i3
   have hkl:k<ps4.length:=by omega
   obtain ⟨kb,koff,hka,hc⟩:=T.1.cells (f:=tcell) (size:=1) (fun _=>rfl) k hkl
   have hc0:wr.cell? ⟨kb,koff+k,none⟩=some ps4[k].1:=by have:=hc 0 _ rfl;simpa using this
   have hq:=T.2 ps4[k] (List.getElem_mem _)
   obtain ⟨hdr,hmem⟩:=elem_at S4.out hkl
   obtain ⟨X,hX⟩:∃ X,X=ps4[k]:=⟨_,rfl⟩
   rw [← hX] at hc0 hq hdr hmem
   clear hX hc T
   obtain ⟨xv,xl⟩:=X
   obtain ⟨xa,xc,hxv,_⟩:=RowOf.form hq
   dsimp only at hxv hdr hmem hc0 hq
   subst hxv
   subst hka
   have h32:=HK32.out xl hmem
   rw [hdr] at heq
   have hkb:=World.block_lt_of_cell? wr _ hc0
   obtain ⟨U,hU⟩:∃ U,U=wr.alloc (.cells #[.int .i64 0,.slice none 0 0,.slice none 0 0,.slice none 0 0] 25):=⟨_,rfl⟩
   have bU:Below wr.heap.size wr U:=by rw [hU];exact (Below.refl _ _).alloc (Nat.le_refl _) _
   have sU:U.heap.size=wr.heap.size+1:=by rw [hU];simp
   have zU:Blk 25 U wr.heap.size (ndcells zN):=by rw [hU];exact Blk.new wr _ _
   have HU:=Lib.hid hU
   have FU:=F.kept bU
   have cU:=FU.hn.cell 3
   simp only [List.getElem?_cons_succ,List.getElem?_cons_zero] at cU
   clear hU hdr hmem
   by_cases hx:xl=[]
   ·subst hx
    rw [kidsL_hole] at heq
    have Heq:=Lib.hid heq
    simp only [List.length_nil] at hc0 hq
    clear heq h32 hq
    have cU':(wr.alloc (.cells #[.int .i64 0,.slice none 0 0,.slice none 0 0,.slice none 0 0] 25)).cell? ⟨w4.heap.size+1,3,none⟩=some (.slice va' k vc'):=by rw [← HU.out];exact cU
    go_wp2_with (first
     | ((with_reducible show wpList _ _ _ (⟨some 106,_,_,_,_,_⟩::_) _ _);refine wpList_loadA (o:=⟨some 106,_,_,_,_,_⟩) (by rfl) 25 (.tmp 15) (by rfl) wr.heap.size (by rfl) aggNode (cs:=ndcells zN) (Blk.new wr _ _) (by rfl) ?_)
     | ((with_reducible show wpList _ _ _ (⟨some 107,_,_,_,_,_⟩::_) _ _);refine wpList_buildW (o:=⟨some 107,_,_,_,_,_⟩) (by rfl) 23 1 [(0,.tmp 106)] (by rfl) elNode [zN] [.agg (ndcells zN).toArray] rfl (by rfl) (by rfl) (by omega) (by omega) ?_;intro w8 h8 r8 b8;rw [← HU.out] at b8;have F8:=FU.kept b8;have s8:=b8.size)
     | (((with_reducible show wpList _ _ _ (⟨some 108,_,_,_,_,_⟩::_) _ _);refine wpList_appD (o:=⟨some 108,_,_,_,_,_⟩) (by rfl) (.tmp 105) (.tmp 107) 23 (by rfl) elNode (m:=[zN]) (one_one (IsNd.zeroN w8)) (by rfl) F8.ow (by rfl) r8 (by omega) (by have:=F8.hn.lt;omega) (by simp only [List.length_cons,List.length_nil];omega) (by simp only [List.length_cons,List.length_nil];unfold maxLen;omega) F8.cl (no8_one (IsNd.zeroN w8)) no8_zero ?_;intro v9 w9 o9 g9 p9 c9;obtain ⟨a9,q9,rfl,_⟩:=o9.form' (k+1) (by rw [List.length_append,hts];rfl);have y9:=F8.hn.grown g9 (fun e=>by have:=F8.ow.lt _ e;omega);obtain ⟨x9,hx9⟩:=y9.has 3 (by simp);have hf9:=y9.free 3)))
    go_roundw
    case rel=>exact ⟨k+1,a9,q9,ts++[zN],mi,by omega,by simp [hts],hmi,by go_num,by rw [Heq.out,List.map_append];rfl,F8.snoc hgl hww hW0 (IsNd.zeroN _) (KdIn.zero _) o9 g9 p9 c9⟩
    case measure=>simp [intOf];omega
   ·have hxl:xl.length=32:=h32.resolve_left hx
    rw [hxl] at hq hc0
    cases xa with
    | none=>exact absurd (row_none hq) (by omega)
    | some xp =>
    obtain ⟨xb,xo,xs⟩:=xp
    obtain ⟨rfl,hrng⟩:=bytes_range (hq.kept bU) (by omega)
    have hXl:(xl.map u8v).length=32:=by rw [List.length_map];exact hxl
    obtain ⟨R5,hR5⟩:∃ R5,R5=f xl D mi:=⟨_,rfl⟩
    have CI:=Ih.out xl D mi U hxl (by have:=Hnd.out;omega) (by omega) hmi FU.ld
    have hf5:=HfR.out xl D mi hmi
    rw [← hR5] at CI hf5
    obtain ⟨X,hX⟩:∃ X,X=xl.map u8v:=⟨_,rfl⟩
    rw [← hX] at CI hrng hXl
    by_cases hE:R5.1=0
    ·have hkg:=kidsL_good f D mi (ts.map erN) xl (KK.drop (k+1)) hx (by rw [← hR5];exact hE)
     rw [← hR5] at hkg
     rw [hkg] at heq
     have Heq:=Lib.hid heq
     obtain ⟨E5,P5,m5⟩:=R5
     dsimp only at hE
     subst hE
     have CI2:=Lib.hid CI
     have Hf5:=Lib.hid hf5
     clear heq hkg hR5 CI hf5 h32 hx hX hq hxl
     go_wp2_with (first
      | ((with_reducible show wpList _ _ _ (⟨some 94,_,_,_,_,_⟩::_) _ _);refine wpList_loadW (o:=⟨some 94,_,_,_,_,_⟩) 69 (.tmp 93) (by rfl) xb xo (by rfl) aggHash' hXl (by rw [← HU.out];exact hrng) (by rfl) ?_)
      | (go_at_call 81;rw [← HU.out];(with_reducible refine CI2.out.mono ?_);rintro e w5 ⟨t5,rfl,i5,e5,k5,l5,g5⟩;have n5:=i5.one;have z5:=zU.grown g5 (by simp;have:=F.gw.size;omega);have t5l:=ndcells_len t5)
      | ((with_reducible show wpList _ _ _ (⟨none,Op.store _ _ (Operand.tmp 98),_,_,_,_⟩::_) _ _);refine wpList_storeA (o:=⟨none,_,_,_,_,_⟩) (by rfl) 25 (.tmp 15) (.tmp 98) (by rfl) wr.heap.size (ndcells t5) (by rfl) (by rfl) aggNode z5 t5l (by rfl) n5 (Below.refl 0 _) (Nat.zero_le _) ?_;intro w6 h6 _ g6;obtain ⟨F6,i6,k6⟩:=F.kid hgl hww hW0 bU sU zU (no8_nd _ _ _ _ _ _ _ _ _ _) l5 g5 i5 k5 g6;have c6:=F6.hn.cell 3;simp only [List.getElem?_cons_succ,List.getElem?_cons_zero] at c6)
      | ((with_reducible show wpList _ _ _ (⟨some 106,_,_,_,_,_⟩::_) _ _);refine wpList_loadA (o:=⟨some 106,_,_,_,_,_⟩) (by rfl) 25 (.tmp 15) (by rfl) wr.heap.size (by rfl) aggNode h6 t5l ?_)
      | ((with_reducible show wpList _ _ _ (⟨some 107,_,_,_,_,_⟩::_) _ _);refine wpList_buildW (o:=⟨some 107,_,_,_,_,_⟩) (by rfl) 23 1 [(0,.tmp 106)] (by rfl) elNode [t5] [.agg (ndcells t5).toArray] rfl (by rfl) (by simp [Value.cells]) (by omega) (by omega) ?_;intro w8 h8 r8 b8;have F8:=F6.kept b8;have i8:=i6.kept b8;have k8:=k6.mono (fun k hk=>And.intro hk.1 (And.intro (Nat.lt_of_lt_of_le hk.2.1 b8.size) hk.2.2));have s8:=b8.size)
      | (((with_reducible show wpList _ _ _ (⟨some 108,_,_,_,_,_⟩::_) _ _);refine wpList_appD (o:=⟨some 108,_,_,_,_,_⟩) (by rfl) (.tmp 105) (.tmp 107) 23 (by rfl) elNode (m:=[t5]) (one_one i8) (by rfl) F8.ow (by rfl) r8 (by omega) (by have:=F8.hn.lt;omega) (by simp only [List.length_cons,List.length_nil];omega) (by simp only [List.length_cons,List.length_nil];unfold maxLen;omega) F8.cl (no8_one i8) no8_zero ?_;intro v9 w9 o9 g9 p9 c9;obtain ⟨a9,q9,rfl,_⟩:=o9.form' (k+1) (by rw [List.length_append,hts];rfl);have y9:=F8.hn.grown g9 (fun e=>by have:=F8.ow.lt _ e;omega);obtain ⟨x9,hx9⟩:=y9.has 3 (by simp);have hf9:=y9.free 3)))
     go_roundw
     case rel=>exact ⟨k+1,a9,q9,ts++[t5],m5,by omega,by simp [hts],Hf5.out.2.1,by go_num,by rw [Heq.out,List.map_append];simp only [List.map_cons,List.map_nil];rw [e5 (by trivial)],F8.snoc hgl hww hW0 i8 k8 o9 g9 p9 c9⟩
     case measure=>simp [intOf];omega
    ·have hkg:=kidsL_bad f D mi (ts.map erN) xl (KK.drop (k+1)) hx (by rw [← hR5];exact hE)
     rw [← hR5] at hkg
     rw [hkg] at heq
     have hRR:R=(R5.1,zP,R5.2.2):=by rw [HR.out,heq];unfold ofKids;rw [if_neg hE]
     obtain ⟨E5,P5,m5⟩:=R5
     dsimp only at hE hRR
     have HRR:=Lib.hid hRR
     have CI2:=Lib.hid CI
     clear heq hkg hR5 CI hf5 h32 hx hX hq hxl hRR
     go_wp2_with (first
      | ((with_reducible show wpList _ _ _ (⟨some 94,_,_,_,_,_⟩::_) _ _);refine wpList_loadW (o:=⟨some 94,_,_,_,_,_⟩) 69 (.tmp 93) (by rfl) xb xo (by rfl) aggHash' hXl (by rw [← HU.out];exact hrng) (by rfl) ?_)
      | (go_at_call 81;rw [← HU.out];(with_reducible refine CI2.out.mono ?_);rintro e w5 ⟨t5,rfl,i5,e5,k5,l5,g5⟩;have n5:=i5.one;have z5:=zU.grown g5 (by simp;have:=F.gw.size;omega);have t5l:=ndcells_len t5)
      | ((with_reducible show wpList _ _ _ (⟨none,Op.store _ _ (Operand.tmp 98),_,_,_,_⟩::_) _ _);refine wpList_storeA (o:=⟨none,_,_,_,_,_⟩) (by rfl) 25 (.tmp 15) (.tmp 98) (by rfl) wr.heap.size (ndcells t5) (by rfl) (by rfl) aggNode z5 t5l (by rfl) n5 (Below.refl 0 _) (Nat.zero_le _) ?_;intro w6 h6 _ g6;obtain ⟨F6,i6,k6⟩:=F.kid hgl hww hW0 bU sU zU (no8_nd _ _ _ _ _ _ _ _ _ _) l5 g5 i5 k5 g6)
      | ((with_reducible show wpList _ _ _ (⟨none,Op.store _ _ (Operand.tmp 102),_,_,_,_⟩::_) _ _);refine wpList_storeA (o:=⟨none,_,_,_,_,_⟩) (by rfl) 25 (.tmp 6) (.tmp 102) (by rfl) (w.heap.size+1) (ndcells zN) (by rfl) (by rfl) aggNode F6.h6 (by rfl) (by rfl) (by intro u hu;simp [ndcells,zN] at hu;rcases hu with rfl|rfl <;> rfl) (Below.refl 0 _) (Nat.zero_le _) ?_;intro w7 h7 _ g7))
     exact bodyPost_ret (v:=.tuple #[.agg (ndcells zN).toArray,.int .i64 E5]) (results_blk_tmp rfl _ _ (w.heap.size+1) aggNode h7 (by rfl) rfl rfl) rfl ⟨zN,by rw [HRR.out],IsNd.zeroN _,fun e=>absurd (by rw [HRR.out] at e;exact e) hE,KdIn.zero _,by rw [HRR.out];exact F6.ld.put F6.h6 g7 (by omega) (by omega),gb_then F6.gw g7 (fun k hk=>.inr (by cases hk;omega))⟩
  ·obtain rfl:k=Kn:=by omega
   have hz:¬ (k:Int)<(k:Int):=by omega
   have hRR:R=(0,.mk 2 pp vb (ts.map erN),mi):=by rw [HR.out,heq,List.drop_eq_nil_of_le (by have:=HKn.out;omega),kidsL_empty];unfold ofKids;rw [if_pos rfl]
   have HRR:=Lib.hid hRR
   clear hRR heq
   go_wp2_with (first
    | ((with_reducible show wpList _ _ _ (⟨some 111,_,_,_,_,_⟩::_) _ _);refine wpList_loadA (o:=⟨some 111,_,_,_,_,_⟩) (by rfl) 25 (.tmp 12) (by rfl) (w4.heap.size+1) (by rfl) aggNode F.hn (by rfl) ?_)
    | ((with_reducible show wpList _ _ _ (⟨none,Op.store _ _ (Operand.tmp 111),_,_,_,_⟩::_) _ _);refine wpList_storeA (o:=⟨none,_,_,_,_,_⟩) (by rfl) 25 (.tmp 6) (.tmp 111) (by rfl) (w.heap.size+1) [.int .i64 2,.slice pa pn pc,.slice va vn vc,.slice va' k vc'] (by rfl) (by rfl) aggNode F.h6 (by rfl) (by rfl) (by intro u hu;simp at hu;rcases hu with rfl|rfl|rfl|rfl <;> rfl) (Below.refl 0 _) (Nat.zero_le _) ?_;intro w7 h7 _ g7))
   exact bodyPost_ret (v:=.tuple #[.agg #[.int .i64 2,.slice pa pn pc,.slice va vn vc,.slice va' k vc'],.int .i64 0]) (results_blk_tmp rfl _ _ (w.heap.size+1) aggNode h7 (by rfl) rfl rfl) rfl (F.done hgl hww hW0 z4 i1 i2 g7 HRR.out)
end Go.Proofs.Ytakhaanenlblmaa
/- (Ld11) root's node, at every input. -/
namespace Go.Proofs.Ytakhaanenlblmaa
open Go.RowKit
theorem nd_bad {ps:List (Value × List UInt8)} {W0:World} {g b N m m':Nat} {w w':World} {E:Int} {R:Ldr} (hR:R=(E,zP,m')) (hl:LdW ps W0 g b N m' w') (hg:w.grownBy w' (some g)):NdPost R ps W0 g b N w (.returned (.tuple #[.agg (ndcells zN).toArray,.int .i64 E])) w':=by
 subst hR
 exact ⟨zN,rfl,IsNd.zeroN _,fun _=>rfl,KdIn.zero _,hl,hg⟩
theorem node_any (ps:List (Value × List UInt8)) (W0:World) (HT:∀ q∈ps,Bytes W0 q.1 q.2∧q.2.length≤1048576) (g b N:Nat):∀ n,NodeC ps W0 g b N n
 | 0=>fun h d m w hl hnd hd hm hw=>by
  refine Calls.mono (node_early ps W0 g b N m d h hl (by omega) hm 1 (.inl ⟨by omega,rfl⟩) w hw) ?_
  rintro e w' ⟨rfl,hb⟩
  exact nd_bad (m:=m) rfl (hw.kept hb) (gb_of hb _)
 | n+1=>fun h d m w hl hnd hd hm hw=>by
  have hts:∀ t∈ps.map (·.2),t.length≤1048576:=fun t ht=>by
   obtain ⟨q,hq,rfl⟩:=List.mem_map.1 ht
   exact (HT q hq).2
  by_cases h64:64<d
  ·have hR:ldP (ps.map (·.2)) (n+1) h d m=(1,zP,m):=by simp only [ldP];rw [if_pos h64]
   refine Calls.mono (node_early ps W0 g b N m d h hl (by omega) hm 1 (.inl ⟨h64,rfl⟩) w hw) ?_
   rintro e w' ⟨rfl,hb⟩
   exact nd_bad (m:=m) hR (hw.kept hb) (gb_of hb _)
  ·cases hq:firstQ ps h with
   | none =>
    have hR:ldP (ps.map (·.2)) (n+1) h d m=(5,zP,m):=by simp only [ldP];rw [if_neg h64,first_find,hq];rfl
    refine Calls.mono (node_early ps W0 g b N m d h hl (by omega) hm 5 (.inr (.inl ⟨by omega,hq,rfl⟩)) w hw) ?_
    rintro e w' ⟨rfl,hb⟩
    exact nd_bad (m:=m) hR (hw.kept hb) (gb_of hb _)
   | some q =>
    by_cases hm4:4096≤m
    ·have hR:ldP (ps.map (·.2)) (n+1) h d m=(6,zP,m):=by simp only [ldP];rw [if_neg h64,first_find,hq];simp only [Option.map_some];rw [if_pos hm4]
     refine Calls.mono (node_early ps W0 g b N m d h hl (by omega) hm 6 (.inr (.inr ⟨by omega,by rw [hq];rfl,by omega,rfl⟩)) w hw) ?_
     rintro e w' ⟨rfl,hb⟩
     exact nd_bad (m:=m) hR (hw.kept hb) (gb_of hb _)
    ·cases hr:rdB q.2 with
     | none =>
      have hR:ldP (ps.map (·.2)) (n+1) h d m=(1,zP,m+1):=by simp only [ldP];rw [if_neg h64,first_find,hq];simp only [Option.map_some];rw [if_neg hm4,hr]
      refine Calls.mono (node_form ps W0 HT g b N m d h hl (by omega) (by omega) q hq (.inl hr) w hw) ?_
      rintro e w' ⟨rfl,hF,hG⟩
      exact nd_bad (m:=m) hR hF hG
     | some s =>
      by_cases h0:s.1=0∧0<d
      ·have hR:ldP (ps.map (·.2)) (n+1) h d m=(1,zP,m+1):=by simp only [ldP];rw [if_neg h64,first_find,hq];simp only [Option.map_some];rw [if_neg hm4,hr];dsimp only;rw [if_pos h0]
       refine Calls.mono (node_form ps W0 HT g b N m d h hl (by omega) (by omega) q hq (.inr ⟨s,hr,h0⟩) w hw) ?_
       rintro e w' ⟨rfl,hF,hG⟩
       exact nd_bad (m:=m) hR hF hG
      ·obtain ⟨_,l1,l2,l3,_⟩:=rd_le hr (HT q (first_mem hq).1).2
       have hkn:=rd_kinds hr
       have hR:ldP (ps.map (·.2)) (n+1) h d m=ofKids s.1 s.2.1 s.2.2.1 (kidsL (ldP (ps.map (·.2)) n) (d+stepD s) s.2.2.2 (m+1) []):=by
        simp only [ldP];rw [if_neg h64,first_find,hq];simp only [Option.map_some];rw [if_neg hm4,hr];dsimp only;rw [if_neg h0];rfl
       obtain ⟨kd,pp,vb,K⟩:=s
       dsimp only at *
       have h32:∀ k∈K,k=[]∨k.length=32:=by
        rcases hkn with ⟨_,e⟩|⟨_,e⟩|⟨_,_,k,e,hk⟩|⟨_,_,e⟩
        ·subst e;simp
        ·subst e;simp
        ·subst e;intro x hx;rw [List.mem_singleton] at hx;subst hx;exact .inr hk
        ·exact e
       by_cases hk0:kd=0
       ·exact node_none ps W0 HT g b N n _ (ldP_fine hts n) (node_any ps W0 HT g b N n) h hl d m (by omega) (by omega) (by omega) q hq kd pp vb K hr ⟨l1,l2,l3⟩ h32 hk0 (by omega) (by
         rcases hkn with ⟨_,e⟩|⟨e,_⟩|⟨e,_⟩|⟨e,_⟩
         ·rw [e];rfl
         ·omega
         ·omega
         ·omega) _ (by unfold stepD;rw [if_neg (by dsimp only;omega)];omega) _ hR w hw
       ·by_cases hk2:kd=2
        ·exact node_road ps W0 HT g b N n _ (ldP_fine hts n) (node_any ps W0 HT g b N n) h hl d m (by omega) (by omega) (by omega) q hq kd pp vb K hr ⟨l1,l2,l3⟩ h32 hk2 (by
          rcases hkn with ⟨e,_⟩|⟨e,_⟩|⟨_,e,_⟩|⟨e,_⟩
          ·omega
          ·omega
          ·exact e
          ·omega) _ (by unfold stepD;rw [if_pos hk2]) _ hR w hw
        ·exact node_other ps W0 HT g b N n _ (ldP_fine hts n) (node_any ps W0 HT g b N n) h hl d m (by omega) (by omega) (by omega) q hq kd pp vb K hr ⟨l1,l2,l3⟩ h32 hk0 hk2 _ (by unfold stepD;rw [if_neg hk2]) _ hR w hw
end Go.Proofs.Ytakhaanenlblmaa
