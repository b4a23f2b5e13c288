/- come, at every input; the reference's HLoad. -/
import Derived.Test.YtakhaanenlblmaaLd16
import Derived.Test.YtakhaanenlblmaaLd17
import Derived.Great.BuildSlice
set_option linter.unusedSimpArgs false
set_option linter.unusedVariables false
namespace Go.Proofs.Ytakhaanenlblmaa
open Go.RowKit
theorem cm_bad {ps:List (Value × List UInt8)} {W0:World} {sa:Option Addr} {sc:Nat} {aa:Option Addr} {ac n B0 g m':Nat} {w w':World} {E:Int} {R:Ldr} (hR:R=(E,zP,m')) (hl:ViW ps W0 sa sc aa ac n B0 g m' w') (hg:w.grownBy w' (some g)):CmPost R ps W0 sa sc aa ac n B0 g w (.returned (.tuple #[.agg (ndcells zN).toArray,.int .i64 E])) w':=by
 subst hR
 exact ⟨zN,rfl,IsNd.zeroN _,fun _=>rfl,KdIn.zero _,hl,hg⟩
theorem come_any (ps:List (Value × List UInt8)) (W0:World) (sa:Option Addr) (sc:Nat) (aa:Option Addr) (ac n B0 g:Nat) (hn:ps.length=n) (hns:n≤1048576) (hbb:∀ q∈ps,q.2.length≤1048576):∀ (N0:Nat) (h:List UInt8) (d m:Nat) (w:World),h.length=32→65≤N0+d→d≤5000000→m≤4096→ViW ps W0 sa sc aa ac n B0 g m w →
  Calls Try.prog 83 #[.pointer (some ⟨g,0,none⟩),.agg (h.map u8v).toArray,.int .i64 (d:Int)] w (CmPost (ldP (ps.map (·.2)) N0 h d m) ps W0 sa sc aa ac n B0 g w)
 | 0=>fun h d m w hl hnd hd hm hw=>by
  refine Calls.mono (come_deep ps W0 sa sc aa ac n B0 g m d hn hns h hl (by omega) (by omega) w hw) ?_
  rintro e w' ⟨rfl,hb⟩
  exact cm_bad (m':=m) rfl (hw.kept hb) (gb_of hb _)
 | N0+1=>fun h d m w hl hnd hd hm hw=>by
  have hts:∀ t∈ps.map (·.2),t.length≤1048576:=fun t ht=>by
   obtain ⟨q,hq,rfl⟩:=List.mem_map.1 ht
   exact hbb q hq
  by_cases h64:64<d
  ·have hR:ldP (ps.map (·.2)) (N0+1) h d m=(1,zP,m):=by simp only [ldP];rw [if_pos h64]
   refine Calls.mono (come_deep ps W0 sa sc aa ac n B0 g m d hn hns h hl (by omega) h64 w hw) ?_
   rintro e w' ⟨rfl,hb⟩
   exact cm_bad (m':=m) hR (hw.kept hb) (gb_of hb _)
  ·cases hq:firstQ ps h with
   | none =>
    have hR:ldP (ps.map (·.2)) (N0+1) h d m=(5,zP,m):=by simp only [ldP];rw [if_neg h64,first_find,hq];rfl
    refine Calls.mono (come_missing ps W0 sa sc aa ac n B0 g m d hn hns h hl (by omega) hq w hw) ?_
    rintro e w' ⟨rfl,hb⟩
    exact cm_bad (m':=m) hR (hw.kept hb) (gb_of hb _)
   | some q =>
    by_cases hm4:4096≤m
    ·have hR:ldP (ps.map (·.2)) (N0+1) h d m=(6,zP,m):=by simp only [ldP];rw [if_neg h64,first_find,hq];simp only [Option.map_some];rw [if_pos hm4]
     refine Calls.mono (come_much ps W0 sa sc aa ac n B0 g m d hn hns h hl (by omega) q hq (by omega) w hw) ?_
     rintro e w' ⟨rfl,hb⟩
     exact cm_bad (m':=m) hR (hw.kept hb) (gb_of hb _)
    ·cases hr:rdB q.2 with
     | none =>
      have hR:ldP (ps.map (·.2)) (N0+1) h d m=(1,zP,m+1):=by simp only [ldP];rw [if_neg h64,first_find,hq];simp only [Option.map_some];rw [if_neg hm4,hr]
      refine Calls.mono (come_form ps W0 sa sc aa ac n B0 g m d hn hns h hl hbb (by omega) (by omega) q hq hr w hw) ?_
      rintro e w' ⟨rfl,hF,hG⟩
      exact cm_bad (m':=m+1) hR hF hG
     | some s =>
      obtain ⟨_,l1,l2,l3,_⟩:=rd_le hr (hbb q (first_mem hq).1)
      have hkn:=rd_kinds hr
      have hR:ldP (ps.map (·.2)) (N0+1) h d m=if s.1=0∧0<d then (1,zP,m+1) else ofKids s.1 s.2.1 s.2.2.1 (kidsL (ldP (ps.map (·.2)) N0) (d+stepD s) s.2.2.2 (m+1) []):=by
       simp only [ldP];rw [if_neg h64,first_find,hq];simp only [Option.map_some];rw [if_neg hm4,hr];rfl
      obtain ⟨kd,pp,vb,K⟩:=s
      dsimp only at *
      rcases hkn with ⟨hk,e⟩|⟨hk,e⟩|⟨hk,hp,k,e,hk32⟩|⟨hk,h16,h32⟩
      ·by_cases h0:0<d
       ·rw [if_pos ⟨hk,h0⟩] at hR
        rw [hR]
        exact come_none ps W0 sa sc aa ac n B0 g m d hn hns h hl hbb (by omega) (by omega) q hq kd pp vb K hr ⟨l1,l2,l3⟩ hk h0 w hw
       ·rw [if_neg (fun x=>h0 x.2),e,kidsL_empty] at hR
        have hR2:ofKids kd pp vb (0,[],m+1)=(0,.mk kd pp vb [],m+1):=by unfold ofKids;rw [if_pos rfl]
        rw [hR,hR2]
        exact come_nil ps W0 sa sc aa ac n B0 g m d hn hns h hl hbb (by omega) (by omega) q hq kd pp vb K hr ⟨l1,l2,l3⟩ hk (by omega) w hw
      ·rw [if_neg (fun x=>by omega),e,kidsL_empty] at hR
       have hR2:ofKids kd pp vb (0,[],m+1)=(0,.mk kd pp vb [],m+1):=by unfold ofKids;rw [if_pos rfl]
       rw [hR,hR2]
       exact come_leaf ps W0 sa sc aa ac n B0 g m d hn hns h hl hbb (by omega) (by omega) q hq kd pp vb K hr ⟨l1,l2,l3⟩ hk w hw
      ·rw [if_neg (fun x=>by omega)] at hR
       exact come_road ps W0 sa sc aa ac n B0 g m d hn hns h hl hbb (by omega) (by omega) q hq kd pp vb K hr ⟨l1,l2,l3⟩ N0 _ (ldP_fine hts N0) (come_any ps W0 sa sc aa ac n B0 g hn hns hbb N0) (by omega) hk k e hk32 hp _ (by unfold stepD;rw [if_pos hk]) _ hR w hw
      ·rw [if_neg (fun x=>by omega)] at hR
       exact come_fork ps W0 sa sc aa ac n B0 g m d hn hns h hl hbb (by omega) (by omega) q hq kd pp vb K hr ⟨l1,l2,l3⟩ N0 _ (ldP_fine hts N0) (come_any ps W0 sa sc aa ac n B0 g hn hns hbb N0) (by omega) hk h16 h32 _ (by unfold stepD;rw [if_neg (by dsimp only;omega)]) _ hR w hw
theorem elHash:El0 Try.prog 153 69 (.agg zh.toArray) 32 32 hq32:=⟨Try.underlying153,by kernel_rfl,rfl,by omega,hq32_len⟩
theorem hq32_one (l:List UInt8):∀ u∈hq32 l,u.oneCell'=true:=by
 intro u hu
 have:=List.mem_of_mem_take hu
 rcases List.mem_append.1 this with h|h
 ·obtain ⟨x,_,rfl⟩:=List.mem_map.1 h;rfl
 ·rw [List.eq_of_mem_replicate h];rfl
def OneHq (L:List UInt8):Ty:=fun v u=>∃ g,v=.slice (some ⟨g,0,none⟩) 1 1∧Blk 69 u g (hq32 L)
theorem OneHq.mono (L:List UInt8):Mono (OneHq L):=fun _ _ _ ⟨g,h1,h2⟩ hb=>⟨g,h1,h2.kept hb⟩
theorem good_oneHq {T:Ty} {o:Oper} {a:Act} {w:World} (x:Operand) (ho:o.op=.buildSlice 153 1 #[(0,x)]) (L:List UInt8) (hx:a.eval x=.agg (hq32 L).toArray) (hT:T (.slice (some ⟨w.heap.size,0,none⟩) 1 1) (w.alloc (.cells (hq32 L).toArray 69))) :
  goodUpon Try.prog T w ((execOp a.eval o).run Try.prog w):=by
 obtain ⟨i,hi,hz,hsi,_⟩:=elHash.info
 have hl:=hq32_len L
 have hf:=Great.fill_whole (s:=32) (by omega) [Value.agg (hq32 L).toArray] ((Array.range (1 * 32)).map ((Value.agg zh.toArray).cells[· % (Value.agg zh.toArray).cells.size]!)) (fun u hu=>by rw [List.mem_singleton] at hu;rw [hu];simpa [Value.cells] using hl) (by simp)
 have e1:([Value.agg (hq32 L).toArray].flatMap fun v=>v.cells.toList).toArray=(hq32 L).toArray:=by simp [Value.cells]
 rw [e1] at hf
 unfold execOp
 have hr:=run_buildSlice (P:=Try.prog) w 153 69 1 (#[(0,x)].map fun (i,x)=>(i,a.eval x)) (hq32 L).toArray i _ elHash.ht hi hz (by rw [hsi];omega) (by rw [hsi];omega) (by rw [hsi,← hf];simp [hx])
 simp only [ho,Sem.run_bind,hr,Result.andThen_ok,Sem.run_pure]
 exact ⟨(Below.refl _ _).alloc (Nat.le_refl _) _,hT⟩
theorem hq_row {u:World} {g:Nat} {L:List UInt8} (h:Blk 69 u g (hq32 L)):RowOf hq32 32 u (.slice (some ⟨g,0,none⟩) 1 1) [L] :=
 Blk.row (f:=hq32) (size:=32) h [L] 1 1 hq32_len rfl (fun j x hx=>by simpa using hx) (Nat.le_refl _) (by unfold maxLen;omega)
structure SumW (ps:List (Value × List UInt8)) (w:World) (aa:Option Addr) (n ac:Nat) (K:List Value) (k:Nat) (sv:Value) (u:World):Prop where
 hz:Blk 171 u (w.heap.size+2) [sv,.slice aa n ac,.int .i64 0]
 ho:OwnOf hq32 32 69 u (w.heap.size+3) sv ((ps.take k).map fun q=>sumB q.2)
 hw:Below w.heap.size w u
 hh:Blk 69 u w.heap.size K
 h4:Blk 25 u (w.heap.size+1) (ndcells zN)
theorem SumW.kept {ps:List (Value × List UInt8)} {w:World} {aa:Option Addr} {n ac:Nat} {K:List Value} {k:Nat} {sv:Value} {u u':World} (h:SumW ps w aa n ac K k sv u) (hb:Below u.heap.size u u'):SumW ps w aa n ac K k sv u' :=
 ⟨h.hz.kept hb,h.ho.kept hb,Below.then h.hw hb,h.hh.kept hb,h.h4.kept hb⟩
theorem SumW.grew {ps:List (Value × List UInt8)} {w:World} {aa:Option Addr} {n ac:Nat} {K:List Value} {k:Nat} {sv:Value} {u u':World} (h:SumW ps w aa n ac K k sv u) {v':Value} (hk:k<ps.length) (ho:OwnOf hq32 32 69 u' (w.heap.size+3) v' (((ps.take k).map fun q=>sumB q.2)++[sumB ps[k].2])) (hg:u.grownBy u' sv.ownBlock):Blk 171 u' (w.heap.size+2) [sv,.slice aa n ac,.int .i64 0]∧SumW ps w aa n ac K (k+1) v' (u'.setCell ⟨w.heap.size+2,0,none⟩ v'):=by
 have hlt:=fun j (hj:sv.ownBlock=some j)=>h.ho.lt j hj
 have hz9:=h.hz.grown hg (fun e=>by have:=hlt _ e;omega)
 have gc:u'.grownBy (u'.setCell ⟨w.heap.size+2,0,none⟩ v') (some (w.heap.size+2)):=grown_cell 0 _
 have hlt':=fun j (hj:v'.ownBlock=some j)=>ho.lt j hj
 have hw9:=h.hw.grown hg h.hw.size (fun j hj=>by have:=hlt _ hj;omega)
 refine ⟨hz9,hz9.set 0 v',?_,below_gb hw9 gc (by omega) hw9.size,(h.hh.grown hg (fun e=>by have:=hlt _ e;omega)).grown gc (by simp),(h.h4.grown hg (fun e=>by have:=hlt _ e;omega)).grown gc (by simp)⟩
 rw [List.take_succ_eq_append_getElem hk,List.map_append]
 exact OwnOf.grown ho gc (fun j hj e=>by cases hj;have:=hlt' _ e;omega)
set_option maxHeartbeats 8000000 in
set_option maxRecDepth 100000 in
theorem hload_any (aa:Option Addr) (n ac:Nat) (ps:List (Value × List UInt8)) (hn:ps.length=n) (hs:n≤1048576) (hb:∀ q∈ps,q.2.length≤1048576) (h:List UInt8) (hl:h.length=32) (w:World) (hT:Texts w (.slice aa n ac) ps) :
  Calls Try.prog 36 #[.agg (h.map u8v).toArray,.slice aa n ac] w (LoadPost (finP (ldP (ps.map (·.2)) 65 h 0 0)) w):=by
 have HTT:∀ q∈ps,Bytes w q.1 q.2∧q.2.length≤1048576:=fun q hq=>⟨hT.2 q hq,hb q hq⟩
 have hts:∀ t∈ps.map (·.2),t.length≤1048576:=fun t ht=>by
  obtain ⟨q,hq,rfl⟩:=List.mem_map.1 ht
  exact hb q hq
 have hfine:=ldP_fine hts 65 h 0 0 (by omega)
 have cn:=fun (sa:Option Addr) (sc:Nat) (u:World) (hu:ViW ps w sa sc aa ac n (w.heap.size+3) (w.heap.size+2) 0 u)=>come_any ps w sa sc aa ac n (w.heap.size+3) (w.heap.size+2) hn hs hb 65 h 0 0 u hl (by omega) (by omega) (by omega) hu
 obtain ⟨R,hR⟩:∃ R,R=ldP (ps.map (·.2)) 65 h 0 0:=⟨_,rfl⟩
 rw [← hR] at hfine
 simp only [← hR] at cn
 rw [← hR]
 obtain ⟨K,hK⟩:∃ K,K=h.map u8v:=⟨_,rfl⟩
 have hKl:K.length=32:=by rw [hK,List.length_map];exact hl
 simp only [← hK] at cn ⊢
 have HKl:=Lib.hid hKl
 have Cn:=Lib.hid cn
 have HT:=Lib.hid hT
 have HTT2:=Lib.hid HTT
 have Hn:=Lib.hid hn
 have Hfine:=Lib.hid hfine
 obtain ⟨W1,hW1⟩:∃ W1,W1=((w.alloc (.cells K.toArray 69)).alloc (.cells #[.int .i64 0,.slice none 0 0,.slice none 0 0,.slice none 0 0] 25)).alloc (.cells #[.slice none 0 0,.slice aa n ac,.int .i64 0] 171):=⟨_,rfl⟩
 have F0:SumW ps w aa n ac K 0 (.slice none 0 0) W1:=by
  have e1:=Blk.new w 69 K
  have e2:=Blk.new (w.alloc (.cells K.toArray 69)) 25 (ndcells zN)
  have e4:=Blk.new ((w.alloc (.cells K.toArray 69)).alloc (.cells (ndcells zN).toArray 25)) 171 [.slice none 0 0,.slice aa n ac,.int .i64 0]
  have bb:=(((Below.refl w.heap.size w).alloc (Nat.le_refl _) (.cells K.toArray 69)).alloc (by simp) (.cells (ndcells zN).toArray 25)).alloc (by simp;omega) (.cells #[.slice none 0 0,.slice aa n ac,.int .i64 0] 171)
  simp only [World.size_alloc] at e2 e4
  rw [hW1]
  exact ⟨e4,OwnOf.nil _ _ _ _ _,bb,(e1.alloc _).alloc _,e2.alloc _⟩
 have HW1:=Lib.hid hW1
 clear hW1 hKl cn hT HTT hn hfine hK hb hl hts
 go_enter Try.func36,Try.ntmps36
 go_wp2_with fail
 rw [show ((w.alloc (.cells K.toArray 69)).alloc (.cells #[.int .i64 0,.slice none 0 0,.slice none 0 0,.slice none 0 0] 25)).alloc (.cells #[.slice none 0 0,.slice aa n ac,.int .i64 0] 171)=W1 from HW1.out.symm]
 clear HW1
 go_loopw [15] (fun ix wr=>∃ (k:Nat) (sa:Option Addr) (sc:Nat),k≤n∧ix=.int .i64 (k:Int)∧SumW ps w aa n ac K k (.slice sa k sc) wr) (fun ix _=>n - (intOf ix).toNat)
 case atStart=>exact ⟨0,none,0,by omega,rfl,F0⟩
 case round =>
  clear F0
  obtain ⟨k,sa,sc,hk,rfl,F⟩:=hrel
  have bwr:=F.hw
  have swr:=bwr.size
  by_cases hlt:k<n
  ·have hz:(k:Int)<(n:Int):=by omega
   have hkl:k<ps.length:=by have:=Hn.out;omega
   obtain ⟨kb,koff,hka,hc⟩:=(HT.out.1.below bwr).cells (f:=tcell) (size:=1) (fun _=>rfl) k hkl
   have hc0:wr.cell? ⟨kb,koff+k,none⟩=some ps[k].1:=by have:=hc 0 _ rfl;simpa using this
   have hq:=HTT2.out ps[k] (List.getElem_mem _)
   obtain ⟨X,hX⟩:∃ X,X=ps[k]:=⟨_,rfl⟩
   have hgrew:=fun (u u':World) (v':Value) (hu:SumW ps w aa n ac K k (.slice sa k sc) u) (ho:OwnOf hq32 32 69 u' (w.heap.size+3) v' (((ps.take k).map fun q=>sumB q.2)++[sumB X.2])) (hg:u.grownBy u' (Value.slice sa k sc).ownBlock)=>hu.grew hkl (by rw [← hX];exact ho) hg
   have htl:((ps.take k).map fun q=>sumB q.2).length=k:=by rw [List.length_map,List.length_take];omega
   rw [← hX] at hc0 hq
   clear hX hc
   obtain ⟨xv,xl⟩:=X
   obtain ⟨xa,xc,hxv,_⟩:=RowOf.form hq.1
   dsimp only at hxv hc0 hq hgrew
   subst hxv
   subst hka
   obtain ⟨xn,hxn⟩:∃ x,x=xl.length:=⟨_,rfl⟩
   rw [← hxn] at hc0 hq
   have cs:=fun (x:World) (hx:Bytes x (.slice xa xn xc) xl)=>ssum_any xa xn xc xl hxn.symm x hx (by have:=hq.2;omega)
   obtain ⟨S,hS⟩:∃ S,S=sumB xl:=⟨_,rfl⟩
   have hSl:S.length=32:=by rw [hS];exact outB_len _
   have hSq:=hq32_eq hSl
   rw [← hS] at cs hgrew
   rw [← hSq] at cs
   obtain ⟨SC,hSC⟩:∃ SC,SC=hq32 S:=⟨_,rfl⟩
   rw [← hSC] at cs
   have HSC:=Lib.hid hSC
   have Cs:=Lib.hid cs
   have Grew:=Lib.hid hgrew
   have Htl:=Lib.hid htl
   have c0:=F.hz.cell 0
   simp only [List.getElem?_cons_zero] at c0
   have g0:=fun u:Ext wr=>u.cell c0
   have Hbx:=Lib.hid (hq.1.below bwr)
   clear hS hSl hSC cs hq hxn hgrew htl hSq
   go_wp2_with fail
   refine wp_region_typed wr 5 (by kernel_rfl) (by kernel_rfl) (Below.refl _ _) ?_;simp only [List.take_succ_cons,List.take_zero,List.take_nil]
   iterate 3 (refine wpX_step (by rfl) (fun K hK=>?_);go_simp;first|(refine hK _ ?_;clear hK K)|(apply Exists.intro;refine ⟨fun _=>?_,hK _ ?_⟩;exact g0 _;clear hK K))
   refine wpX_eq (.agg SC.toArray) (fun w3 hw3=>?_) ?_
   ·change forallRel w3 [] _ _
    simp only [forallRel]
    refine ⟨rfl,?_⟩
    go_simp
    refine (Cs.out w3 (Hbx.out.below hw3)).mono ?_
    rintro e w4 ⟨rfl,b4⟩
    exact ⟨_,rfl,rfl,b4⟩
   refine wpX_rel 23 (OneHq S) rfl (of_decide_eq_true rfl) (OneHq.mono _) (fun w3 hw3=>?_) ?_
   ·change forallRel w3 [] _ _
    simp only [forallRel]
    refine ⟨rfl,?_⟩
    exact good_oneHq (o:=⟨some 23,_,_,_,_,_⟩) (.tmp 22) (by rfl) S (by rw [← HSC.out];rfl) ⟨_,rfl,Blk.new w3 _ _⟩
   refine wpX_nil ?_
   intro y hy v23 h23
   change wpList _ _ _ [_,_,_] _ _
   simp only [Act.put,List.setIfInBounds_toArray,List.set_cons_zero,List.set_cons_succ]
   obtain ⟨gb,rfl,hblk⟩:=h23
   have Fy:=F.kept hy
   have cy:=Fy.hz.cell 0
   simp only [List.getElem?_cons_zero] at cy
   go_wp2_with ((with_reducible show wpList _ _ _ (⟨some 24,_,_,_,_,_⟩::_) _ _);refine wpList_appB (o:=⟨some 24,_,_,_,_,_⟩) (by rfl) (.tmp 20) (.tmp 23) 153 (by rfl) elHash (m:=[S]) (by simp only [List.flatMap_cons,List.flatMap_nil,List.append_nil];exact hq32_one S) (by rfl) Fy.ho (by rfl) (hq_row hblk) (by have:=Fy.hz.lt;omega) (by rw [Htl.out];simp only [List.length_cons,List.length_nil];omega) (by rw [Htl.out];simp only [List.length_cons,List.length_nil];unfold maxLen;omega) ?_;intro v9 w9 o9 g9 _;obtain ⟨z9,F9⟩:=Grew.out _ _ _ Fy o9 g9;obtain ⟨a9,q9,rfl,_⟩:=o9.form' (k+1) (by rw [List.length_append,Htl.out];rfl);obtain ⟨x9,hx9⟩:=z9.has 0 (by simp);have hf9:=z9.free 0)
   go_roundw
   case rel=>exact ⟨k+1,a9,q9,by omega,by go_num,F9⟩
   case measure=>simp [intOf];omega
  ·obtain rfl:k=n:=by omega
   have hz:¬ (k:Int)<(k:Int):=by omega
   have hV:ViW ps w sa sc aa ac k (w.heap.size+3) (w.heap.size+2) 0 wr:=⟨F.hz,by have:=F.ho;rw [List.take_of_length_le (by have:=Hn.out;omega)] at this;exact this,F.hw,HT.out,by omega,by omega⟩
   have CN:Calls Try.prog 83 #[.pointer (some ⟨w.heap.size+2,0,none⟩),.agg K.toArray,.int .i64 0] wr (CmPost R ps w sa sc aa ac k (w.heap.size+3) (w.heap.size+2) wr):=Cn.out sa sc wr hV
   have CN2:=Lib.hid CN
   clear CN hV
   obtain ⟨E,P,m5⟩:=R
   by_cases hE:E=0
   ·subst hE
    obtain ⟨RB,hRB⟩:∃ RB,RB=rgt 0 (toN P):=⟨_,rfl⟩
    have HRB:=Lib.hid hRB
    have hfin:finP (0,P,m5)=if RB=true then (0,P) else (1,zP):=by unfold finP;rw [if_pos rfl,← hRB]
    have HF:=Lib.hid hfin
    clear hRB hfin
    cases RB with
    | false =>
     go_wp2_with (first
    | ((with_reducible show wpList _ _ _ (⟨some 28,_,_,_,_,_⟩::_) _ _);refine wpList_loadA (o:=⟨some 28,_,_,_,_,_⟩) (by rfl) 69 (.tmp 2) (by rfl) w.heap.size (by rfl) aggHash' F.hh (by rw [HKl.out]) ?_)
    | (go_at_call 83;(with_reducible refine CN2.out.mono ?_);rintro e w5 ⟨t,rfl,it,et,kt,lt,gt⟩;have z5:=F.h4.grown gt (by simp);have bw5:=lt.hw;have s5:=gt.size;have n5:=it.one;have t5l:=ndcells_len t)
    | ((with_reducible show wpList _ _ _ (⟨none,Op.store _ _ (Operand.tmp 30),_,_,_,_⟩::_) _ _);refine wpList_storeA (o:=⟨none,_,_,_,_,_⟩) (by rfl) 25 (.tmp 9) (.tmp 30) (by rfl) w5.heap.size (ndcells t) (by rfl) (by rfl) aggNode (Blk.new w5 25 (ndcells zN)) t5l (by rfl) n5 ((Below.refl w5.heap.size w5).alloc (Nat.le_refl _) _) (Nat.le_refl _) ?_;intro w8 h8 bA _;have z8:=z5.kept bA;have bw8:=Below.then bw5 bA;have s8:=bA.size;have hrt:grightP t=false:=(by rw [gright_rgt,HRB.out,← et (by first|rfl|trivial),rgt_to]);have h1:=Hfine.out;have h2:=h1.2.2 (by first|rfl|trivial);have h3:=h1.2.1;(try dsimp only at h2 h3);have hbk:bulkN t≤99999999999:=(by rw [← bulkQ_er,et (by first|rfl|trivial)];have:=h2.1;omega);have hct:∀ l,rts t=some l→l.length≤1048576:=(fun l hl=>by have h4:=rts_cnt hl;rw [et (by first|rfl|trivial)] at h4;have:=h2.2;(try dsimp only at h4);omega);have CR:=gright_big t _ (it.kept bA) hbk hct;rw [hrt] at CR)
    | ((with_reducible show wpList _ _ _ (⟨some 36,_,_,_,_,_⟩::_) _ _);refine wpList_loadA (o:=⟨some 36,_,_,_,_,_⟩) (by rfl) 25 (.tmp 9) (by rfl) w5.heap.size (by rfl) aggNode h8 t5l ?_)
    | (go_at_call 51;(with_reducible refine CR.mono ?_);rintro e w6 ⟨rfl,b6⟩;have z6:=z8.kept b6;have bw6:=Below.then bw8 b6;have s6:=b6.size)
    | ((with_reducible show wpList _ _ _ (⟨none,Op.store _ _ (Operand.tmp 39),_,_,_,_⟩::_) _ _);refine wpList_storeA (o:=⟨none,_,_,_,_,_⟩) (by rfl) 25 (.tmp 4) (.tmp 39) (by rfl) (w.heap.size+1) (ndcells zN) (by rfl) (by rfl) aggNode z6 (by rfl) (by rfl) (by intro u hu;simp [ndcells,zN] at hu;rcases hu with rfl|rfl <;> rfl) bw6 (by omega) ?_;intro w7 h7 b7 g7))
     exact bodyPost_ret (v:=.tuple #[.agg (ndcells zN).toArray,.int .i64 1]) (results_blk_tmp rfl _ _ (w.heap.size+1) aggNode h7 (by rfl) rfl rfl) rfl ⟨zN,by rw [HF.out] <;> rfl,IsNd.zeroN _,by rw [HF.out] <;> rfl,b7⟩
    | true =>
     go_wp2_with (first
    | ((with_reducible show wpList _ _ _ (⟨some 28,_,_,_,_,_⟩::_) _ _);refine wpList_loadA (o:=⟨some 28,_,_,_,_,_⟩) (by rfl) 69 (.tmp 2) (by rfl) w.heap.size (by rfl) aggHash' F.hh (by rw [HKl.out]) ?_)
    | (go_at_call 83;(with_reducible refine CN2.out.mono ?_);rintro e w5 ⟨t,rfl,it,et,kt,lt,gt⟩;have z5:=F.h4.grown gt (by simp);have bw5:=lt.hw;have s5:=gt.size;have n5:=it.one;have t5l:=ndcells_len t)
    | ((with_reducible show wpList _ _ _ (⟨none,Op.store _ _ (Operand.tmp 30),_,_,_,_⟩::_) _ _);refine wpList_storeA (o:=⟨none,_,_,_,_,_⟩) (by rfl) 25 (.tmp 9) (.tmp 30) (by rfl) w5.heap.size (ndcells t) (by rfl) (by rfl) aggNode (Blk.new w5 25 (ndcells zN)) t5l (by rfl) n5 ((Below.refl w5.heap.size w5).alloc (Nat.le_refl _) _) (Nat.le_refl _) ?_;intro w8 h8 bA _;have z8:=z5.kept bA;have bw8:=Below.then bw5 bA;have s8:=bA.size;have hrt:grightP t=true:=(by rw [gright_rgt,HRB.out,← et (by first|rfl|trivial),rgt_to]);have h1:=Hfine.out;have h2:=h1.2.2 (by first|rfl|trivial);have h3:=h1.2.1;(try dsimp only at h2 h3);have hbk:bulkN t≤99999999999:=(by rw [← bulkQ_er,et (by first|rfl|trivial)];have:=h2.1;omega);have hct:∀ l,rts t=some l→l.length≤1048576:=(fun l hl=>by have h4:=rts_cnt hl;rw [et (by first|rfl|trivial)] at h4;have:=h2.2;(try dsimp only at h4);omega);have CR:=gright_big t _ (it.kept bA) hbk hct;rw [hrt] at CR)
    | ((with_reducible show wpList _ _ _ (⟨some 36,_,_,_,_,_⟩::_) _ _);refine wpList_loadA (o:=⟨some 36,_,_,_,_,_⟩) (by rfl) 25 (.tmp 9) (by rfl) w5.heap.size (by rfl) aggNode h8 t5l ?_)
    | (go_at_call 51;(with_reducible refine CR.mono ?_);rintro e w6 ⟨rfl,b6⟩;have z6:=z8.kept b6;have bw6:=Below.then bw8 b6;have s6:=b6.size;have x6:=h8.kept b6;have it6:=(it.kept bA).kept b6)
    | ((with_reducible show wpList _ _ _ (⟨some 40,_,_,_,_,_⟩::_) _ _);refine wpList_loadA (o:=⟨some 40,_,_,_,_,_⟩) (by rfl) 25 (.tmp 9) (by rfl) w5.heap.size (by rfl) aggNode x6 t5l ?_)
    | ((with_reducible show wpList _ _ _ (⟨none,Op.store _ _ (Operand.tmp 40),_,_,_,_⟩::_) _ _);refine wpList_storeA (o:=⟨none,_,_,_,_,_⟩) (by rfl) 25 (.tmp 4) (.tmp 40) (by rfl) (w.heap.size+1) (ndcells t) (by rfl) (by rfl) aggNode z6 t5l (by rfl) n5 bw6 (by omega) ?_;intro w7 h7 b7 g7))
     exact bodyPost_ret (v:=.tuple #[.agg (ndcells t).toArray,.int .i64 0]) (results_blk_tmp rfl _ _ (w.heap.size+1) aggNode h7 t5l rfl rfl) rfl ⟨t,by rw [HF.out];rfl,it6.offK (row:=some (w.heap.size+1)) (kt.mono (fun k hk=>⟨fun e=>by cases e;have:=F.h4.lt;omega,by have h1:=bA.size;have h2:=hk.2;omega⟩)) g7 (z6.cells8 (no8_nd 0 none none none 0 0 0 0 0 0)),by rw [HF.out];exact et (by first|rfl|trivial),b7⟩
   ·have hfin:finP (E,P,m5)=(E,zP):=by unfold finP;rw [if_neg hE]
    have HF:=Lib.hid hfin
    clear hfin
    go_wp2_with (first
    | ((with_reducible show wpList _ _ _ (⟨some 28,_,_,_,_,_⟩::_) _ _);refine wpList_loadA (o:=⟨some 28,_,_,_,_,_⟩) (by rfl) 69 (.tmp 2) (by rfl) w.heap.size (by rfl) aggHash' F.hh (by rw [HKl.out]) ?_)
    | (go_at_call 83;(with_reducible refine CN2.out.mono ?_);rintro e w5 ⟨t,rfl,it,et,kt,lt,gt⟩;have z5:=F.h4.grown gt (by simp);have bw5:=lt.hw;have s5:=gt.size;have n5:=it.one;have t5l:=ndcells_len t)
    | ((with_reducible show wpList _ _ _ (⟨none,Op.store _ _ (Operand.tmp 30),_,_,_,_⟩::_) _ _);refine wpList_storeA (o:=⟨none,_,_,_,_,_⟩) (by rfl) 25 (.tmp 9) (.tmp 30) (by rfl) w5.heap.size (ndcells t) (by rfl) (by rfl) aggNode (Blk.new w5 25 (ndcells zN)) t5l (by rfl) n5 ((Below.refl w5.heap.size w5).alloc (Nat.le_refl _) _) (Nat.le_refl _) ?_;intro w8 h8 bA _;have z8:=z5.kept bA;have bw8:=Below.then bw5 bA;have s8:=bA.size)
    | ((with_reducible show wpList _ _ _ (⟨none,Op.store _ _ (Operand.tmp 34),_,_,_,_⟩::_) _ _);refine wpList_storeA (o:=⟨none,_,_,_,_,_⟩) (by rfl) 25 (.tmp 4) (.tmp 34) (by rfl) (w.heap.size+1) (ndcells zN) (by rfl) (by rfl) aggNode z8 (by rfl) (by rfl) (by intro u hu;simp [ndcells,zN] at hu;rcases hu with rfl|rfl <;> rfl) bw8 (by omega) ?_;intro w7 h7 b7 g7))
    exact bodyPost_ret (v:=.tuple #[.agg (ndcells zN).toArray,.int .i64 E]) (results_blk_tmp rfl _ _ (w.heap.size+1) aggNode h7 (by rfl) rfl rfl) rfl ⟨zN,by rw [HF.out] <;> rfl,IsNd.zeroN _,by rw [HF.out] <;> rfl,b7⟩
end Go.Proofs.Ytakhaanenlblmaa
