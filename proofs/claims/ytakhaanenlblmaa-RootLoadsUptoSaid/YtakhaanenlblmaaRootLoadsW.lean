/- The walk of the law RootLoads. -/
import Derived.Test.YtakhaanenlblmaaLd18
import Derived.Test.YtakhaanenlblmaaOpenA
set_option linter.unusedSimpArgs false
set_option linter.unusedVariables false
namespace Go.Proofs.Ytakhaanenlblmaa
open Go.RowKit
theorem fin_bulk {ts:List (List UInt8)} (hb:∀ t∈ts,t.length≤1048576) (h:List UInt8):bulkQ (finP (ldP ts 65 h 0 0)).2≤99999999999:=by
 obtain ⟨_,h2,h3⟩:=ldP_fine hb 65 h 0 0 (by omega)
 unfold finP
 split
 ·rename_i h0
  have:=(h3 h0).1
  split
  ·dsimp only;omega
  ·show bulkQ zP≤99999999999
   decide
 ·show bulkQ zP≤99999999999
  decide
set_option maxHeartbeats 2000000 in
set_option maxRecDepth 100000 in
theorem rootLoads_walk0 (aa:Option Addr) (n ac:Nat) (ps:List (Value × List UInt8)) (hn:ps.length=n) (hs:n≤1048576) (hb:∀ q∈ps,q.2.length≤1048576) (h:List UInt8) (hl:h.length=32) (w:World) (hT:Texts w (.slice aa n ac) ps) :
  Calls Try.prog 8 #[.agg (h.map u8v).toArray,.slice aa n ac] w fun e w'=>e=.returned (.bool true)∧Below w.heap.size w w':=by
 have hts:∀ t∈ps.map (·.2),t.length≤1048576:=fun t ht=>by
  obtain ⟨q,hq,rfl⟩:=List.mem_map.1 ht
  exact hb q hq
 have hbk:=fin_bulk hts h
 have c1:=fun u (hu:Below w.heap.size w u)=>load_any aa n ac ps hn hs hb h hl u ⟨hT.1.below hu,fun q hq=>(hT.2 q hq).below hu⟩
 have c2:=fun u (hu:Below w.heap.size w u)=>hload_any aa n ac ps hn hs hb h hl u ⟨hT.1.below hu,fun q hq=>(hT.2 q hq).below hu⟩
 obtain ⟨L,hL⟩:∃ L,L=finP (ldP (ps.map (·.2)) 65 h 0 0):=⟨_,rfl⟩
 obtain ⟨K,hK⟩:∃ K,K=h.map u8v:=⟨_,rfl⟩
 have hKl:K.length=32:=by rw [hK,List.length_map];exact hl
 simp only [← hK,← hL] at c1 c2 hbk ⊢
 have cs:=fun (t s:Nd) (u:World) (ht:IsNd u t) (hs:IsNd u s) (et:erN t=L.2) (es:erN s=L.2)=>Calls.mono (same_any 100000000000 (Nat.le_refl _) (SizeOf.sizeOf t) t (Nat.le_refl _) s u ht hs (by rw [← bulkQ_er,et];omega)) (R':=fun e w'=>e=.returned (.bool true)∧Below u.heap.size u w') (fun e w' h=>by rw [es,← et,same_er] at h;exact h)
 have HKl:=Lib.hid hKl
 have C1:=Lib.hid c1
 have C2:=Lib.hid c2
 have Cs:=Lib.hid cs
 have hbe:∀ x:Int,(x == x)=true:=fun x=>beq_self_eq_true x
 have hh:=Blk.new w 69 K
 have hbel:Below w.heap.size w (w.alloc (.cells K.toArray 69)):=(Below.refl _ _).alloc (Nat.le_refl _) _
 clear c1 c2 cs hK hL hbk hts hb hl hKl hT hn
 obtain ⟨E,P⟩:=L
 go_enter Try.func8,Try.ntmps8
 go_wp2_with (first
  | ((with_reducible show wpList _ _ _ (⟨some 10,_,_,_,_,_⟩::_) _ _);refine wpList_loadA (o:=⟨some 10,_,_,_,_,_⟩) (by rfl) 69 (.tmp 2) (by rfl) w.heap.size (by rfl) aggHash' hh HKl.out ?_)
  | (go_at_call 35;(with_reducible refine (C1.out _ hbel).mono ?_);rintro e w2 ⟨t,rfl,it,et,b2⟩;have bb2:=Below.then hbel b2;have hh2:=hh.kept b2;have n2:=it.one;have tl:=ndcells_len t)
  | ((with_reducible show wpList _ _ _ (⟨none,Op.store _ _ (Operand.tmp 13),_,_,_,_⟩::_) _ _);refine wpList_storeA (o:=⟨none,_,_,_,_,_⟩) (by rfl) 25 (.tmp 5) (.tmp 13) (by rfl) w2.heap.size (ndcells t) (by rfl) (by rfl) aggNode (Blk.new w2 25 (ndcells zN)) tl (by rfl) n2 ((Below.refl w2.heap.size w2).alloc (Nat.le_refl _) _) (Nat.le_refl _) ?_;intro w3 h3 b3 _;have bb3:=Below.then bb2 b3;have hh3:=hh2.kept b3;have it3:=it.kept b3)
  | ((with_reducible show wpList _ _ _ (⟨some 16,_,_,_,_,_⟩::_) _ _);refine wpList_loadA (o:=⟨some 16,_,_,_,_,_⟩) (by rfl) 69 (.tmp 2) (by rfl) w.heap.size (by rfl) aggHash' hh3 HKl.out ?_)
  | (go_at_call 36;(with_reducible refine (C2.out _ bb3).mono ?_);rintro e w4 ⟨s,rfl,is,es,b4⟩;have bb4:=Below.then bb3 b4;have n4:=is.one;have sl:=ndcells_len s;have it4:=it3.kept b4;have h4:=h3.kept b4)
  | ((with_reducible show wpList _ _ _ (⟨none,Op.store _ _ (Operand.tmp 19),_,_,_,_⟩::_) _ _);refine wpList_storeA (o:=⟨none,_,_,_,_,_⟩) (by rfl) 25 (.tmp 7) (.tmp 19) (by rfl) w4.heap.size (ndcells s) (by rfl) (by rfl) aggNode (Blk.new w4 25 (ndcells zN)) sl (by rfl) n4 ((Below.refl w4.heap.size w4).alloc (Nat.le_refl _) _) (Nat.le_refl _) ?_;intro w5 h5 b5 _;have bb5:=Below.then bb4 b5;have it5:=it4.kept b5;have is5:=is.kept b5;have r4:=(h4.kept b5).all0;have r5:=h5.all0;have CS:=Cs.out t s w5 it5 is5 et es)
  | ((with_reducible show wpList _ _ _ (⟨some 25,_,_,_,_,_⟩::_) _ _);refine wpList_loadW (o:=⟨some 25,_,_,_,_,_⟩) 25 (.tmp 5) (by rfl) w2.heap.size 0 (by rfl) aggNode tl r4 (by rfl) ?_)
  | ((with_reducible show wpList _ _ _ (⟨some 26,_,_,_,_,_⟩::_) _ _);refine wpList_loadW (o:=⟨some 26,_,_,_,_,_⟩) 25 (.tmp 7) (by rfl) w4.heap.size 0 (by rfl) aggNode sl r5 (by rfl) ?_)
  | (go_at_call 37;(with_reducible refine CS.mono ?_);rintro e w6 ⟨rfl,b6⟩;have bb6:=Below.then bb5 b6))
 go_ret
 exact ⟨rfl,bb6⟩
theorem upto_each3 {H:Type} {d:DataW H} {ps:List (Value × List UInt8)} (h:SzT d ps):∀ q∈ps,q.2.length≤Rows.uptoBulk d:=by
 intro q hq
 have h1:=(upto_texts h).2
 rw [List.length_flatMap] at h1
 have:∀ (l:List (Value × List UInt8)),q∈l→q.2.length≤(l.map fun p=>p.2.length).sum:=by
  intro l
  induction l with
  | nil=>intro h;simp at h
  | cons p l ih =>
   intro h
   simp only [List.map_cons,List.sum_cons]
   rcases List.mem_cons.1 h with rfl|h
   ·omega
   ·have:=ih h;omega
 exact Nat.le_trans (this ps hq) h1
theorem bytes_ints3 (xs:List Int) (hw:∀ x∈xs,(Lit.int .u8 x).wf=true):∃ F:List UInt8,F.length=xs.length∧xs.map (Value.int .u8)=F.map u8v:=by
 refine ⟨xs.map fun x=>UInt8.ofNat x.toNat,by simp,?_⟩
 rw [List.map_map]
 exact List.map_congr_left fun x hx=>u8v_of x (wf_u8_lt (hw x hx))
theorem rootLoads_walk (hs:List Int) (hl:hs.length=32) (hw:∀ x∈hs,(Lit.int .u8 x).wf=true) (ca:Option Addr) (cc:Nat) (ps:List (Value × List UInt8)) (w:World) (hc:Texts w (.slice ca ps.length cc) ps) (hN:ps.length≤1048576) (hNs:∀ q∈ps,q.2.length≤1048576) :
  Calls Try.prog 8 #[.agg (hs.map (Value.int .u8)).toArray,.slice ca ps.length cc] w fun e w'=>e=.returned (.bool true)∧Below w.heap.size w w':=by
 obtain ⟨H,hH,hHe⟩:=bytes_ints3 hs hw
 rw [hl] at hH
 rw [hHe]
 exact rootLoads_walk0 ca ps.length cc ps rfl hN hNs H hH w hc
end Go.Proofs.Ytakhaanenlblmaa
