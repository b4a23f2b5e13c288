/- root.Load. -/
import Derived.Test.YtakhaanenlblmaaLdC
set_option linter.unusedSimpArgs false
set_option linter.unusedVariables false
namespace Go.Proofs.Ytakhaanenlblmaa
open Go.RowKit
mutual
def toN:Pn→Nd
 | .mk kd p v ks=>.mk kd (.slice none 0 0) p (.slice none 0 0) v (.slice none 0 0) (toNL ks)
def toNL:List Pn→List Nd
 | []=>[]
 | k::ks=>toN k::toNL ks
end
def finP (r:Ldr):Int × Pn:=if r.1=0 then (if rgt 0 (toN r.2.1)=true then (0,r.2.1) else (1,zP)) else (r.1,zP)
theorem toNL_len:∀ ks:List Nd,(toNL (erNL ks)).length=ks.length
 | []=>rfl
 | k::ks=>by simp only [erNL,toNL,List.length_cons,toNL_len ks]
theorem toNL_kd:∀ ks:List Nd,((toNL (erNL ks))[0]?.map Nd.kd)=(ks[0]?.map Nd.kd)
 | []=>rfl
 | .mk _ _ _ _ _ _ _::ks=>rfl
theorem toNL_many:∀ ks:List Nd,manyP (toNL (erNL ks))=manyP ks
 | []=>rfl
 | .mk _ _ _ _ _ _ _::ks=>by simp only [erNL,erN,toNL,toN,manyP,toNL_many ks];rfl
mutual
theorem rgt_to:∀ (t:Nd) (d:Nat),rgt d (toN (erN t))=rgt d t
 | .mk kd pv p vv v kv ks,d=>by
  have h1:=rgt_toL ks
  simp only [erN,toN,rgt,toNL_len,toNL_kd,toNL_many,h1]
theorem rgt_toL:∀ (ks:List Nd) (d:Nat),rgtL d (toNL (erNL ks))=rgtL d ks
 | [],d=>rfl
 | k::ks,d=>by simp only [erNL,toNL,rgtL,rgt_to k,rgt_toL ks]
end
def LoadPost (L:Int × Pn) (w:World) (e:Ending) (w':World):Prop:=∃ t,e=.returned (.tuple #[.agg (ndcells t).toArray,.int .i64 L.1])∧IsNd w' t∧erN t=L.2∧Below w.heap.size w w'
theorem KH.mono {w:World} {b n n':Nat} {ps:List (Value × List UInt8)} (h:KH w b n ps) (hn:n≤n'):KH w b n' ps:=by
 obtain ⟨D,h1,h2⟩:=h
 exact ⟨D,h1.mono hn,h2⟩
theorem LdW.old {ps:List (Value × List UInt8)} {W0 u:World} {g b N m:Nat} (h:LdW ps W0 g b N m u) {q:Value × List UInt8} (hq:(firstQ ps (sumB q.2)).isSome=true):LdW (ps++[q]) W0 g b (N+1) m u:=by
 refine ⟨h.hz,?_,h.hw,h.hg,h.hne⟩
 obtain ⟨D,h1,h2⟩:=h.hk
 exact KH.mono ⟨D,h1,h2.old (by rw [(h2.look _).1];exact hq)⟩ (Nat.le_succ _)
theorem LdW.new {ps:List (Value × List UInt8)} {W0 u u':World} {g b N m:Nat} (h:LdW ps W0 g b N m u) {q:Value × List UInt8} (hq:(firstQ ps (sumB q.2)).isSome=false) {D:DV} (hD:u.ownsMap Try.prog 69 heldR b N D) (hS:SaysH D ps) (hD':u'.ownsMap Try.prog 69 heldR b (N+1) (D.put (.string (sumB q.2)) (.held q.1))) (hg:u.grownBy u' (some b)) (hbW:W0.heap.size≤b):LdW (ps++[q]) W0 g b (N+1) m u' :=
 ⟨h.hz.grown hg (by simpa using h.hne),⟨_,hD',hS.new hD.isMap (by rw [(hS.look _).1];exact hq)⟩,below_gb h.hw hg hbW h.hw.size,h.hg,h.hne⟩
set_option maxHeartbeats 8000000 in
set_option maxRecDepth 100000 in
theorem load_any (a:Option Addr) (n c:Nat) (ps:List (Value × List UInt8)) (hn:ps.length=n) (hs:n≤1048576) (hb:∀ q∈ps,q.2.length≤1048576) (h:List UInt8) (hl:h.length=32) (w:World) (hT:Texts w (.slice a n c) ps) :
  Calls Try.prog 35 #[.agg (h.map u8v).toArray,.slice a n c] w (LoadPost (finP (ldP (ps.map (·.2)) 65 h 0 0)) w):=by
 have HTT:∀ q∈ps,Bytes w q.1 q.2∧q.2.length≤1048576:=fun q hq=>⟨hT.2 q hq,hb q hq⟩
 have hts:∀ t∈ps.map (·.2),t.length≤1048576:=fun t ht=>by
  obtain ⟨q,hq,rfl⟩:=List.mem_map.1 ht
  exact hb q hq
 have hfine:=ldP_fine hts 65 h 0 0 (by omega)
 have cn:=fun (u:World) (N:Nat) (hu:LdW ps w (w.heap.size+3) (w.heap.size+2) N 0 u)=>node_any ps w HTT (w.heap.size+3) (w.heap.size+2) N 65 h 0 0 u hl (by omega) (by omega) (by omega) hu
 obtain ⟨R,hR⟩:∃ R,R=ldP (ps.map (·.2)) 65 h 0 0:=⟨_,rfl⟩
 rw [← hR] at hfine
 simp only [← hR] at cn
 rw [← hR]
 obtain ⟨K,hK⟩:∃ K,K=h.map u8v:=⟨_,rfl⟩
 have hKl:K.length=32:=by rw [hK,List.length_map];exact hl
 simp only [← hK] at cn ⊢
 have HKl:=Lib.hid hKl
 have Cn:=Lib.hid cn
 have HT:=Lib.hid hT
 have HTT2:=Lib.hid HTT
 have Hn:=Lib.hid hn
 have Hfine:=Lib.hid hfine
 obtain ⟨W1,hW1⟩:∃ W1,W1=(((w.alloc (.cells K.toArray 69)).alloc (.cells #[.int .i64 0,.slice none 0 0,.slice none 0 0,.slice none 0 0] 25)).alloc (.map #[] 0)).alloc (.cells #[.map (some (w.heap.size+2)),.int .i64 0] 166):=⟨_,rfl⟩
 have F0:LdW [] w (w.heap.size+3) (w.heap.size+2) 0 0 W1∧Blk 69 W1 w.heap.size K∧Blk 25 W1 (w.heap.size+1) (ndcells zN):=by
  have e1:=Blk.new w 69 K
  have e2:=Blk.new (w.alloc (.cells K.toArray 69)) 25 (ndcells zN)
  have e3:=KH.made ((w.alloc (.cells K.toArray 69)).alloc (.cells (ndcells zN).toArray 25))
  have e4:=Blk.new (((w.alloc (.cells K.toArray 69)).alloc (.cells (ndcells zN).toArray 25)).alloc (.map #[] 0)) 166 (ldC (w.heap.size+2) 0)
  have bb:=((((Below.refl w.heap.size w).alloc (Nat.le_refl _) (.cells K.toArray 69)).alloc (by simp) (.cells (ndcells zN).toArray 25)).alloc (by simp;omega) (.map #[] 0)).alloc (by simp;omega) (.cells (ldC (w.heap.size+2) 0).toArray 166)
  simp only [World.size_alloc] at e2 e3 e4
  rw [hW1]
  exact ⟨⟨e4,e3.kept ((Below.refl _ _).alloc (Nat.le_refl _) _),bb,by omega,by omega⟩,((e1.alloc _).alloc _).alloc _,(e2.alloc _).alloc _⟩
 have HW1:=Lib.hid hW1
 have hmm:=@run_makeMap Try.prog
 clear hW1 hKl cn hT HTT hn hfine hK hb hl hts
 go_enter Try.func35,Try.ntmps35
 go_wp2_with fail
 rw [show (((w.alloc (.cells K.toArray 69)).alloc (.cells #[.int .i64 0,.slice none 0 0,.slice none 0 0,.slice none 0 0] 25)).alloc (.map #[] 0)).alloc (.cells #[.map (some (w.heap.size+2)),.int .i64 0] 166)=W1 from HW1.out.symm]
 clear hmm HW1
 go_loopw [18] (fun ix wr=>∃ k:Nat,k≤n∧ix=.int .i64 (k:Int)∧LdW (ps.take k) w (w.heap.size+3) (w.heap.size+2) k 0 wr∧Blk 69 wr w.heap.size K∧Blk 25 wr (w.heap.size+1) (ndcells zN)) (fun ix _=>n - (intOf ix).toNat)
 case atStart=>exact ⟨0,by omega,rfl,by simpa using F0.1,F0.2.1,F0.2.2⟩
 case round =>
  clear F0
  obtain ⟨k,hk,rfl,F,hh,hz4⟩:=hrel
  have bwr:=F.hw
  have swr:=bwr.size
  by_cases hlt:k<n
  ·have hz:(k:Int)<(n:Int):=by omega
   have hkl:k<ps.length:=by have:=Hn.out;omega
   obtain ⟨kb,koff,hka,hc⟩:=(HT.out.1.below bwr).cells (f:=tcell) (size:=1) (fun _=>rfl) k hkl
   have hc0:wr.cell? ⟨kb,koff+k,none⟩=some ps[k].1:=by have:=hc 0 _ rfl;simpa using this
   have hq:=HTT2.out ps[k] (List.getElem_mem _)
   have htk:ps.take (k+1)=ps.take k++[ps[k]]:=List.take_succ_eq_append_getElem hkl
   obtain ⟨X,hX⟩:∃ X,X=ps[k]:=⟨_,rfl⟩
   rw [← hX] at hc0 hq htk
   clear hX hc
   obtain ⟨xv,xl⟩:=X
   obtain ⟨xa,xc,hxv,_⟩:=RowOf.form hq.1
   dsimp only at hxv hc0 hq
   subst hxv
   subst hka
   obtain ⟨xn,hxn⟩:∃ x,x=xl.length:=⟨_,rfl⟩
   rw [← hxn] at hc0 hq htk
   have cs:=fun (x:World) (hx:Bytes x (.slice xa xn xc) xl)=>sum_any xa xn xc xl hxn.symm x hx
   have hbx:=hq.1.below bwr
   obtain ⟨S,hS⟩:∃ S,S=sumB xl:=⟨_,rfl⟩
   have hSl:S.length=32:=by rw [hS];exact outB_len _
   have hkey:=keyHash S hSl
   rw [← hS] at cs
   obtain ⟨SC,hSC⟩:∃ SC,SC=S.map u8v:=⟨_,rfl⟩
   have hSCl:SC.length=32:=by rw [hSC,List.length_map];exact hSl
   have HSC1:Hid (∀ u∈SC,u.oneCell'=true):=Lib.hid (by rw [hSC];intro u hu;obtain ⟨y,_,rfl⟩:=List.mem_map.1 hu;rfl)
   have look:=fun (u:World) (hu:LdW (ps.take k) w (w.heap.size+3) (w.heap.size+2) k 0 u)=>hu.hk.look S hSl
   simp only [← hSC] at cs hkey look
   obtain ⟨V,hV⟩:∃ V,V=lookV (ps.take k) S:=⟨_,rfl⟩
   obtain ⟨FF,hFF⟩:∃ FF,FF=(firstQ (ps.take k) S).isSome:=⟨_,rfl⟩
   simp only [← hV,← hFF] at look
   have Htk:=Lib.hid htk
   have Look:=Lib.hid look
   have HS:=Lib.hid hS
   have HSl:=Lib.hid hSl
   have HSCl:=Lib.hid hSCl
   have HFF:=Lib.hid hFF
   have Cs:=Lib.hid (cs wr hbx)
   clear htk look hS hSl hSC hSCl hV hFF cs hq hxn
   cases FF with
   | true =>
    go_wp2_with (first
     | (go_at_call 80;(with_reducible refine Cs.out.mono ?_);rintro e w5 ⟨rfl,b5⟩)
     | ((with_reducible show wpList _ _ _ (⟨none,Op.store _ _ (Operand.tmp 23),_,_,_,_⟩::_) _ _);refine wpList_storeA (o:=⟨none,_,_,_,_,_⟩) (by rfl) 69 (.tmp 9) (.tmp 23) (by rfl) w5.heap.size SC (by rfl) (by rfl) aggHash' (Blk.new w5 69 zh) HSCl.out (by rfl) HSC1.out ((Below.refl w5.heap.size w5).alloc (Nat.le_refl _) _) (Nat.le_refl _) ?_;intro w6 h6 b6 _;have bA:=Below.then b5 b6;have F5:=F.kept bA;have hh5:=hh.kept bA;have hz5:=hz4.kept bA;have look5:=Look.out _ F5;have c5:=F5.hz.cell 0;simp only [ldC,List.getElem?_cons_zero] at c5)
     | ((with_reducible show wpList _ _ _ (⟨some 27,_,_,_,_,_⟩::_) _ _);refine wpList_loadA (o:=⟨some 27,_,_,_,_,_⟩) (by rfl) 69 (.tmp 9) (by rfl) w5.heap.size (by rfl) aggHash' h6 HSCl.out ?_))
    go_roundw
    case rel=>exact ⟨k+1,by omega,by go_num,by rw [Htk.out];exact F5.old (by dsimp only;rw [← HS.out];exact HFF.out.symm),hh5,hz5⟩
    case measure=>simp [intOf];omega
   | false =>
    go_wp2_with (first
     | (go_at_call 80;(with_reducible refine Cs.out.mono ?_);rintro e w5 ⟨rfl,b5⟩)
     | ((with_reducible show wpList _ _ _ (⟨none,Op.store _ _ (Operand.tmp 23),_,_,_,_⟩::_) _ _);refine wpList_storeA (o:=⟨none,_,_,_,_,_⟩) (by rfl) 69 (.tmp 9) (.tmp 23) (by rfl) w5.heap.size SC (by rfl) (by rfl) aggHash' (Blk.new w5 69 zh) HSCl.out (by rfl) HSC1.out ((Below.refl w5.heap.size w5).alloc (Nat.le_refl _) _) (Nat.le_refl _) ?_;intro w6 h6 b6 _;have bA:=Below.then b5 b6;have F5:=F.kept bA;have hh5:=hh.kept bA;have hz5:=hz4.kept bA;have look5:=Look.out _ F5;have c5:=F5.hz.cell 0;simp only [ldC,List.getElem?_cons_zero] at c5;obtain ⟨D,hD,hSy⟩:=F5.hk)
     | ((with_reducible show wpList _ _ _ (⟨some 27,_,_,_,_,_⟩::_) _ _);refine wpList_loadA (o:=⟨some 27,_,_,_,_,_⟩) (by rfl) 69 (.tmp 9) (by rfl) w5.heap.size (by rfl) aggHash' h6 HSCl.out ?_)
     | ((with_reducible show wpList _ _ _ (⟨some 35,_,_,_,_,_⟩::_) _ _);refine wpList_loadA (o:=⟨some 35,_,_,_,_,_⟩) (by rfl) 69 (.tmp 9) (by rfl) w5.heap.size (by rfl) aggHash' h6 HSCl.out ?_)
     | (at_mapUpdate;refine wpList_mapUpdate_own _ rfl _ _ _ 164 rfl 69 22 lawHash Try.underlying164 heldR (w.heap.size+2) k D rfl hD (by unfold maxLen;omega) _ _ (.string S) rfl rfl hkey (.held (.slice xa xn xc)) [] rfl ?_;intro w9 hD9 g9))
    go_roundw
    case rel=>exact ⟨k+1,by omega,by go_num,by rw [Htk.out];exact F5.new (q:=(.slice xa xn xc,xl)) (by dsimp only;rw [← HS.out];exact HFF.out.symm) hD hSy (by dsimp only;rw [← HS.out];exact hD9) g9 (by omega),hh5.grown g9 (by simp),hz5.grown g9 (by simp)⟩
    case measure=>simp [intOf];omega
  ·obtain rfl:k=n:=by omega
   have hz:¬ (k:Int)<(k:Int):=by omega
   rw [List.take_of_length_le (by have:=Hn.out;omega)] at F
   have CN:Calls Try.prog 81 #[.pointer (some ⟨w.heap.size+3,0,none⟩),.agg K.toArray,.int .i64 0] wr (NdPost R ps w (w.heap.size+3) (w.heap.size+2) k wr):=Cn.out wr k F
   have CN2:=Lib.hid CN
   clear CN
   obtain ⟨E,P,m5⟩:=R
   by_cases hE:E=0
   ·subst hE
    obtain ⟨RB,hRB⟩:∃ RB,RB=rgt 0 (toN P):=⟨_,rfl⟩
    have HRB:=Lib.hid hRB
    have hfin:finP (0,P,m5)=if RB=true then (0,P) else (1,zP):=by unfold finP;rw [if_pos rfl,← hRB]
    have HF:=Lib.hid hfin
    clear hRB hfin
    cases RB with
    | false =>
     go_wp2_with (first
    | ((with_reducible show wpList _ _ _ (⟨some 39,_,_,_,_,_⟩::_) _ _);refine wpList_loadA (o:=⟨some 39,_,_,_,_,_⟩) (by rfl) 69 (.tmp 2) (by rfl) w.heap.size (by rfl) aggHash' hh (by rw [HKl.out]) ?_)
    | (go_at_call 81;(with_reducible refine CN2.out.mono ?_);rintro e w5 ⟨t,rfl,it,et,kt,lt,gt⟩;have z5:=hz4.grown gt (by simp);have bw5:=lt.hw;have s5:=gt.size;have n5:=it.one;have t5l:=ndcells_len t)
    | ((with_reducible show wpList _ _ _ (⟨none,Op.store _ _ (Operand.tmp 41),_,_,_,_⟩::_) _ _);refine wpList_storeA (o:=⟨none,_,_,_,_,_⟩) (by rfl) 25 (.tmp 12) (.tmp 41) (by rfl) w5.heap.size (ndcells t) (by rfl) (by rfl) aggNode (Blk.new w5 25 (ndcells zN)) t5l (by rfl) n5 ((Below.refl w5.heap.size w5).alloc (Nat.le_refl _) _) (Nat.le_refl _) ?_;intro w8 h8 bA _;have z8:=z5.kept bA;have bw8:=Below.then bw5 bA;have s8:=bA.size;have hrt:rgt 0 t=false:=(by rw [HRB.out,← et (by first|rfl|trivial),rgt_to]);have hbk:bulkN t≤100000000000:=(by have h1:=Hfine.out;rw [← bulkQ_er,et (by first|rfl|trivial)];have h2:=(h1.2.2 (by first|rfl|trivial)).1;have h3:=h1.2.1;(try dsimp only at h2 h3);omega);have CR:=tree_right_any t _ (it.kept bA) hbk;rw [hrt] at CR)
    | ((with_reducible show wpList _ _ _ (⟨some 49,_,_,_,_,_⟩::_) _ _);refine wpList_loadA (o:=⟨some 49,_,_,_,_,_⟩) (by rfl) 25 (.tmp 12) (by rfl) w5.heap.size (by rfl) aggNode h8 t5l ?_)
    | (go_at_call 46;(with_reducible refine CR.mono ?_);rintro e w6 ⟨rfl,b6⟩;have z6:=z8.kept b6;have bw6:=Below.then bw8 b6;have s6:=b6.size)
    | ((with_reducible show wpList _ _ _ (⟨none,Op.store _ _ (Operand.tmp 52),_,_,_,_⟩::_) _ _);refine wpList_storeA (o:=⟨none,_,_,_,_,_⟩) (by rfl) 25 (.tmp 4) (.tmp 52) (by rfl) (w.heap.size+1) (ndcells zN) (by rfl) (by rfl) aggNode z6 (by rfl) (by rfl) (by intro u hu;simp [ndcells,zN] at hu;rcases hu with rfl|rfl <;> rfl) bw6 (by omega) ?_;intro w7 h7 b7 g7))
     exact bodyPost_ret (v:=.tuple #[.agg (ndcells zN).toArray,.int .i64 1]) (results_blk_tmp rfl _ _ (w.heap.size+1) aggNode h7 (by rfl) rfl rfl) rfl ⟨zN,by rw [HF.out] <;> rfl,IsNd.zeroN _,by rw [HF.out] <;> rfl,b7⟩
    | true =>
     go_wp2_with (first
    | ((with_reducible show wpList _ _ _ (⟨some 39,_,_,_,_,_⟩::_) _ _);refine wpList_loadA (o:=⟨some 39,_,_,_,_,_⟩) (by rfl) 69 (.tmp 2) (by rfl) w.heap.size (by rfl) aggHash' hh (by rw [HKl.out]) ?_)
    | (go_at_call 81;(with_reducible refine CN2.out.mono ?_);rintro e w5 ⟨t,rfl,it,et,kt,lt,gt⟩;have z5:=hz4.grown gt (by simp);have bw5:=lt.hw;have s5:=gt.size;have n5:=it.one;have t5l:=ndcells_len t)
    | ((with_reducible show wpList _ _ _ (⟨none,Op.store _ _ (Operand.tmp 41),_,_,_,_⟩::_) _ _);refine wpList_storeA (o:=⟨none,_,_,_,_,_⟩) (by rfl) 25 (.tmp 12) (.tmp 41) (by rfl) w5.heap.size (ndcells t) (by rfl) (by rfl) aggNode (Blk.new w5 25 (ndcells zN)) t5l (by rfl) n5 ((Below.refl w5.heap.size w5).alloc (Nat.le_refl _) _) (Nat.le_refl _) ?_;intro w8 h8 bA _;have z8:=z5.kept bA;have bw8:=Below.then bw5 bA;have s8:=bA.size;have hrt:rgt 0 t=true:=(by rw [HRB.out,← et (by first|rfl|trivial),rgt_to]);have hbk:bulkN t≤100000000000:=(by have h1:=Hfine.out;rw [← bulkQ_er,et (by first|rfl|trivial)];have h2:=(h1.2.2 (by first|rfl|trivial)).1;have h3:=h1.2.1;(try dsimp only at h2 h3);omega);have CR:=tree_right_any t _ (it.kept bA) hbk;rw [hrt] at CR)
    | ((with_reducible show wpList _ _ _ (⟨some 49,_,_,_,_,_⟩::_) _ _);refine wpList_loadA (o:=⟨some 49,_,_,_,_,_⟩) (by rfl) 25 (.tmp 12) (by rfl) w5.heap.size (by rfl) aggNode h8 t5l ?_)
    | (go_at_call 46;(with_reducible refine CR.mono ?_);rintro e w6 ⟨rfl,b6⟩;have z6:=z8.kept b6;have bw6:=Below.then bw8 b6;have s6:=b6.size;have x6:=h8.kept b6;have it6:=(it.kept bA).kept b6)
    | ((with_reducible show wpList _ _ _ (⟨some 53,_,_,_,_,_⟩::_) _ _);refine wpList_loadA (o:=⟨some 53,_,_,_,_,_⟩) (by rfl) 25 (.tmp 12) (by rfl) w5.heap.size (by rfl) aggNode x6 t5l ?_)
    | ((with_reducible show wpList _ _ _ (⟨none,Op.store _ _ (Operand.tmp 53),_,_,_,_⟩::_) _ _);refine wpList_storeA (o:=⟨none,_,_,_,_,_⟩) (by rfl) 25 (.tmp 4) (.tmp 53) (by rfl) (w.heap.size+1) (ndcells t) (by rfl) (by rfl) aggNode z6 t5l (by rfl) n5 bw6 (by omega) ?_;intro w7 h7 b7 g7))
     exact bodyPost_ret (v:=.tuple #[.agg (ndcells t).toArray,.int .i64 0]) (results_blk_tmp rfl _ _ (w.heap.size+1) aggNode h7 t5l rfl rfl) rfl ⟨t,by rw [HF.out];rfl,it6.offK (row:=some (w.heap.size+1)) (kt.mono (fun k hk=>⟨fun e=>by cases e;have:=hz4.lt;omega,by have h1:=bA.size;have h2:=hk.2;omega⟩)) g7 (z6.cells8 (no8_nd 0 none none none 0 0 0 0 0 0)),by rw [HF.out];exact et (by first|rfl|trivial),b7⟩
   ·have hfin:finP (E,P,m5)=(E,zP):=by unfold finP;rw [if_neg hE]
    have HF:=Lib.hid hfin
    clear hfin
    go_wp2_with (first
    | ((with_reducible show wpList _ _ _ (⟨some 39,_,_,_,_,_⟩::_) _ _);refine wpList_loadA (o:=⟨some 39,_,_,_,_,_⟩) (by rfl) 69 (.tmp 2) (by rfl) w.heap.size (by rfl) aggHash' hh (by rw [HKl.out]) ?_)
    | (go_at_call 81;(with_reducible refine CN2.out.mono ?_);rintro e w5 ⟨t,rfl,it,et,kt,lt,gt⟩;have z5:=hz4.grown gt (by simp);have bw5:=lt.hw;have s5:=gt.size;have n5:=it.one;have t5l:=ndcells_len t)
    | ((with_reducible show wpList _ _ _ (⟨none,Op.store _ _ (Operand.tmp 41),_,_,_,_⟩::_) _ _);refine wpList_storeA (o:=⟨none,_,_,_,_,_⟩) (by rfl) 25 (.tmp 12) (.tmp 41) (by rfl) w5.heap.size (ndcells t) (by rfl) (by rfl) aggNode (Blk.new w5 25 (ndcells zN)) t5l (by rfl) n5 ((Below.refl w5.heap.size w5).alloc (Nat.le_refl _) _) (Nat.le_refl _) ?_;intro w8 h8 bA _;have z8:=z5.kept bA;have bw8:=Below.then bw5 bA;have s8:=bA.size)
    | ((with_reducible show wpList _ _ _ (⟨none,Op.store _ _ (Operand.tmp 46),_,_,_,_⟩::_) _ _);refine wpList_storeA (o:=⟨none,_,_,_,_,_⟩) (by rfl) 25 (.tmp 4) (.tmp 46) (by rfl) (w.heap.size+1) (ndcells zN) (by rfl) (by rfl) aggNode z8 (by rfl) (by rfl) (by intro u hu;simp [ndcells,zN] at hu;rcases hu with rfl|rfl <;> rfl) bw8 (by omega) ?_;intro w7 h7 b7 g7))
    exact bodyPost_ret (v:=.tuple #[.agg (ndcells zN).toArray,.int .i64 E]) (results_blk_tmp rfl _ _ (w.heap.size+1) aggNode h7 (by rfl) rfl rfl) rfl ⟨zN,by rw [HF.out] <;> rfl,IsNd.zeroN _,by rw [HF.out] <;> rfl,b7⟩
end Go.Proofs.Ytakhaanenlblmaa
