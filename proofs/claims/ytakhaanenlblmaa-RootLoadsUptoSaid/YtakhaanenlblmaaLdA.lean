/- Loading a tree by codes: plain Lean. | Rows stay where cells of a block of another kind turn. | A map of texts by their sums. | Rows of one's own in which no cell is a byte; where a tree's rows of kids lie. -/
import Derived.Test.YtakhaanenlblmaaRootReadsW
import Derived.Test.YtakhaanenlblmaaGrwB
import Derived.Test.YtakhaanenlblmaaLits
import Derived.Maps.OwnOps
import Derived.Maps.OwnSet
import Derived.DeepKeys4
import Derived.Test.YtakhaanenlblmaaOff
/- (Ld1) Loading a tree by codes: plain Lean. -/
set_option linter.unusedSimpArgs false
set_option linter.unusedVariables false
namespace Go.Proofs.Ytakhaanenlblmaa
open Go.RowKit
def findC (ts:List (List UInt8)) (h:List UInt8):Option (List UInt8):=ts.find? (fun t=>decide (sumB t=h))
def zP:Pn:=.mk 0 [] [] []
abbrev Ldr:=Int × Pn × Nat
def kidsL (f:List UInt8→Nat→Nat→Ldr) (d:Nat):List (List UInt8)→Nat→List Pn→Int × List Pn × Nat
 | [],m,acc=>(0,acc,m)
 | k::ks,m,acc =>
  if k=[] then kidsL f d ks m (acc++[zP])
  else if (f k d m).1=0 then kidsL f d ks (f k d m).2.2 (acc++[(f k d m).2.1])
  else ((f k d m).1,acc,(f k d m).2.2)
def stepD (s:Shq):Nat:=if s.1=2 then s.2.1.length else 1
def ldP (ts:List (List UInt8)):Nat→List UInt8→Nat→Nat→Ldr
 | 0,_,_,m=>(1,zP,m)
 | n+1,h,d,m =>
  if 64<d then (1,zP,m)
  else match findC ts h with
   | none=>(5,zP,m)
   | some c =>
    if 4096≤m then (6,zP,m)
    else match rdB c with
     | none=>(1,zP,m+1)
     | some s =>
      if s.1=0∧0<d then (1,zP,m+1)
      else if (kidsL (ldP ts n) (d+stepD s) s.2.2.2 (m+1) []).1=0 then (0,.mk s.1 s.2.1 s.2.2.1 (kidsL (ldP ts n) (d+stepD s) s.2.2.2 (m+1) []).2.1,(kidsL (ldP ts n) (d+stepD s) s.2.2.2 (m+1) []).2.2)
      else ((kidsL (ldP ts n) (d+stepD s) s.2.2.2 (m+1) []).1,zP,(kidsL (ldP ts n) (d+stepD s) s.2.2.2 (m+1) []).2.2)
theorem find_mem {ts:List (List UInt8)} {h c:List UInt8} (e:findC ts h=some c):c∈ts:=List.mem_of_find?_eq_some e
theorem rd_kinds {b:List UInt8} {s:Shq} (h:rdB b=some s):(s.1=0∧s.2.2.2=[])∨(s.1=1∧s.2.2.2=[])∨(s.1=2∧1≤s.2.1.length∧∃ k,s.2.2.2=[k]∧k.length=32)∨(s.1=3∧s.2.2.2.length=16∧∀ k∈s.2.2.2,k=[]∨k.length=32):=by
 unfold rdB at h
 cases hd:dec b with
 | none=>rw [hd] at h;simp at h
 | some p =>
  rw [hd] at h
  dsimp only at h
  cases hs:shpP p with
  | none=>rw [hs] at h;simp at h
  | some s2 =>
   rw [hs] at h
   dsimp only at h
   split at h
   ·rename_i ho
    simp only [Option.some.injEq] at h
    subst h
    cases p with
    | txt t =>
     simp only [shpP] at hs
     split at hs
     ·simp only [Option.some.injEq] at hs;subst hs;exact .inl ⟨rfl,rfl⟩
     ·simp at hs
    | lst ks =>
     simp only [shpP] at hs
     cases ha:allT ks with
     | none=>rw [ha] at hs;simp at hs
     | some ts =>
      rw [ha] at hs
      dsimp only at hs
      split at hs
      ·simp only [Option.some.injEq] at hs
       subst hs
       refine .inr (.inr (.inr ⟨rfl,?_⟩))
       simp only [okQ,shOk] at ho
       simp at ho
       obtain ⟨⟨⟨h1,_⟩,h2⟩,_⟩:=ho
       refine ⟨by simp;omega,fun k hk=>?_⟩
       have:=h2 k hk
       unfold sumOk at this
       simp at this
       rcases this with h|h
       ·exact .inr h
       ·exact .inl h
      ·split at hs
       ·split at hs
        ·split at hs
         ·simp only [Option.some.injEq] at hs;subst hs;exact .inr (.inl ⟨rfl,rfl⟩)
         ·simp only [Option.some.injEq] at hs
          subst hs
          refine .inr (.inr (.inl ⟨rfl,?_⟩))
          simp only [okQ,shOk] at ho
          simp at ho
          rename_i h2 _ _
          obtain ⟨⟨⟨_,h1⟩,h4⟩,h3⟩:=ho
          refine ⟨h1,(ts.drop 1)[0]?.getD [],?_,by simpa using h3⟩
          match ts,h2 with
          | [a,c],_=>rfl
        ·simp at hs
       ·simp at hs
   ·simp at h
mutual
def bulkQ:Pn→Nat
 | .mk _ p v ks=>1+p.length+v.length+bulkQL ks
def bulkQL:List Pn→Nat
 | []=>0
 | k::ks=>bulkQ k+bulkQL ks
end
theorem bulkQL_app (l m:List Pn):bulkQL (l++m)=bulkQL l+bulkQL m:=by
 induction l with
 | nil=>simp [bulkQL]
 | cons x l ih=>simp only [List.cons_append,bulkQL,ih];omega
mutual
theorem bulkQ_er:∀ t:Nd,bulkQ (erN t)=bulkN t
 | .mk kd pv p vv v kv ks=>by simp only [erN,bulkQ,bulkN,bulkQ_erL ks]
theorem bulkQ_erL:∀ ks:List Nd,bulkQL (erNL ks)=bulkNL ks
 | []=>rfl
 | k::ks=>by simp only [erNL,bulkQL,bulkNL,bulkQ_er k,bulkQ_erL ks]
end
mutual
def cntP:Pn→Nat
 | .mk kd _ _ ks=>if kd=0 then 0 else 1+cntPL ks
def cntPL:List Pn→Nat
 | []=>0
 | k::ks=>cntP k+cntPL ks
end
theorem cntPL_app (l m:List Pn):cntPL (l++m)=cntPL l+cntPL m:=by
 induction l with
 | nil=>simp [cntPL]
 | cons x l ih=>simp only [List.cons_append,cntPL,ih];omega
mutual
theorem rts_cnt:∀ {t:Nd} {l:List Rt},rts t=some l→l.length≤cntP (erN t)
 | .mk kd pv p vv v kv ks,l,h=>by
  unfold rts at h
  simp only [erN,cntP]
  split at h
  ·simp at h
  ·split at h
   ·simp only [Option.some.injEq] at h;subst h;simp
   ·rename_i h0
    rw [if_neg h0]
    split at h
    ·simp only [Option.some.injEq] at h;subst h;simp
    ·split at h
     ·cases hls:rtsL ks with
      | none=>rw [hls] at h;simp at h
      | some ls =>
       rw [hls] at h
       simp only [Option.map_some,Option.some.injEq] at h
       subst h
       have:=rtsL_cnt hls
       rw [pre_len,List.length_flatten]
       omega
     ·split at h
      ·cases hls:rtsL ks with
       | none=>rw [hls] at h;simp at h
       | some ls =>
        rw [hls] at h
        simp only [Option.map_some,Option.some.injEq] at h
        subst h
        have:=rtsL_cnt hls
        rw [List.length_append,cat_len]
        have:(if v=[] then ([]:List Rt) else [([],v)]).length≤1:=by split <;> simp
        omega
      ·simp at h
theorem rtsL_cnt:∀ {ks:List Nd} {ls:List (List Rt)},rtsL ks=some ls→(ls.map List.length).sum≤cntPL (erNL ks)
 | [],ls,h=>by
  simp only [rtsL,Option.some.injEq] at h
  subst h
  simp
 | k::ks,ls,h=>by
  unfold rtsL at h
  cases h1:rts k with
  | none=>rw [h1] at h;simp at h
  | some l =>
   rw [h1] at h
   dsimp only at h
   cases h2:rtsL ks with
   | none=>rw [h2] at h;simp at h
   | some ls2 =>
    rw [h2] at h
    simp only [Option.some.injEq] at h
    subst h
    have a:=rts_cnt h1
    have b:=rtsL_cnt h2
    simp only [erNL,cntPL,List.map_cons,List.sum_cons]
    omega
end
mutual
theorem same_er:∀ t:Nd,sameP t (erN t)=true
 | .mk kd pv p vv v kv ks=>by
  have:=same_erL ks
  simp only [erN,sameP,this]
  simp
theorem same_erL:∀ ks:List Nd,sameL ks (erNL ks)=true
 | []=>rfl
 | k::ks=>by simp only [erNL,sameL,same_er k,same_erL ks];rfl
end
def FineF (f:List UInt8→Nat→Nat→Ldr):Prop:=∀ k d m,m≤4096→m≤(f k d m).2.2∧(f k d m).2.2≤4096∧((f k d m).1=0→bulkQ (f k d m).2.1+6291457 * m≤6291457 * (f k d m).2.2∧cntP (f k d m).2.1+m≤(f k d m).2.2)
theorem kidsL_fine {f:List UInt8→Nat→Nat→Ldr} (hf:FineF f) (d:Nat):∀ (ks:List (List UInt8)) (m:Nat) (acc:List Pn),m≤4096 →
  m≤(kidsL f d ks m acc).2.2∧(kidsL f d ks m acc).2.2≤4096∧((kidsL f d ks m acc).1=0→bulkQL (kidsL f d ks m acc).2.1+6291457 * m≤bulkQL acc+ks.length+6291457 * (kidsL f d ks m acc).2.2∧cntPL (kidsL f d ks m acc).2.1+m≤cntPL acc+(kidsL f d ks m acc).2.2)
 | [],m,acc,hm=>by simp only [kidsL];exact ⟨Nat.le_refl _,hm,fun _=>⟨by simp,by omega⟩⟩
 | k::ks,m,acc,hm=>by
  simp only [kidsL]
  split
  ·obtain ⟨h1,h2,h3⟩:=kidsL_fine hf d ks m (acc++[zP]) hm
   refine ⟨h1,h2,fun h=>?_⟩
   have:=h3 h
   have hz:bulkQL (acc++[zP])=bulkQL acc+1:=by rw [bulkQL_app];rfl
   have hc:cntPL (acc++[zP])=cntPL acc:=by rw [cntPL_app];rfl
   rw [hz,hc] at this
   simp only [List.length_cons];omega
  ·obtain ⟨a1,a2,a3⟩:=hf k d m hm
   split
   ·rename_i h0
    obtain ⟨h1,h2,h3⟩:=kidsL_fine hf d ks (f k d m).2.2 (acc++[(f k d m).2.1]) a2
    refine ⟨by omega,h2,fun h=>?_⟩
    have h4:=h3 h
    have h5:=a3 h0
    rw [bulkQL_app,cntPL_app] at h4
    simp only [bulkQL,cntPL] at h4
    simp only [List.length_cons];omega
   ·rename_i h0
    exact ⟨a1,a2,fun h=>absurd h h0⟩
theorem ldP_fine {ts:List (List UInt8)} (hb:∀ t∈ts,t.length≤1048576):∀ n,FineF (ldP ts n)
 | 0=>fun k d m hm=>by simp only [ldP];exact ⟨Nat.le_refl _,hm,fun h=>by simp at h⟩
 | n+1=>fun k d m hm=>by
  simp only [ldP]
  split
  ·exact ⟨Nat.le_refl _,hm,fun h=>by simp at h⟩
  ·cases hf:findC ts k with
   | none=>exact ⟨Nat.le_refl _,hm,fun h=>by simp at h⟩
   | some c =>
    dsimp only
    split
    ·exact ⟨Nat.le_refl _,hm,fun h=>by simp at h⟩
    ·cases hr:rdB c with
     | none=>exact ⟨by dsimp only;omega,by dsimp only;omega,fun h=>by simp at h⟩
     | some s =>
      dsimp only
      split
      ·exact ⟨by dsimp only;omega,by dsimp only;omega,fun h=>by simp at h⟩
      ·obtain ⟨h1,h2,h3⟩:=kidsL_fine (ldP_fine hb n) (d+stepD s) s.2.2.2 (m+1) [] (by omega)
       split
       ·rename_i h0
        refine ⟨by dsimp only;omega,h2,fun _=>?_⟩
        have h4:=h3 h0
        obtain ⟨_,l1,l2,l3,_⟩:=rd_le hr (hb c (find_mem hf))
        simp only [bulkQL,cntPL] at h4
        simp only [bulkQ,cntP]
        refine ⟨by omega,?_⟩
        split <;> omega
       ·rename_i h0
        exact ⟨by dsimp only;omega,h2,fun h=>absurd h h0⟩
theorem kidsL_empty (f:List UInt8→Nat→Nat→Ldr) (d m:Nat) (acc:List Pn):kidsL f d [] m acc=(0,acc,m):=rfl
theorem kidsL_hole (f:List UInt8→Nat→Nat→Ldr) (d m:Nat) (acc:List Pn) (ks:List (List UInt8)):kidsL f d ([]::ks) m acc=kidsL f d ks m (acc++[zP]):=by simp only [kidsL,if_pos]
theorem kidsL_good (f:List UInt8→Nat→Nat→Ldr) (d m:Nat) (acc:List Pn) (k:List UInt8) (ks:List (List UInt8)) (hk:k≠[]) (h:(f k d m).1=0):kidsL f d (k::ks) m acc=kidsL f d ks (f k d m).2.2 (acc++[(f k d m).2.1]):=by simp only [kidsL,if_neg hk,if_pos h]
theorem kidsL_bad (f:List UInt8→Nat→Nat→Ldr) (d m:Nat) (acc:List Pn) (k:List UInt8) (ks:List (List UInt8)) (hk:k≠[]) (h:(f k d m).1≠0):kidsL f d (k::ks) m acc=((f k d m).1,acc,(f k d m).2.2):=by simp only [kidsL,if_neg hk,if_neg h]
end Go.Proofs.Ytakhaanenlblmaa
/- (Ld2) Rows stay where cells of a block of another kind turn. -/
namespace Go.Proofs.Ytakhaanenlblmaa
open Go.RowKit
def Stays (xs cs cs':List Value):Prop:=∀ off,(∀ (j:Nat) u,xs[j]?=some u→cs[off+j]?=some u)→∀ (j:Nat) u,xs[j]?=some u→cs'[off+j]?=some u
theorem RowOf.offI {α:Type} {f:α→List Value} {size:Nat} (hf:∀ x,(f x).length=size) (hsz:0<size) {w w':World} {v:Value} {g:Nat} {l:List α} {e:TypeId} {cs cs':List Value} (h:RowOf f size w v l) (hz:Blk e w g cs) (hz':Blk e w' g cs') (hg:w.grownBy w' (some g)) (hno:∀ x∈l,Stays (f x) cs cs'):RowOf f size w' v l:=by
 obtain ⟨a,c,rfl,_⟩:=h.form
 obtain ⟨h0,a',c',hv,h1,h2,h3⟩:=h
 simp only [Value.slice.injEq] at hv
 obtain ⟨rfl,_,rfl⟩:=hv
 refine ⟨h0,_,_,rfl,h1,h2,?_⟩
 rcases h3 with h3|⟨b,off,s,rfl,hs,hc⟩
 ·exact .inl h3
 ·refine .inr ⟨b,off,s,rfl,hs,fun j u hu=>?_⟩
  have hcc:=hc j u hu
  by_cases hb:b=g
  ·subst hb
   have hj:j<l.length * size:=by rw [← flat_len hf];exact (List.getElem?_eq_some_iff.1 hu).1
   have hk:j / size<l.length:=Nat.div_lt_of_lt_mul (by rw [Nat.mul_comm];exact hj)
   have hm:=Nat.mod_lt j hsz
   have e1:j / size * size+j % size=j:=by rw [Nat.mul_comm];exact Nat.div_add_mod j size
   have hfl:∀ i,i<size→(l.flatMap f)[j / size * size+i]?=(f l[j / size])[i]?:=fun i hi=>flat_get hf l (j / size) hk i hi
   have hx:=hno l[j / size] (List.getElem_mem hk) (off+j / size * size) (fun i x hi=>by
    have hi2:i<size:=by
     have:=(List.getElem?_eq_some_iff.1 hi).1
     rwa [hf] at this
    have:=hc (j / size * size+i) x (by rw [hfl i hi2];exact hi)
    rw [hz.cell] at this
    rw [← this];congr 1;omega) (j % size) u (by rw [← hfl _ hm,e1];exact hu)
   rw [hz'.cell,← hx];congr 1;omega
  ·have hlt:=World.block_lt_of_cell? w _ hcc
   rw [← hcc]
   exact World.cell?_of_block (w:=w) (hg.block b hlt (by simpa using hb))
theorem IsNd.offI {w w':World} {g:Nat} {t:Nd} {e:TypeId} {cs cs':List Value} (h:IsNd w t) (hz:Blk e w g cs) (hz':Blk e w' g cs') (hg:w.grownBy w' (some g)) (hnb:∀ x,Stays (b8 x) cs cs') (hnn:∀ kd a n c u v,Stays [.int .i64 kd,.slice a n c,u,v] cs cs'):IsNd w' t:=by
 induction h with
 | mk kd pv p vv v kv ks hp hv hk h ih =>
  refine .mk kd pv p vv v kv ks (RowOf.offI (size:=1) (fun _=>rfl) (by omega) hp hz hz' hg (fun x _=>hnb x)) (RowOf.offI (size:=1) (fun _=>rfl) (by omega) hv hz hz' hg (fun x _=>hnb x)) (RowOf.offI (size:=4) ndcells_len (by omega) hk hz hz' hg (fun k hk=>?_)) ih
  have h2:=h k hk
  obtain ⟨kd2,pv2,p2,vv2,v2,kv2,ks2⟩:=k
  obtain ⟨a,c,rfl,_,_⟩:=h2.inv.1.form
  exact hnn _ _ _ _ _ _
theorem Texts.offI {w w':World} {g:Nat} {v:Value} {ps:List (Value × List UInt8)} {e:TypeId} {cs cs':List Value} (h:Texts w v ps) (hz:Blk e w g cs) (hz':Blk e w' g cs') (hg:w.grownBy w' (some g)) (hnb:∀ x,Stays (b8 x) cs cs') (hnt:∀ a n c,Stays [.slice a n c] cs cs'):Texts w' v ps:=by
 refine ⟨RowOf.offI (size:=1) (fun _=>rfl) (by omega) h.1 hz hz' hg (fun q hq=>?_),fun q hq=>RowOf.offI (size:=1) (fun _=>rfl) (by omega) (h.2 q hq) hz hz' hg (fun x _=>hnb x)⟩
 obtain ⟨a,c,h2,_⟩:=(h.2 q hq).form
 show Stays [q.1] cs cs'
 rw [h2]
 exact hnt _ _ _
def ldC (b m:Nat):List Value:=[.map (some b),.int .i64 (m:Int)]
theorem ld_b8 (b m m':Nat) (x:UInt8):Stays (b8 x) (ldC b m) (ldC b m'):=fun off h=>by
 have:=h 0 _ rfl
 match off,this with
 | 0,h=>simp [ldC,u8v] at h
 | 1,h=>simp [ldC,u8v] at h
 | n+2,h=>simp [ldC] at h
theorem ld_tc (b m m':Nat) (a:Option Addr) (n c:Nat):Stays [.slice a n c] (ldC b m) (ldC b m'):=fun off h=>by
 have:=h 0 _ rfl
 match off,this with
 | 0,h=>simp [ldC] at h
 | 1,h=>simp [ldC] at h
 | n+2,h=>simp [ldC] at h
theorem ld_nd (b m m':Nat) (kd:Int) (a:Option Addr) (n c:Nat) (u v:Value):Stays [.int .i64 kd,.slice a n c,u,v] (ldC b m) (ldC b m'):=fun off h=>by
 have:=h 1 _ rfl
 match off,this with
 | 0,h=>simp [ldC] at h
 | n+1,h=>simp [ldC] at h
def viC (sv av:Value) (m:Nat):List Value:=[sv,av,.int .i64 (m:Int)]
theorem vi_b8 (sa:Option Addr) (sn sc:Nat) (aa:Option Addr) (an ac:Nat) (m m':Nat) (x:UInt8):Stays (b8 x) (viC (.slice sa sn sc) (.slice aa an ac) m) (viC (.slice sa sn sc) (.slice aa an ac) m'):=fun off h=>by
 have:=h 0 _ rfl
 match off,this with
 | 0,h=>simp [viC,u8v] at h
 | 1,h=>simp [viC,u8v] at h
 | 2,h=>simp [viC,u8v] at h
 | n+3,h=>simp [viC] at h
theorem vi_tc (sv av:Value) (m m':Nat) (a:Option Addr) (n c:Nat):Stays [.slice a n c] (viC sv av m) (viC sv av m'):=fun off h=>by
 have:=h 0 _ rfl
 match off,this with
 | 0,h=>intro j u hu;(cases j with|zero=>(simp only [List.getElem?_cons_zero,Option.some.injEq] at hu;subst hu;simpa [viC] using h)|succ k=>(simp at hu))
 | 1,h=>intro j u hu;(cases j with|zero=>(simp only [List.getElem?_cons_zero,Option.some.injEq] at hu;subst hu;simpa [viC] using h)|succ k=>(simp at hu))
 | 2,h=>simp [viC] at h
 | n+3,h=>simp [viC] at h
theorem vi_nd (sa:Option Addr) (sn sc:Nat) (aa:Option Addr) (an ac:Nat) (m m':Nat) (kd:Int) (a:Option Addr) (n c:Nat) (u v:Value):Stays [.int .i64 kd,.slice a n c,u,v] (viC (.slice sa sn sc) (.slice aa an ac) m) (viC (.slice sa sn sc) (.slice aa an ac) m'):=fun off h=>by
 have h0:=h 0 _ rfl
 have h1:=h 1 _ rfl
 match off,h0,h1 with
 | 0,h,_=>simp [viC] at h
 | 1,h,_=>simp [viC] at h
 | n+2,_,h=>simp [viC] at h
end Go.Proofs.Ytakhaanenlblmaa
/- (Ld3) A map of texts by their sums. -/
namespace Go.Proofs.Ytakhaanenlblmaa
open Go.RowKit
abbrev DV:=DataW Value
def heldR:Value→Option (DV × List MemPlace):=fun v=>some (.held v,[])
theorem laidTry:laidOutB Try.prog=true:=by kernel_rfl
theorem rowHash:(69:TypeId)<Try.prog.types.size:=of_decide_eq_true (by kernel_rfl)
theorem law_of {P:Program} (hl:laidOutB P=true) {k e:TypeId} {n:Nat} (hrow:k<P.types.size) (hk:P.keyTypeAt 2 k=true) (h:P.underlying k=some (.array n e)):Maps.Keyed P k :=
 Maps.Keyed.of_law (deep_law_laid hl (m:=2) (by omega) hrow hk (by rw [h]))
theorem lawHash:Maps.Keyed Try.prog 69:=law_of laidTry rowHash (by kernel_rfl) Try.underlying69
theorem bytes1 (b:UInt8):Lit.keyBytes (.int .u8 (b.toNat:Int))=[b]:=by
 have h:=b.toNat_lt
 have h1:((b.toNat:Int) % 2 ^ IntKind.u8.bits).toNat=b.toNat:=by
  show ((b.toNat:Int) % 256).toNat=b.toNat
  omega
 show bytesBE (IntKind.u8.bits / 8) ((b.toNat:Int) % 2 ^ IntKind.u8.bits).toNat=[b]
 rw [h1]
 show (bytesLE 1 b.toNat).reverse=[b]
 simp only [bytesLE,List.reverse_cons,List.reverse_nil,List.nil_append]
 rw [Nat.mod_eq_of_lt h,UInt8.ofNat_toNat]
theorem keyB8 (l:List UInt8):keyBytes (lit8 l)=l:=by
 unfold keyBytes lit8
 induction l with
 | nil=>rfl
 | cons b l ih=>rw [List.map_cons,List.flatMap_cons,ih,bytes1];rfl
theorem keyHash (l:List UInt8) (hl:l.length=32):keyOf Try.prog 69 (.agg (l.map u8v).toArray)=some (.string l):=by
 have hc:Try.prog.cellsOf 69=32:=by kernel_rfl
 have hk:Try.prog.keyType 69=true:=by kernel_rfl
 have hu:Try.prog.underlying 69=some (.array 32 5):=Try.underlying69
 obtain ⟨d,hd⟩:∃ d,Try.prog.types.size+1=d+2:=⟨Try.prog.types.size - 1,by have:(69:Nat)<Try.prog.types.size:=rowHash;omega⟩
 have hL:=keyA hu hc d l hl
 rw [← hd] at hL
 unfold by8 at hL
 unfold keyOf
 simp only [hu,hk,Value.formed,hc,Value.cells]
 rw [if_pos (by simp [hl]),hL]
 simp only [Option.map_some,keyB8]
def firstQ (ps:List (Value × List UInt8)) (h:List UInt8):Option (Value × List UInt8):=ps.find? (fun q=>decide (sumB q.2=h))
theorem first_find (ps:List (Value × List UInt8)) (h:List UInt8):findC (ps.map (·.2)) h=(firstQ ps h).map (·.2):=by
 unfold findC firstQ
 rw [List.find?_map];rfl
theorem first_mem {ps:List (Value × List UInt8)} {h:List UInt8} {q:Value × List UInt8} (e:firstQ ps h=some q):q∈ps∧sumB q.2=h:=⟨List.mem_of_find?_eq_some e,by simpa using List.find?_some e⟩
theorem first_snoc (ps:List (Value × List UInt8)) (q:Value × List UInt8) (h:List UInt8):firstQ (ps++[q]) h=match firstQ ps h with|some p=>some p|none=>if sumB q.2=h then some q else none:=by
 unfold firstQ
 rw [List.find?_append]
 cases ps.find? (fun q=>decide (sumB q.2=h)) with
 | some p=>rfl
 | none=>by_cases hs:sumB q.2=h <;> simp [hs]
def SaysH (D:DV) (ps:List (Value × List UInt8)):Prop:=∀ h,match firstQ ps h with
 | none=>Maps.has D (.string h)=false
 | some q=>Maps.has D (.string h)=true∧∀ z,D.atKey (.string h) z=.held q.1
def KH (w:World) (b n:Nat) (ps:List (Value × List UInt8)):Prop:=∃ D:DV,w.ownsMap Try.prog 69 heldR b n D∧SaysH D ps
theorem KH.kept {w w':World} {b n:Nat} {ps:List (Value × List UInt8)} (h:KH w b n ps) (hb:Below w.heap.size w w'):KH w' b n ps:=by
 obtain ⟨D,h1,h2⟩:=h
 exact ⟨D,h1.kept (row:=none) ⟨hb.os,hb.tape,hb.output,hb.size,fun i hi _=>hb.block i hi⟩ (by simp),h2⟩
theorem KH.grown {w w':World} {b n:Nat} {ps:List (Value × List UInt8)} {row:Option Nat} (h:KH w b n ps) (hg:w.grownBy w' row) (hne:some b≠row):KH w' b n ps:=by
 obtain ⟨D,h1,h2⟩:=h
 exact ⟨D,h1.kept hg hne,h2⟩
theorem says_nilH:SaysH (.map []) []:=fun h=>rfl
theorem KH.made (w:World):KH (w.alloc (.map #[] 0)) w.heap.size 0 []:=⟨_,World.ownsMap_made w _ _ _,says_nilH⟩
theorem SaysH.old {D:DV} {ps:List (Value × List UInt8)} (h:SaysH D ps) {q:Value × List UInt8} (hh:Maps.has D (.string (sumB q.2))=true):SaysH D (ps++[q]):=fun k=>by
 have hk:=h k
 rw [first_snoc]
 cases hf:firstQ ps k with
 | some p=>rw [hf] at hk;exact hk
 | none =>
  rw [hf] at hk
  dsimp only at hk ⊢
  rw [if_neg (fun e=>by rw [e,hk] at hh;cases hh)]
  exact hk
theorem SaysH.new {D:DV} {ps:List (Value × List UInt8)} (h:SaysH D ps) (hm:Maps.IsMap D) {q:Value × List UInt8} (hh:Maps.has D (.string (sumB q.2))=false):SaysH (D.put (.string (sumB q.2)) (.held q.1)) (ps++[q]):=fun k=>by
 have hk:=h k
 rw [first_snoc]
 by_cases he:sumB q.2=k
 ·subst he
  cases hf:firstQ ps (sumB q.2) with
  | some p=>rw [hf] at hk;rw [hk.1] at hh;cases hh
  | none =>
   dsimp only
   rw [if_pos rfl]
   exact ⟨Maps.has_put_same hm (by simp [WideAt.IsKeyLit]) _,fun z=>Maps.atKey_put_same hm (by simp [WideAt.IsKeyLit]) _ _⟩
 ·have hne:Lit.string k≠Lit.string (sumB q.2):=fun e=>he (by cases e;rfl)
  cases hf:firstQ ps k with
  | some p =>
   rw [hf] at hk
   exact ⟨by rw [Maps.has_put_other hne];exact hk.1,fun z=>by rw [Maps.atKey_put_other hne];exact hk.2 z⟩
  | none =>
   rw [hf] at hk
   dsimp only at hk ⊢
   rw [if_neg he]
   show Maps.has _ _=false
   rw [Maps.has_put_other hne];exact hk
theorem SaysH.look {D:DV} {ps:List (Value × List UInt8)} (h:SaysH D ps) (k:List UInt8):Maps.has D (.string k)=(firstQ ps k).isSome∧∀ q,firstQ ps k=some q→∀ v ms,heldR v=some (D.atKey (.string k) (.held (.slice none 0 0)),ms)→v=q.1:=by
 have hk:=h k
 cases hf:firstQ ps k with
 | none=>rw [hf] at hk;exact ⟨hk,fun q e=>by cases e⟩
 | some p =>
  rw [hf] at hk
  refine ⟨hk.1,fun q e v ms hv=>?_⟩
  cases e
  rw [hk.2] at hv
  simp only [heldR,Option.some.injEq,Prod.mk.injEq,DataW.held.injEq] at hv
  exact hv.1
end Go.Proofs.Ytakhaanenlblmaa
/- (Ld4) Rows of one's own in which no cell is a byte; where a tree's rows of kids lie. -/
namespace Go.Proofs.Ytakhaanenlblmaa
open Go.RowKit
def Clean (w:World) (v:Value):Prop:=∀ k,v.ownBlock=some k→∀ cs e fz,w.heap[k]?=some (.cells cs e fz)→∀ u∈cs.toList,∀ x,u≠.int .u8 x
theorem Clean.nil (w:World):Clean w (.slice none 0 0):=fun k hk=>by simp [Value.ownBlock] at hk
theorem Clean.same {w w':World} {v:Value} (h:Clean w v) (hs:∀ k,v.ownBlock=some k→w'.heap[k]?=w.heap[k]?):Clean w' v:=fun k hk cs e fz hc=>h k hk cs e fz ((hs k hk).symm.trans hc)
theorem Clean.grown {α:Type} {f:α→List Value} {size:Nat} {e:TypeId} {B:Nat} {l:List α} {w w':World} {v:Value} {row:Option Nat} (h:Clean w v) (ho:OwnOf f size e w B v l) (hg:w.grownBy w' row) (hne:∀ k,row=some k→v.ownBlock≠some k):Clean w' v :=
 h.same (fun k hk=>hg.block k ((World.ownsRow.lt ho k hk).2) (fun e=>hne k e.symm hk))
theorem zeroCells_mem {z:Array Value} {n:Nat} {u:Value} (h:u∈(Builtin.zeroCells z n).toList):u∈z.toList:=by
 unfold Builtin.zeroCells at h
 simp only [Array.toList_map,List.mem_map] at h
 obtain ⟨i,hi,rfl⟩:=h
 have hz:0<z.size:=by
  by_cases h0:z.size=0
  ·rw [h0] at hi;simp at hi
  ·omega
 have hlt:=Nat.mod_lt i hz
 rw [getElem!_pos z _ hlt]
 exact Array.getElem_mem_toList hlt
theorem run_appD {α:Type} {f:α→List Value} {P:Program} {w:World} (t ty:TypeId) {e:TypeId} {z:Value} {size bytes:Nat} (el:El0 P t e z size bytes f) {B:Nat} {v:Value} {l m:List α} (h1:∀ u∈m.flatMap f,u.oneCell'=true) (hown:OwnOf f size e w B v l)
  {b off n c:Nat} (hn:m.length=n) (h0:0<n) (hc:∀ j u,(m.flatMap f)[j]?=some u→w.cell? ⟨b,off+j,none⟩=some u) (hB:B≤w.heap.size) (hbytes:(l.length+m.length) * bytes≤140737488355328) (h63:l.length+m.length≤maxLen)
  (hcl:Clean w v) (hm8:∀ u∈m.flatMap f,∀ x,u≠.int .u8 x) (hz8:∀ u∈z.cells.toList,∀ x,u≠.int .u8 x) :
  ∃ v' w',(Builtin.append_ #[t,t] ty #[v,.slice (some ⟨b,off,none⟩) n c]).run P w=.ok v' w'∧OwnOf f size e w' B v' (l++m)∧w.grownBy w' v.ownBlock∧(∀ k,v'.ownBlock=some k→v.ownBlock=some k∨w.heap.size≤k)∧Clean w' v':=by
 obtain ⟨i,hi,hz,hsi,hby⟩:=el.info
 subst hn
 have hlen:=flat_len el.hf m
 have hadd:∀ j,(⟨b,off,none⟩:Addr).add j=⟨b,off+j,none⟩:=fun j=>by unfold Addr.add;split <;> simp_all
 have hnews:∀ j u,(m.flatMap f)[j]?=some u→w.cell? ((⟨b,off,none⟩:Addr).add j)=some u:=fun j u hu=>by rw [hadd];exact hc j u hu
 obtain ⟨v',w',hr,ho,hg,_⟩:=run_append_own (P:=P) w B t ty e i z size bytes el.ht hi hz hsi hby el.hzs el.hsz v _ _ hown ⟨b,off,none⟩ m.length c _ hlen hnews h1 h63 hbytes hB
 refine ⟨v',w',hr,by unfold OwnOf;rw [List.length_append,List.flatMap_append];exact ho,hg,?_⟩
 subst hsi
 subst hby
 have hsmall:l.length+m.length≤9223372036854775807:=by simp only [maxLen] at h63;omega
 rcases hown.2 with ⟨rfl,hl0⟩|⟨g,cap,cur,rfl,hbg,hgg,hnc,hcm,hcs,htake⟩
 ·have hr2:=run_append_nil (P:=P) w t ty e i z el.ht hi hz ⟨b,off,none⟩ m.length c _ hlen hnews h0 (by omega) (by have hb:=hbytes;rw [hl0,Nat.zero_add] at hb;omega)
  rw [hr2] at hr
  simp only [Result.ok.injEq] at hr
  obtain ⟨rfl,rfl⟩:=hr
  refine ⟨fun k hk=>?_,fun k hk cs e' fz hh u hu x=>?_⟩
  ·simp only [Value.ownBlock,Option.some.injEq] at hk
   subst hk;exact .inr (Nat.le_refl _)
  ·simp only [Value.ownBlock,Option.some.injEq] at hk
   subst hk
   have h2:=heap_alloc_new w.drew (.cells ((m.flatMap f).toArray++Builtin.zeroCells z.cells (grownCap w m.length 0 e - m.length)) e)
   rw [show w.heap.size=w.drew.heap.size from rfl,h2] at hh
   simp only [Option.some.injEq,Obj.cells.injEq] at hh
   obtain ⟨rfl,_,_⟩:=hh
   simp only [Array.toList_append,List.mem_append] at hu
   rcases hu with hu|hu
   ·exact hm8 u (by simpa using hu) x
   ·exact hz8 u (zeroCells_mem hu) x
 ·have hcl2:∀ u∈cur.toList,∀ x,u≠.int .u8 x:=hcl g rfl cur e (0,0) hgg
  by_cases hroom:l.length+m.length≤cap
  ·have hfit:l.length * i.size+(m.flatMap f).length≤cur.size:=by rw [hlen,hcs,← Nat.add_mul];exact Nat.mul_le_mul_right _ hroom
   have hr2:=run_append_room (P:=P) w t ty e i el.ht hi g l.length cap cur hgg ⟨b,off,none⟩ m.length c _ hlen hnews h1 hroom hfit
   rw [hr2] at hr
   simp only [Result.ok.injEq] at hr
   obtain ⟨rfl,rfl⟩:=hr
   refine ⟨fun k hk=>.inl hk,fun k hk cs e' fz hh u hu x=>?_⟩
   simp only [Value.ownBlock,Option.some.injEq] at hk
   subst hk
   rw [setRow_heap w g cur _ e _ hgg] at hh
   simp only [Option.some.injEq,Obj.cells.injEq] at hh
   obtain ⟨rfl,_,_⟩:=hh
   simp only [List.mem_append] at hu
   rcases hu with (hu|hu)|hu
   ·exact hcl2 u (List.mem_of_mem_take hu) x
   ·exact hm8 u hu x
   ·exact hcl2 u (List.mem_of_mem_drop hu) x
  ·have holds:∀ j u,(l.flatMap f)[j]?=some u→w.cell? ((⟨g,0,none⟩:Addr).add j)=some u:=World.ownsRow.cells hown (g:=g) rfl
   have hr2:=run_append_grow (P:=P) w t ty e i z el.ht hi hz ⟨g,0,none⟩ l.length cap _ hown.1 holds ⟨b,off,none⟩ m.length c _ hlen hnews (by omega) (by omega) (growslice_fits (by omega) hbytes)
   rw [hr2] at hr
   simp only [Result.ok.injEq] at hr
   obtain ⟨rfl,rfl⟩:=hr
   refine ⟨fun k hk=>?_,fun k hk cs e' fz hh u hu x=>?_⟩
   ·simp only [Value.ownBlock,Option.some.injEq] at hk
    subst hk;exact .inr (Nat.le_refl _)
   ·simp only [Value.ownBlock,Option.some.injEq] at hk
    subst hk
    have h2:=heap_alloc_new w.drew (.cells ((l.flatMap f).toArray++(m.flatMap f).toArray++Builtin.zeroCells z.cells (grownCap w (l.length+m.length) cap e - (l.length+m.length))) e)
    rw [show w.heap.size=w.drew.heap.size from rfl,h2] at hh
    simp only [Option.some.injEq,Obj.cells.injEq] at hh
    obtain ⟨rfl,_,_⟩:=hh
    simp only [Array.toList_append,List.mem_append] at hu
    rcases hu with (hu|hu)|hu
    ·rw [← htake] at hu
     exact hcl2 u (List.mem_of_mem_take (by simpa using hu)) x
    ·exact hm8 u (by simpa using hu) x
    ·exact hz8 u (zeroCells_mem hu) x
theorem wpList_appD {α:Type} {f:α→List Value} {P:Program} {w:World} {ops:Array Oper} {rest:List Oper} {o:Oper} {a:Act} {Q:Exit→Act→World→Prop} (hgd:o.guard=none) (s x:Operand) (t:TypeId)
  (ho:o.op=.call { callee:=.builtin .append,args:=#[s,x],argTypes:=#[t,t] })
  {e:TypeId} {z:Value} {size bytes:Nat} (el:El0 P t e z size bytes f) {B:Nat}
  {v:Value} {l m:List α} (h1:∀ u∈m.flatMap f,u.oneCell'=true) (hs:a.eval s=v) (hown:OwnOf f size e w B v l)
  {b off n c:Nat} (hx:a.eval x=.slice (some ⟨b,off,none⟩) n c) (hrow:RowOf f size w (.slice (some ⟨b,off,none⟩) n c) m) (h0:0<n) (hB:B≤w.heap.size)
  (hbytes:(l.length+m.length) * bytes≤140737488355328) (h63:l.length+m.length≤maxLen)
  (hcl:Clean w v) (hm8:∀ u∈m.flatMap f,∀ x,u≠.int .u8 x) (hz8:∀ u∈z.cells.toList,∀ x,u≠.int .u8 x)
  (h:∀ v' w',OwnOf f size e w' B v' (l++m)→w.grownBy w' v.ownBlock→(∀ k,v'.ownBlock=some k→v.ownBlock=some k∨w.heap.size≤k)→Clean w' v'→wpList P ops Q rest (a.put o.dst v') w'):wpList P ops Q (o::rest) a w:=by
 refine wpList_plain hgd fun K hK=>?_
 have hn:=hrow.fits.1
 have hc:∀ j u,(m.flatMap f)[j]?=some u→w.cell? ⟨b,off+j,none⟩=some u:=by
  obtain ⟨_,a',c',hv,_,_,h3⟩:=hrow
  simp only [Value.slice.injEq] at hv
  obtain ⟨rfl,_,rfl⟩:=hv
  rcases h3 with ⟨h4,_⟩|⟨b',off',s',he,_,hcc⟩
  ·cases h4
  ·simp only [Option.some.injEq,Addr.mk.injEq] at he
   obtain ⟨rfl,rfl,_⟩:=he
   exact hcc
 obtain ⟨v',w',hr,h2,h3,h4,h5⟩:=run_appD (P:=P) (w:=w) t o.type el h1 hown (c:=c) hn.symm h0 hc hB hbytes h63 hcl hm8 hz8
 unfold Oper.wp execOp
 simp only [ho,resolve,invoke,builtin,Sem.run_bind,Sem.run_pure,Result.andThen_ok,List.map_toArray,List.map_cons,List.map_nil,hs,hx,hr]
 exact hK _ _ (h v' w' h2 h3 h4 h5)
inductive KdIn (P:Nat→Prop):Nd→Prop where
 | mk (kd:Int) (pv:Value) (p:List UInt8) (vv:Value) (v:List UInt8) (kv:Value) (ks:List Nd) (ok:∀ k,kv.ownBlock=some k→P k) (h:∀ k∈ks,KdIn P k):KdIn P (.mk kd pv p vv v kv ks)
theorem KdIn.mono {P Q:Nat→Prop} {t:Nd} (h:KdIn P t) (hPQ:∀ k,P k→Q k):KdIn Q t:=by
 induction h with
 | mk kd pv p vv v kv ks ok _ ih=>exact .mk kd pv p vv v kv ks (fun k hk=>hPQ k (ok k hk)) ih
theorem KdIn.zero (P:Nat→Prop):KdIn P zN:=.mk 0 _ [] _ [] _ [] (fun k hk=>by simp [Value.ownBlock] at hk) (by simp)
theorem Bytes.offC {w w':World} {v:Value} {l:List UInt8} {row:Option Nat} (h:Bytes w v l) (hg:w.grownBy w' row) (hcl:∀ k,row=some k→∀ i u,w.cell? ⟨k,i,none⟩=some u→∀ x,u≠.int .u8 x):Bytes w' v l:=by
 obtain ⟨a,c,rfl,_⟩:=RowOf.form h
 obtain ⟨h0,a',c',hv,h1,h2,h3⟩:=h
 simp only [Value.slice.injEq] at hv
 obtain ⟨rfl,_,rfl⟩:=hv
 refine ⟨h0,_,_,rfl,h1,h2,?_⟩
 rcases h3 with h3|⟨b,off,s,rfl,hs,hc⟩
 ·exact .inl h3
 ·refine .inr ⟨b,off,s,rfl,hs,fun j u hu=>?_⟩
  have hcc:=hc j u hu
  refine hg.cell hcc (fun e=>?_)
  rw [flat_b8,List.getElem?_map] at hu
  cases hl:l[j]? with
  | none=>rw [hl] at hu;simp at hu
  | some x =>
   rw [hl] at hu
   simp only [Option.map_some,Option.some.injEq] at hu
   exact hcl b e.symm _ u hcc _ hu.symm
theorem IsNd.offK {w w':World} {t:Nd} {row:Option Nat} (h:IsNd w t) (hk:KdIn (fun k=>row≠some k∧k<w.heap.size) t) (hg:w.grownBy w' row) (hcl:∀ k,row=some k→∀ i u,w.cell? ⟨k,i,none⟩=some u→∀ x,u≠.int .u8 x):IsNd w' t:=by
 induction h with
 | mk kd pv p vv v kv ks hp hv hrow h ih =>
  cases hk with
  | mk _ _ _ _ _ _ _ ok hks =>
   exact .mk kd pv p vv v kv ks (Bytes.offC hp hg hcl) (Bytes.offC hv hg hcl) (RowOf.grownT hrow hg (fun x hx=>(ok x hx).2) (fun x hx=>(ok x hx).1)) (fun k hk2=>ih k hk2 (hks k hk2))
theorem Clean.cells {w:World} {v:Value} (h:Clean w v):∀ k,v.ownBlock=some k→∀ i u,w.cell? ⟨k,i,none⟩=some u→∀ x,u≠.int .u8 x:=fun k hk i u hu x=>by
 unfold World.cell? at hu
 split at hu
 ·rename_i cs e fz hh
  exact h k hk cs e fz hh u (by
   have:=List.mem_of_getElem? (l:=cs.toList) (i:=i) (a:=u) (by simpa using hu)
   exact this) x
 ·cases hu
theorem Blk.cells8 {w:World} {e:TypeId} {z:Nat} {cs:List Value} (hz:Blk e w z cs) (hno:∀ u∈cs,∀ k,u≠.int .u8 k):∀ k,some z=some k→∀ i u,w.cell? ⟨k,i,none⟩=some u→∀ x,u≠.int .u8 x:=fun k hk i u hu=>by
 cases hk
 rw [hz.cell] at hu
 exact hno u (List.mem_of_getElem? hu)
end Go.Proofs.Ytakhaanenlblmaa
