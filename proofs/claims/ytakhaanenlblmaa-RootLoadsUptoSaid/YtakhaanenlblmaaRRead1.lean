/- Reading a shape: by trying, and outright: plain Lean. -/
import Derived.Test.YtakhaanenlblmaaRootA
import Derived.Test.YtakhaanenlblmaaKid0
set_option linter.unusedSimpArgs false
set_option linter.unusedVariables false
namespace Go.Proofs.Ytakhaanenlblmaa
open Go.RowKit
theorem un_tag (b:List UInt8) (h:unE b=0):joinR (tagL (unP b) (unLeaf b))=b∧wrongB (unP b)=false:=by
 have hne:unAt b≠0:=fun e=>by unfold unE at h;rw [if_pos e] at h;simp at h
 by_cases hb:b=[]
 ·subst hb;exact absurd rfl hne
 ·obtain ⟨x,y,r,e,hr,hx,hy⟩:=halves_two b hb
  have key:∃ k,unAt b=k∧hits b k (unLeaf b)=true:=by
   have hu:unAt b=if 3<x.toNat then 0 else if x.toNat % 2=1 then 1 else if y.toNat=0 then 2 else 0:=by unfold unAt;rw [e]
   have hl:unLeaf b=(unAt b != 0 && decide (2≤x.toNat)):=by unfold unLeaf;rw [e]
   by_cases h3:3<x.toNat
   ·rw [if_pos h3] at hu;exact absurd hu hne
   ·rw [if_neg h3] at hu
    by_cases h1:x.toNat % 2=1
    ·rw [if_pos h1] at hu
     refine ⟨1,hu,?_⟩
     rw [hits_one b _ x y r e hr,hl,hu,decide_eq_true_eq]
     rcases (by omega:x.toNat=1∨x.toNat=3) with hh|hh <;> rw [hh] <;> rfl
    ·rw [if_neg h1] at hu
     by_cases h0:y.toNat=0
     ·rw [if_pos h0] at hu
      refine ⟨2,hu,?_⟩
      rw [hits_two b _ x y r e hr,hl,hu,decide_eq_true_eq]
      rcases (by omega:x.toNat=0∨x.toNat=2) with hh|hh <;> rw [hh] <;> exact ⟨rfl,h0⟩
     ·rw [if_neg h0] at hu;exact absurd hu hne
  obtain ⟨k,hk,hh⟩:=key
  have hp:unP b=(halvesL b).drop k:=by unfold unP;rw [if_neg hne,hk]
  have ht:=(hits_iff b k (unLeaf b)).1 hh
  have hw:wrongB (halvesL b)=false:=by
   have:joinOk (halvesL b)=true:=by
    cases hj:joinOk (halvesL b) with
    | true=>rfl
    | false=>exact absurd (by rw [join_halves]) (halves_join_not (halvesL b) hj)
   unfold joinOk at this
   simp at this
   exact this.2
  have hok:joinOk (halvesL b)=true:=by unfold joinOk;rw [hw,halves_len];simp
  refine ⟨?_,?_⟩
  ·rw [hp,ht,(join_yes hok).2,join_halves]
  ·rw [hp]
   have e2:halvesL b=(halvesL b).take k++(halvesL b).drop k:=(List.take_append_drop _ _).symm
   rw [e2,wrong_app] at hw
   simp at hw
   exact hw.2
theorem un_not (b:List UInt8) (h:unE b≠0):unP b=[]∧unLeaf b=false:=by
 have h0:unAt b=0:=by
  by_cases hh:unAt b=0
  ·exact hh
  ·exact absurd (by unfold unE;rw [if_neg hh]) h
 refine ⟨by unfold unP;rw [if_pos h0],?_⟩
 unfold unLeaf
 split
 ·rw [h0];rfl
 ·rfl
abbrev Shq:=Int × List UInt8 × List UInt8 × List (List UInt8)
def okQ (s:Shq):Bool:=shOk s.1 s.2.1 s.2.2.1 s.2.2.2
def bQ (s:Shq):List UInt8:=shB s.1 s.2.1 s.2.2.1 s.2.2.2
def itQ (s:Shq):Pit :=
 if s.1=0 then .txt []
 else if s.1=1 then .lst [.txt (joinR (tagL s.2.1 true)),.txt s.2.2.1]
 else if s.1=2 then .lst [.txt (joinR (tagL s.2.1 false)),.txt (s.2.2.2[0]?.getD [])]
 else .lst ((s.2.2.2++[s.2.2.1]).map .txt)
theorem encPL_txts (ts:List (List UInt8)):encPL (ts.map .txt)=ts.flatMap textB:=by
 induction ts with
 | nil=>simp [encPL]
 | cons t ts ih=>rw [List.map_cons,encPL,encP,ih,List.flatMap_cons]
theorem encP_txts (ts:List (List UInt8)):encP (.lst (ts.map .txt))=lsB ts:=by rw [encP,encPL_txts];rfl
theorem bQ_enc (s:Shq):bQ s=encP (itQ s):=by
 unfold bQ shB itQ
 by_cases h0:s.1=0
 ·rw [if_pos h0,if_pos h0,encP]
 ·rw [if_neg h0,if_neg h0]
  by_cases h1:s.1=1
  ·rw [if_pos h1,if_pos h1,← encP_txts];rfl
  ·rw [if_neg h1,if_neg h1]
   by_cases h2:s.1=2
   ·rw [if_pos h2,if_pos h2,← encP_txts];rfl
   ·rw [if_neg h2,if_neg h2,← encP_txts]
def allT:List Pit→Option (List (List UInt8))
 | []=>some []
 | .txt t::ks=>(allT ks).map (t::·)
 | .lst _::_=>none
theorem allT_some:∀ {ks:List Pit} {ts:List (List UInt8)},allT ks=some ts→ks=ts.map .txt
 | [],ts,h=>by simp [allT] at h;subst h;rfl
 | .txt t::ks,ts,h=>by
  simp only [allT,Option.map_eq_some_iff] at h
  obtain ⟨us,h1,rfl⟩:=h
  rw [allT_some h1];rfl
 | .lst _::_,ts,h=>by simp [allT] at h
theorem allT_map (ts:List (List UInt8)):allT (ts.map .txt)=some ts:=by
 induction ts with
 | nil=>rfl
 | cons t ts ih=>simp [allT,ih]
theorem allT_none {ks:List Pit} (h:allT ks=none) (ts:List (List UInt8)):ks≠ts.map .txt:=fun e=>by rw [e,allT_map] at h;simp at h
def shpP:Pit→Option Shq
 | .txt t=>if t=[] then some (0,[],[],[]) else none
 | .lst ks=>match allT ks with
  | none=>none
  | some ts =>
   if ts.length=17 then some (3,[],ts[16]?.getD [],ts.take 16)
   else if ts.length=2 then
    if unE (ts[0]?.getD [])=0 then
     if unLeaf (ts[0]?.getD [])=true then some (1,unP (ts[0]?.getD []),ts[1]?.getD [],[]) else some (2,unP (ts[0]?.getD []),[],ts.drop 1)
    else none
   else none
def rdB (b:List UInt8):Option Shq:=match dec b with
 | none=>none
 | some p=>match shpP p with
  | none=>none
  | some s=>if okQ s=true then some s else none
def triesL (l:List (List UInt8)):List Shq :=
 (0,[],[],[])::((if l.length=2 then (if unLeaf (l[0]?.getD [])=true then [(1,unP (l[0]?.getD []),l[1]?.getD [],[])] else [(2,unP (l[0]?.getD []),[],l.drop 1)]) else [])
  ++ (if l.length=17 then [(3,[],l[16]?.getD [],l.take 16)] else []))
def hrd (l:List (List UInt8)) (b:List UInt8):Option Shq:=(triesL l).find? (fun s=>okQ s && decide (bQ s=b))
theorem kids_all {ks:List Pit} {ts l:List (List UInt8)} (h:allT ks=some ts) (hk:KidsOf (.lst ks) l):l=ts:=by
 have e:=allT_some h
 subst e
 obtain ⟨h1,h2⟩:=hk
 rw [List.length_map] at h1
 apply List.ext_getElem?
 intro i
 by_cases hi:i<ts.length
 ·rw [h2 i ts[i] (by rw [List.getElem?_map,List.getElem?_eq_getElem hi];rfl),List.getElem?_eq_getElem hi]
 ·rw [List.getElem?_eq_none (by omega),List.getElem?_eq_none (by omega)]
theorem itQ_fork (v:List UInt8) (ks:List (List UInt8)):itQ (3,[],v,ks)=.lst ((ks++[v]).map .txt):=by unfold itQ;simp
theorem itQ_lst (s:Shq) (h:s.1≠0):∃ ts:List (List UInt8),itQ s=.lst (ts.map .txt):=by
 unfold itQ
 rw [if_neg h]
 split
 ·exact ⟨[_,_],rfl⟩
 ·split
  ·exact ⟨[_,_],rfl⟩
  ·exact ⟨_,rfl⟩
theorem tries_kind (l:List (List UInt8)):∀ s∈triesL l,s=(0,[],[],[])∨s.1≠0:=by
 intro s hs
 unfold triesL at hs
 rcases List.mem_cons.1 hs with h|h
 ·exact .inl h
 ·right
  rcases List.mem_append.1 h with h|h
  ·split at h
   ·split at h <;> (rw [List.mem_singleton] at h;rw [h];simp)
   ·simp at h
  ·split at h
   ·rw [List.mem_singleton] at h;rw [h];simp
   ·simp at h
theorem hrd_rd (b:List UInt8) (p:Pit) (l:List (List UInt8)) (hd:dec b=some p) (hb:b.length≤1048576) (hk:KidsOf p l):hrd l b=rdB b:=by
 have hbe:=dec_back hd
 have hiff:∀ s,(bQ s=b) ↔ itQ s=p:=fun s=>by
  rw [bQ_enc,hbe]
  constructor
  ·intro e;exact (encP_inj (by rw [← hbe];omega) e.symm).symm
  ·intro e;rw [e]
 have hnone:(∀ s∈triesL l,okQ s=true→itQ s≠p)→hrd l b=none:=fun h=>by
  unfold hrd
  rw [List.find?_eq_none]
  intro s hs
  simp only [Bool.and_eq_true,decide_eq_true_eq,not_and]
  intro ho e
  exact h s hs ho ((hiff s).1 e)
 have hr:rdB b=match shpP p with
   | none=>none
   | some s=>if okQ s=true then some s else none:=by
  unfold rdB;rw [hd]
  all_goals rfl
 rw [hr]
 cases p with
 | txt t =>
  by_cases ht:t=[]
  ·subst ht
   have h1:bQ (0,[],[],[])=b:=(hiff _).2 rfl
   have h2:okQ (0,[],[],[])=true:=rfl
   have e:shpP (.txt [])=some (0,[],[],[]):=rfl
   rw [e]
   dsimp only
   rw [if_pos h2]
   unfold hrd triesL
   rw [List.find?_cons_of_pos (by simp [h1,h2])]
  ·have e:shpP (.txt t)=none:=by simp [shpP,ht]
   rw [e]
   apply hnone
   intro s hs _ he
   rcases tries_kind l s hs with h|h
   ·rw [h] at he
    have:itQ (0,[],[],[])=.txt []:=rfl
    rw [this] at he
    simp only [Pit.txt.injEq] at he
    exact ht he.symm
   ·obtain ⟨ts,h2⟩:=itQ_lst s h
    rw [h2] at he;simp at he
 | lst ks =>
  have hzero:itQ (0,[],[],[])≠.lst ks:=by simp [itQ]
  cases ha:allT ks with
  | none =>
   have e:shpP (.lst ks)=none:=by simp only [shpP,ha]
   rw [e]
   apply hnone
   intro s hs _ he
   rcases tries_kind l s hs with h|h
   ·rw [h] at he;exact hzero he
   ·obtain ⟨ts,h2⟩:=itQ_lst s h
    rw [h2] at he
    simp only [Pit.lst.injEq] at he
    exact allT_none ha ts he.symm
  | some ts =>
   obtain rfl:=kids_all ha hk
   have hks:=allT_some ha
   have hz:(okQ (0,[],[],[]) && decide (bQ (0,[],[],[])=b))=false:=by
    rw [decide_eq_false (fun e=>hzero ((hiff _).1 e)),Bool.and_false]
   have hone:∀ s:Shq,itQ s=.lst ks→(triesL l=[(0,[],[],[]),s])→hrd l b=if okQ s=true then some s else none:=fun s h1 h2=>by
    unfold hrd
    rw [h2,List.find?_cons_of_neg (by rw [hz];simp)]
    have h3:bQ s=b:=(hiff s).2 h1
    by_cases ho:okQ s=true
    ·rw [if_pos ho,List.find?_cons_of_pos (by simp [ho,h3])]
    ·rw [if_neg ho,List.find?_cons_of_neg (by simp [ho])];rfl
   have e:shpP (.lst ks)=if l.length=17 then some (3,[],l[16]?.getD [],l.take 16)
     else if l.length=2 then
      if unE (l[0]?.getD [])=0 then
       if unLeaf (l[0]?.getD [])=true then some (1,unP (l[0]?.getD []),l[1]?.getD [],[]) else some (2,unP (l[0]?.getD []),[],l.drop 1)
      else none
     else none:=by simp only [shpP,ha]
   rw [e]
   by_cases h17:l.length=17
   ·rw [if_pos h17]
    dsimp only
    apply hone
    ·rw [itQ_fork,hks]
     congr 2
     have h16:l[16]?=some (l[16]'(by omega)):=List.getElem?_eq_getElem (by omega)
     rw [h16]
     have:=List.take_succ_eq_append_getElem (l:=l) (i:=16) (by omega)
     rw [Option.getD_some,← this]
     exact List.take_of_length_le (by omega)
    ·unfold triesL
     rw [if_neg (by omega),if_pos h17];rfl
   ·rw [if_neg h17]
    by_cases h2:l.length=2
    ·rw [if_pos h2]
     obtain ⟨x,y,rfl⟩:∃ x y,l=[x,y]:=by
      match l,h2 with
      | [x,y],_=>exact ⟨x,y,rfl⟩
     simp only [List.getElem?_cons_zero,List.getElem?_cons_succ,Option.getD_some,List.drop_succ_cons,List.drop_zero]
     by_cases hu:unE x=0
     ·obtain ⟨htag,_⟩:=un_tag x hu
      rw [if_pos hu]
      by_cases hl:unLeaf x=true
      ·rw [if_pos hl]
       dsimp only
       rw [hl] at htag
       apply hone
       ·rw [hks];unfold itQ;simp [htag]
       ·unfold triesL;simp [hl]
      ·rw [if_neg hl]
       dsimp only
       have hl':unLeaf x=false:=by simpa using hl
       rw [hl'] at htag
       apply hone
       ·rw [hks];unfold itQ;simp [htag]
       ·unfold triesL;simp [hl']
     ·rw [if_neg hu]
      dsimp only
      obtain ⟨hp,hl⟩:=un_not x hu
      apply hnone
      intro s hs ho _
      have ht:triesL [x,y]=[(0,[],[],[]),(2,[],[],[y])]:=by unfold triesL;simp [hl,hp]
      rw [ht] at hs
      simp only [List.mem_cons,List.not_mem_nil,or_false] at hs
      rcases hs with rfl|rfl
      ·exact absurd ((by assumption:itQ (0,[],[],[])=.lst ks)) hzero
      ·simp [okQ,shOk] at ho
    ·rw [if_neg h2]
     dsimp only
     apply hnone
     intro s hs _ he
     have ht:triesL l=[(0,[],[],[])]:=by unfold triesL;rw [if_neg h2,if_neg h17];rfl
     rw [ht,List.mem_singleton] at hs
     rw [hs] at he;exact hzero he
end Go.Proofs.Ytakhaanenlblmaa
