/- Reading a shape: by trying, and outright: plain Lean. | root.shape. -/
import Derived.Test.YtcgpjceopnfahaaGreatWorldChecksK13
import Derived.Test.YtcgpjceopnfahaaGreatWorldChecksK22
set_option linter.unusedSimpArgs false
set_option linter.unusedVariables false
set_option maxHeartbeats 4000000
set_option maxRecDepth 100000
namespace Go.Proofs.YtcgpjceopnfahaaGreat
open Go.RowKit
theorem un_tag (b:List UInt8)(h:unE b=0):joinR (tagL (unP b) (unLeaf b))=b∧wrongB (unP b)=false:=by
 have hne:unAt b≠0:=fun e=>by unfold unE at h;rw [if_pos e] at h;simp at h
 by_cases hb:b=[]
 ·subst hb;exact absurd rfl hne
 ·obtain ⟨x,y,r,e,hr,hx,hy⟩:=halves_two b hb
  have key:∃ k,unAt b=k∧hits b k (unLeaf b)=true:=by
   have hu:unAt b=if 3<x.toNat then 0 else if x.toNat % 2=1 then 1 else if y.toNat=0 then 2 else 0:=by unfold unAt;rw [e]
   have hl:unLeaf b=(unAt b != 0&&decide (2≤x.toNat)):=by unfold unLeaf;rw [e]
   by_cases h3:3<x.toNat
   ·rw [if_pos h3] at hu;exact absurd hu hne
   ·rw [if_neg h3] at hu
    by_cases h1:x.toNat % 2=1
    ·rw [if_pos h1] at hu
     refine ⟨1,hu,?_⟩
     rw [hits_one b _ x y r e hr,hl,hu,decide_eq_true_eq]
     rcases (by omega:x.toNat=1∨x.toNat=3) with hh|hh<;>rw [hh]<;>rfl
    ·rw [if_neg h1] at hu
     by_cases h0:y.toNat=0
     ·rw [if_pos h0] at hu
      refine ⟨2,hu,?_⟩
      rw [hits_two b _ x y r e hr,hl,hu,decide_eq_true_eq]
      rcases (by omega:x.toNat=0∨x.toNat=2) with hh|hh<;>rw [hh]<;>exact ⟨rfl,h0⟩
     ·rw [if_neg h0] at hu;exact absurd hu hne
  obtain ⟨k,hk,hh⟩:=key
  have hp:unP b=(halvesL b).drop k:=by unfold unP;rw [if_neg hne,hk]
  have ht:=(hits_iff b k (unLeaf b)).1 hh
  have hw:wrongB (halvesL b)=false:=by
   have:joinOk (halvesL b)=true:=by
    cases hj:joinOk (halvesL b) with
    | true=>rfl
    | false=>exact absurd (by rw [join_halves]) (halves_join_not (halvesL b) hj)
   unfold joinOk at this
   simp at this
   exact this.2
  have hok:joinOk (halvesL b)=true:=by unfold joinOk;rw [hw,halves_len];simp
  refine ⟨?_,?_⟩
  ·rw [hp,ht,(join_yes hok).2,join_halves]
  ·rw [hp]
   have e2:halvesL b=(halvesL b).take k++(halvesL b).drop k:=(List.take_append_drop _ _).symm
   rw [e2,wrong_app] at hw
   simp at hw
   exact hw.2
theorem un_not (b:List UInt8)(h:unE b≠0):unP b=[]∧unLeaf b=false:=by
 have h0:unAt b=0:=by
  by_cases hh:unAt b=0
  ·exact hh
  ·exact absurd (by unfold unE;rw [if_neg hh]) h
 refine ⟨by unfold unP;rw [if_pos h0],?_⟩
 unfold unLeaf
 split
 ·rw [h0];rfl
 ·rfl
abbrev Shq:=Int × List UInt8 × List UInt8 × List (List UInt8)
def okQ (s:Shq):Bool:=shOk s.1 s.2.1 s.2.2.1 s.2.2.2
def bQ (s:Shq):List UInt8:=shB s.1 s.2.1 s.2.2.1 s.2.2.2
def itQ (s:Shq):Pit :=
 if s.1=0 then .txt []
 else if s.1=1 then .lst [.txt (joinR (tagL s.2.1 true)),.txt s.2.2.1]
 else if s.1=2 then .lst [.txt (joinR (tagL s.2.1 false)),.txt (s.2.2.2[0]?.getD [])]
 else .lst ((s.2.2.2++[s.2.2.1]).map .txt)
theorem encPL_txts (ts:List (List UInt8)):encPL (ts.map .txt)=ts.flatMap textB:=by
 induction ts with
 | nil=>simp [encPL]
 | cons t ts ih=>rw [List.map_cons,encPL,encP,ih,List.flatMap_cons]
theorem encP_txts (ts:List (List UInt8)):encP (.lst (ts.map .txt))=lsB ts:=by rw [encP,encPL_txts];rfl
theorem bQ_enc (s:Shq):bQ s=encP (itQ s):=by
 unfold bQ shB itQ
 by_cases h0:s.1=0
 ·rw [if_pos h0,if_pos h0,encP]
 ·rw [if_neg h0,if_neg h0]
  by_cases h1:s.1=1
  ·rw [if_pos h1,if_pos h1,←encP_txts];rfl
  ·rw [if_neg h1,if_neg h1]
   by_cases h2:s.1=2
   ·rw [if_pos h2,if_pos h2,←encP_txts];rfl
   ·rw [if_neg h2,if_neg h2,←encP_txts]
def allT:List Pit→Option (List (List UInt8))
 | []=>some []
 | .txt t::ks=>(allT ks).map (t::·)
 | .lst _::_=>none
theorem allT_some:∀ {ks:List Pit}{ts:List (List UInt8)},allT ks=some ts→ks=ts.map .txt
 | [],ts,h=>by simp [allT] at h;subst h;rfl
 | .txt t::ks,ts,h=>by
  simp only [allT,Option.map_eq_some_iff] at h
  obtain ⟨us,h1,rfl⟩:=h
  rw [allT_some h1];rfl
 | .lst _::_,ts,h=>by simp [allT] at h
theorem allT_map (ts:List (List UInt8)):allT (ts.map .txt)=some ts:=by
 induction ts with
 | nil=>rfl
 | cons t ts ih=>simp [allT,ih]
theorem allT_none {ks:List Pit}(h:allT ks=none)(ts:List (List UInt8)):ks≠ts.map .txt:=fun e=>by rw [e,allT_map] at h;simp at h
def shpP:Pit→Option Shq
 | .txt t=>if t=[] then some (0,[],[],[]) else none
 | .lst ks=>match allT ks with
  | none=>none
  | some ts =>
   if ts.length=17 then some (3,[],ts[16]?.getD [],ts.take 16)
   else if ts.length=2 then
    if unE (ts[0]?.getD [])=0 then
     if unLeaf (ts[0]?.getD [])=true then some (1,unP (ts[0]?.getD []),ts[1]?.getD [],[]) else some (2,unP (ts[0]?.getD []),[],ts.drop 1)
    else none
   else none
def rdB (b:List UInt8):Option Shq:=match dec b with
 | none=>none
 | some p=>match shpP p with
  | none=>none
  | some s=>if okQ s=true then some s else none
def triesL (l:List (List UInt8)):List Shq :=
 (0,[],[],[])::((if l.length=2 then (if unLeaf (l[0]?.getD [])=true then [(1,unP (l[0]?.getD []),l[1]?.getD [],[])] else [(2,unP (l[0]?.getD []),[],l.drop 1)]) else [])
  ++ (if l.length=17 then [(3,[],l[16]?.getD [],l.take 16)] else []))
def hrd (l:List (List UInt8))(b:List UInt8):Option Shq:=(triesL l).find? (fun s=>okQ s && decide (bQ s=b))
theorem kids_all {ks:List Pit}{ts l:List (List UInt8)}(h:allT ks=some ts)(hk:KidsOf (.lst ks) l):l=ts:=by
 have e:=allT_some h
 subst e
 obtain ⟨h1,h2⟩:=hk
 rw [List.length_map] at h1
 apply List.ext_getElem?
 intro i
 by_cases hi:i<ts.length
 ·rw [h2 i ts[i] (by rw [List.getElem?_map,List.getElem?_eq_getElem hi];rfl),List.getElem?_eq_getElem hi]
 ·rw [List.getElem?_eq_none (by omega),List.getElem?_eq_none (by omega)]
theorem itQ_fork (v:List UInt8)(ks:List (List UInt8)):itQ (3,[],v,ks)=.lst ((ks++[v]).map .txt):=by unfold itQ;simp
theorem itQ_lst (s:Shq)(h:s.1≠0):∃ ts:List (List UInt8),itQ s=.lst (ts.map .txt):=by
 unfold itQ
 rw [if_neg h]
 split
 ·exact ⟨[_,_],rfl⟩
 ·split
  ·exact ⟨[_,_],rfl⟩
  ·exact ⟨_,rfl⟩
theorem tries_kind (l:List (List UInt8)):∀ s∈triesL l,s=(0,[],[],[])∨s.1≠0:=by
 intro s hs
 unfold triesL at hs
 rcases List.mem_cons.1 hs with h|h
 ·exact .inl h
 ·right
  rcases List.mem_append.1 h with h|h
  ·split at h
   ·split at h<;>(rw [List.mem_singleton] at h;rw [h];simp)
   ·simp at h
  ·split at h
   ·rw [List.mem_singleton] at h;rw [h];simp
   ·simp at h
theorem hrd_rd (b:List UInt8)(p:Pit)(l:List (List UInt8))(hd:dec b=some p)(hb:b.length≤1048576)(hk:KidsOf p l):hrd l b=rdB b:=by
 have hbe:=dec_back hd
 have hiff:∀ s,(bQ s=b)↔itQ s=p:=fun s=>by
  rw [bQ_enc,hbe]
  constructor
  ·intro e;exact (encP_inj (by rw [←hbe];omega) e.symm).symm
  ·intro e;rw [e]
 have hnone:(∀ s∈triesL l,okQ s=true→itQ s≠p)→hrd l b=none:=fun h=>by
  unfold hrd
  rw [List.find?_eq_none]
  intro s hs
  simp only [Bool.and_eq_true,decide_eq_true_eq,not_and]
  intro ho e
  exact h s hs ho ((hiff s).1 e)
 have hr:rdB b=match shpP p with
   | none=>none
   | some s=>if okQ s=true then some s else none:=by
  unfold rdB;rw [hd]
  all_goals rfl
 rw [hr]
 cases p with
 | txt t =>
  by_cases ht:t=[]
  ·subst ht
   have h1:bQ (0,[],[],[])=b:=(hiff _).2 rfl
   have h2:okQ (0,[],[],[])=true:=rfl
   have e:shpP (.txt [])=some (0,[],[],[]):=rfl
   rw [e]
   dsimp only
   rw [if_pos h2]
   unfold hrd triesL
   rw [List.find?_cons_of_pos (by simp [h1,h2])]
  ·have e:shpP (.txt t)=none:=by simp [shpP,ht]
   rw [e]
   apply hnone
   intro s hs _ he
   rcases tries_kind l s hs with h|h
   ·rw [h] at he
    have:itQ (0,[],[],[])=.txt []:=rfl
    rw [this] at he
    simp only [Pit.txt.injEq] at he
    exact ht he.symm
   ·obtain ⟨ts,h2⟩:=itQ_lst s h
    rw [h2] at he;simp at he
 | lst ks =>
  have hzero:itQ (0,[],[],[])≠.lst ks:=by simp [itQ]
  cases ha:allT ks with
  | none =>
   have e:shpP (.lst ks)=none:=by simp only [shpP,ha]
   rw [e]
   apply hnone
   intro s hs _ he
   rcases tries_kind l s hs with h|h
   ·rw [h] at he;exact hzero he
   ·obtain ⟨ts,h2⟩:=itQ_lst s h
    rw [h2] at he
    simp only [Pit.lst.injEq] at he
    exact allT_none ha ts he.symm
  | some ts =>
   obtain rfl:=kids_all ha hk
   have hks:=allT_some ha
   have hz:(okQ (0,[],[],[])&&decide (bQ (0,[],[],[])=b))=false:=by
    rw [decide_eq_false (fun e=>hzero ((hiff _).1 e)),Bool.and_false]
   have hone:∀ s:Shq,itQ s=.lst ks→(triesL l=[(0,[],[],[]),s])→hrd l b=if okQ s=true then some s else none:=fun s h1 h2=>by
    unfold hrd
    rw [h2,List.find?_cons_of_neg (by rw [hz];simp)]
    have h3:bQ s=b:=(hiff s).2 h1
    by_cases ho:okQ s=true
    ·rw [if_pos ho,List.find?_cons_of_pos (by simp [ho,h3])]
    ·rw [if_neg ho,List.find?_cons_of_neg (by simp [ho])];rfl
   have e:shpP (.lst ks)=if l.length=17 then some (3,[],l[16]?.getD [],l.take 16)
     else if l.length=2 then
      if unE (l[0]?.getD [])=0 then
       if unLeaf (l[0]?.getD [])=true then some (1,unP (l[0]?.getD []),l[1]?.getD [],[]) else some (2,unP (l[0]?.getD []),[],l.drop 1)
      else none
     else none:=by simp only [shpP,ha]
   rw [e]
   by_cases h17:l.length=17
   ·rw [if_pos h17]
    dsimp only
    apply hone
    ·rw [itQ_fork,hks]
     congr 2
     have h16:l[16]?=some (l[16]'(by omega)):=List.getElem?_eq_getElem (by omega)
     rw [h16]
     have:=List.take_succ_eq_append_getElem (l:=l) (i:=16) (by omega)
     rw [Option.getD_some,←this]
     exact List.take_of_length_le (by omega)
    ·unfold triesL
     rw [if_neg (by omega),if_pos h17];rfl
   ·rw [if_neg h17]
    by_cases h2:l.length=2
    ·rw [if_pos h2]
     obtain ⟨x,y,rfl⟩:∃ x y,l=[x,y]:=by
      match l,h2 with
      | [x,y],_=>exact ⟨x,y,rfl⟩
     simp only [List.getElem?_cons_zero,List.getElem?_cons_succ,Option.getD_some,List.drop_succ_cons,List.drop_zero]
     by_cases hu:unE x=0
     ·obtain ⟨htag,_⟩:=un_tag x hu
      rw [if_pos hu]
      by_cases hl:unLeaf x=true
      ·rw [if_pos hl]
       dsimp only
       rw [hl] at htag
       apply hone
       ·rw [hks];unfold itQ;simp [htag]
       ·unfold triesL;simp [hl]
      ·rw [if_neg hl]
       dsimp only
       have hl':unLeaf x=false:=by simpa using hl
       rw [hl'] at htag
       apply hone
       ·rw [hks];unfold itQ;simp [htag]
       ·unfold triesL;simp [hl']
     ·rw [if_neg hu]
      dsimp only
      obtain ⟨hp,hl⟩:=un_not x hu
      apply hnone
      intro s hs ho _
      have ht:triesL [x,y]=[(0,[],[],[]),(2,[],[],[y])]:=by unfold triesL;simp [hl,hp]
      rw [ht] at hs
      simp only [List.mem_cons,List.not_mem_nil,or_false] at hs
      rcases hs with rfl|rfl
      ·exact absurd ((by assumption:itQ (0,[],[],[])=.lst ks)) hzero
      ·simp [okQ,shOk] at ho
    ·rw [if_neg h2]
     dsimp only
     apply hnone
     intro s hs _ he
     have ht:triesL l=[(0,[],[],[])]:=by unfold triesL;rw [if_neg h2,if_neg h17];rfl
     rw [ht,List.mem_singleton] at hs
     rw [hs] at he;exact hzero he
theorem allT_lst:∀ {ks:List Itm}{i:Nat}{k:Itm},ks[i]?=some k→itl k=true→allT (ks.map erI)=none
 | [],i,k,h,_=>by simp at h
 | x::ks,0,k,h,hl=>by
  simp only [List.getElem?_cons_zero,Option.some.injEq] at h
  subst h
  cases x with
  | mk l tv t kv ks' =>
   have:l=true:=hl
   subst this
   rw [List.map_cons,erI_mk];rfl
 | x::ks,i+1,k,h,hl=>by
  simp only [List.getElem?_cons_succ] at h
  have ih:=allT_lst h hl
  rw [List.map_cons]
  cases hx:erI x with
  | txt t=>simp [allT,ih]
  | lst l=>rfl
theorem allT_texts:∀ {ks:List Itm},(∀ (i:Nat) (k:Itm),ks[i]?=some k→itl k=false)→allT (ks.map erI)=some (ks.map itt)
 | [],_=>rfl
 | x::ks,h=>by
  rw [List.map_cons,erI_text (h 0 x rfl)]
  simp only [allT,allT_texts (fun i k hk=>h (i+1) k hk),Option.map_some,List.map_cons]
def ShPost (o:Option Shq)(w:World)(e:Ending)(w':World):Prop :=
 Below w.heap.size w w'∧match o with
 | none=>∃ (kd:Int) (pa:Option Addr) (pn pc:Nat) (va:Option Addr) (vn vc:Nat) (ka:Option Addr) (kn kc:Nat),e=.returned (.tuple #[.agg #[.int .i64 kd,.slice pa pn pc,.slice va vn vc,.slice ka kn kc],.bool false])
 | some s=>∃ (pa:Option Addr) (pc:Nat) (va:Option Addr) (vc:Nat) (ka:Option Addr) (kc:Nat) (ps:List (Value × List UInt8)),e=.returned (.tuple #[.agg #[.int .i64 s.1,.slice pa s.2.1.length pc,.slice va s.2.2.1.length vc,.slice ka s.2.2.2.length kc],.bool true]) ∧
   Bytes w' (.slice pa s.2.1.length pc) s.2.1∧Bytes w' (.slice va s.2.2.1.length vc) s.2.2.1∧Texts w' (.slice ka s.2.2.2.length kc) ps∧ps.map (·.2)=s.2.2.2∧∀ x,(Value.slice ka s.2.2.2.length kc).ownBlock=some x→w.heap.size≤x
def zsh:List Value:=[.int .i64 0,.slice none 0 0,.slice none 0 0,.slice none 0 0]
structure ShW (w:World)(box cs:List Value)(u:World):Prop where
 hb:Below w.heap.size w u
 hx:Blk 77 u w.heap.size box
 hz:Blk 133 u (w.heap.size+1) cs
theorem ShW.kept {w u u':World}{box cs:List Value}(h:ShW w box cs u)(hb:Below u.heap.size u u'):ShW w box cs u':=⟨Below.then h.hb hb,h.hx.kept hb,h.hz.kept hb⟩
theorem ShW.start (w:World)(c0 c1 c2:Value):ShW w [c0,c1,c2] zsh ((w.alloc (.cells #[c0,c1,c2] 77)).alloc (.cells #[.int .i64 0,.slice none 0 0,.slice none 0 0,.slice none 0 0] 133)):=by
 refine ⟨((Below.refl _ _).alloc (Nat.le_refl _) _).alloc (by simp) _,(Blk.new w 77 [c0,c1,c2]).alloc _,?_⟩
 have:=Blk.new (w.alloc (.cells #[c0,c1,c2] 77)) 133 zsh
 simpa [zsh] using this
theorem ShW.set {w u:World}{box cs:List Value}(h:ShW w box cs u)(i:Nat)(v:Value):ShW w box (cs.set i v) (u.setCell ⟨w.heap.size+1,i,none⟩ v) :=
 ⟨h.hb.setCell (by show w.heap.size≤w.heap.size+1;omega) _,h.hx.other _ (by simp) _,h.hz.set i v⟩
theorem ShW.bytes {w u:World}{box cs:List Value}(h:ShW w box cs u)(hno:∀ x∈cs,∀ k,x≠.int .u8 k)(i:Nat)(x:Value){v:Value}{t:List UInt8}(hb:Bytes u v t):Bytes (u.setCell ⟨w.heap.size+1,i,none⟩ x) v t :=
 Bytes.off_v hb h.hz hno (grown_cell i x)
theorem zsh_post (w u:World)(kd:Int)(hkd:kd=0)(hb:Below w.heap.size w u):ShPost (some (0,[],[],[])) w (.returned (.tuple #[.agg #[.int .i64 kd,.slice none 0 0,.slice none 0 0,.slice none 0 0],.bool true])) u:=by
 subst hkd
 exact ⟨hb,none,0,none,0,none,0,[],rfl,RowOf.nil b8 1 u,RowOf.nil b8 1 u,⟨RowOf.nil tcell 1 u,by simp⟩,rfl,by simp [Value.ownBlock]⟩
theorem shape_text (ta:Option Addr)(tn tc:Nat)(t:List UInt8)(htn:t.length=tn)(kv:Value)(w:World):Calls Tryz.prog 125 #[.agg #[.bool false,.slice ta tn tc,kv]] w (ShPost (shpP (.txt t)) w):=by
 obtain ⟨w1,hw1⟩:∃ w1,w1=(w.alloc (.cells #[.bool false,.slice ta tn tc,kv] 77)).alloc (.cells #[.int .i64 0,.slice none 0 0,.slice none 0 0,.slice none 0 0] 133):=⟨_,rfl⟩
 have F:ShW w [.bool false,.slice ta tn tc,kv] zsh w1:=by rw [hw1];exact ShW.start w _ _ _
 have Hw1:=Lib.hid hw1
 obtain ⟨ok,hok⟩:∃ ok:Bool,ok=decide (tn=0):=⟨_,rfl⟩
 have hokd:((tn:Int)==0)=ok:=by
  rw [hok]
  by_cases h:tn=0
  ·rw [decide_eq_true h,beq_iff_eq];omega
  ·rw [decide_eq_false h,beq_eq_false_iff_ne];omega
 have hpost:∀ u,Below w.heap.size w u→ShPost (shpP (.txt t)) w (.returned (.tuple #[.agg #[.int .i64 0,.slice none 0 0,.slice none 0 0,.slice none 0 0],.bool ok])) u:=by
  intro u hu
  by_cases h:tn=0
  ·have ht:t=[]:=List.eq_nil_of_length_eq_zero (by omega)
   have e1:shpP (.txt t)=some (0,[],[],[]):=by rw [ht];rfl
   rw [e1,hok,decide_eq_true h]
   exact zsh_post w u 0 rfl hu
  ·have ht:t≠[]:=fun e=>h (by rw [←htn,e];rfl)
   have e1:shpP (.txt t)=none:=by simp [shpP,ht]
   rw [e1,hok,decide_eq_false h]
   exact ⟨hu,0,none,0,0,none,0,0,none,0,0,rfl⟩
 have Hpost:=Lib.hid hpost
 clear hw1 hok htn hpost
 go_enter Tryz.func125,Tryz.ntmps125
 go_wp2_with fail
 rw [←Hw1.out]
 refine wp_region_via (fun aa b w'=>b=((((((aa.put (some 14) (.agg zsh.toArray)).put (some 15) (.pointer (some ⟨w.heap.size,1,none⟩))).put (some 16) (.slice ta tn tc)).put (some 17) (.int .i64 (tn:Int))).put (some 18) (.bool ok)).put (some 3) (.bool ok))∧ShW w [.bool false,.slice ta tn tc,kv] zsh w') ?_ ?_
 ·refine wp_region_h (ShW w [.bool false,.slice ta tn tc,kv] zsh) (by kernel_rfl) ?_;intro u0 hu0;simp only [List.length_cons,List.length_nil,Nat.reduceAdd,List.replicate_succ,List.replicate_zero]
  have F0:ShW w [.bool false,.slice ta tn tc,kv] zsh u0:=by rw [hu0];exact F.kept (Below.refl _ _).drew
  have k1:∀ u:In (ShW w [.bool false,.slice ta tn tc,kv] zsh),u.val.cell? ⟨w.heap.size,1,none⟩=some (.slice ta tn tc):=fun u=>(u.held.hx.cell 1).trans rfl
  clear hu0 F
  (refine wpH_take 0 (by rfl) (by kernel_rfl) (by intro _ _ _ h;first|exact h|(cases h.1)) (by intro _ _ _ _ h;first|exact h|(cases h.1)) (by assumption) (fun K hK=>?_);simp only [List.setIfInBounds_toArray,List.set_cons_zero,List.set_cons_succ] at hK;refine take_loadA (by rfl) 133 (.tmp 2) (by rfl) (w.heap.size+1) (by rfl) aggShape (fun u hu=>hu.hz) (by rfl) (hK _ ?_);clear hK K;simp only [Act.put,List.getElem_toArray,List.getElem_cons_zero,List.getElem_cons_succ,List.setIfInBounds_toArray,List.set_cons_zero,List.set_cons_succ])
  (refine wpH_take 1 (by rfl) (by kernel_rfl) (by intro _ _ _ h;first|exact h|(cases h.1)) (by intro _ _ _ _ h;first|exact h|(cases h.1)) (by assumption) (fun K hK=>?_);simp only [List.setIfInBounds_toArray,List.set_cons_zero,List.set_cons_succ] at hK;go_simp;first|(refine hK _ ?_;clear hK K)|(apply Exists.intro;refine ⟨fun _=>rfl,hK _ ?_⟩;clear hK K));(refine wpH_take 2 (by rfl) (by kernel_rfl) (by intro _ _ _ h;first|exact h|(cases h.1)) (by intro _ _ _ _ h;first|exact h|(cases h.1)) (by assumption) (fun K hK=>?_);simp only [List.setIfInBounds_toArray,List.set_cons_zero,List.set_cons_succ] at hK;go_simp;first|(refine hK _ ?_;clear hK K)|(apply Exists.intro;refine ⟨fun _=>rfl,hK _ ?_⟩;clear hK K));(refine wpH_take 3 (by rfl) (by kernel_rfl) (by intro _ _ _ h;first|exact h|(cases h.1)) (by intro _ _ _ _ h;first|exact h|(cases h.1)) (by assumption) (fun K hK=>?_);simp only [List.setIfInBounds_toArray,List.set_cons_zero,List.set_cons_succ] at hK;go_simp;first|(refine hK _ ?_;clear hK K)|(apply Exists.intro;refine ⟨fun _=>rfl,hK _ ?_⟩;clear hK K));(refine wpH_take 4 (by rfl) (by kernel_rfl) (by intro _ _ _ h;first|exact h|(cases h.1)) (by intro _ _ _ _ h;first|exact h|(cases h.1)) (by assumption) (fun K hK=>?_);simp only [List.setIfInBounds_toArray,List.set_cons_zero,List.set_cons_succ] at hK;go_simp;first|(refine hK _ ?_;clear hK K)|(apply Exists.intro;refine ⟨fun _=>rfl,hK _ ?_⟩;clear hK K))
  clear k1
  refine wpH_only 5 (by rfl) (by kernel_rfl) (fun K hK=>?_)
  refine step_storeA (by rfl) 133 (.tmp 2) (.tmp 14) (by rfl) (w.heap.size+1) zsh (by rfl) (by rfl) aggShape F0.hz (by rfl) (by rfl) (by intro u hu;simp [zsh] at hu;rcases hu with rfl|rfl<;>rfl) (fun w7 h27 _ g7=>?_)
  have F7:ShW w [.bool false,.slice ta tn tc,kv] zsh w7:=⟨F0.hb.grown g7 F0.hb.size (fun y hy=>by cases hy;omega),F0.hx.grown g7 (by simp<;>omega),h27⟩
  refine hK _ _ F7 ?_;clear hK K
  (refine wpH_take 6 (by rfl) (by kernel_rfl) (by intro _ _ _ h;first|exact h|(cases h.1)) (by intro _ _ _ _ h;first|exact h|(cases h.1)) (by assumption) (fun K hK=>?_);simp only [List.setIfInBounds_toArray,List.set_cons_zero,List.set_cons_succ] at hK;go_simp;first|(refine hK _ ?_;clear hK K)|(apply Exists.intro;refine ⟨fun _=>rfl,hK _ ?_⟩;clear hK K))
  exact wpH_done (by kernel_rfl) ⟨rfl,rfl,F7⟩
 rintro b w9 ⟨rfl,F9⟩
 simp only [Act.put,List.setIfInBounds_toArray,List.set_cons_zero,List.set_cons_succ]
 go_wp2_with fail
 exact bodyPost_ret (v:=.tuple #[.agg #[.int .i64 0,.slice none 0 0,.slice none 0 0,.slice none 0 0],.bool ok]) (results_blk_tmp rfl _ _ (w.heap.size+1) aggShape F9.hz rfl rfl rfl) rfl (Hpost.out _ F9.hb)
end Go.Proofs.YtcgpjceopnfahaaGreat
