/- What nib.Tag and Untag come to. No program in sight. | nib.Tag and the reference's NTag. | The reference's NTag; nib.Untag. | The reference's NUntag. -/
import Derived.Test.YtcgpjceopnfahaaGreatWorldChecksK07
set_option linter.unusedSimpArgs false
set_option linter.unusedVariables false
set_option maxHeartbeats 4000000
set_option maxRecDepth 100000
namespace Go.Proofs.YtcgpjceopnfahaaGreat
open Go.RowKit
def tagN (n:Nat)(leaf:Bool):Nat:=n % 2+2*leaf.toNat
def tagF (n:Nat)(leaf:Bool):UInt8:=UInt8.ofNat (tagN n leaf)
theorem tagN_lt (n:Nat)(leaf:Bool):tagN n leaf≤3:=by unfold tagN;cases leaf <;> simp <;> omega
theorem tagF_nat (n:Nat)(leaf:Bool):(tagF n leaf).toNat=tagN n leaf:=by
 have:=tagN_lt n leaf
 unfold tagF;rw [UInt8.toNat_ofNat'];omega
def tagH (n:Nat)(leaf:Bool):List UInt8:=if n % 2=1 then [tagF n leaf] else [tagF n leaf,0]
def tagL (p:List UInt8)(leaf:Bool):List UInt8:=tagH p.length leaf++p
theorem tagH_odd {n:Nat}{leaf:Bool}(h:n % 2=1):tagH n leaf=[tagF n leaf]:=by unfold tagH;rw [if_pos h]
theorem tagH_even {n:Nat}{leaf:Bool}(h:¬ n % 2=1):tagH n leaf=[tagF n leaf,0]:=by unfold tagH;rw [if_neg h]
theorem wrong_app (a b:List UInt8):wrongB (a++b)=(wrongB a || wrongB b):=by unfold wrongB;rw [List.any_append]
theorem tagH_right (n:Nat)(leaf:Bool):wrongB (tagH n leaf)=false:=by
 have h:=tagN_lt n leaf
 have h2:=tagF_nat n leaf
 unfold tagH wrongB
 split<;>simp<;>omega
theorem tagL_ok (p:List UInt8)(leaf:Bool):joinOk (tagL p leaf)=!wrongB p:=by
 unfold joinOk tagL
 rw [wrong_app,tagH_right,Bool.false_or]
 have:(tagH p.length leaf++p).length % 2=0:=by
  unfold tagH
  split<;>simp<;>omega
 rw [this];rfl
theorem tagL_len (p:List UInt8)(leaf:Bool):(tagL p leaf).length≤p.length+2:=by
 unfold tagL tagH
 split<;>simp<;>omega
theorem join_halves (b:List UInt8):joinL (halvesL b)=b:=by
 induction b with
 | nil=>rfl
 | cons x b ih =>
  have e:halvesL (x::b)=x / 16::x % 16::halvesL b:=by simp [halvesL,halfB]
  rw [e,joinL,ih]
  congr 1
  apply UInt8.toNat_inj.1
  have:=x.toNat_lt
  rw [UInt8.toNat_add,UInt8.toNat_mul,UInt8.toNat_div,UInt8.toNat_mod,show (16:UInt8).toNat=16 from rfl];omega
def hits (b:List UInt8)(k:Nat)(leaf:Bool):Bool:=joinR (tagL ((halvesL b).drop k) leaf) == b
theorem wrong_drop (l:List UInt8)(k:Nat)(h:wrongB l=false):wrongB (l.drop k)=false:=by
 unfold wrongB at *
 rw [List.any_eq_false] at *
 exact fun x hx=>h x (List.mem_of_mem_drop hx)
theorem tag_part_ok (b:List UInt8)(k:Nat)(leaf:Bool):joinOk (tagL ((halvesL b).drop k) leaf)=true:=by
 rw [tagL_ok,wrong_drop _ _ (halves_wrong b)];rfl
theorem hits_iff (b:List UInt8)(k:Nat)(leaf:Bool):hits b k leaf=true↔tagL ((halvesL b).drop k) leaf=halvesL b:=by
 have hok:=tag_part_ok b k leaf
 unfold hits
 rw [(join_yes hok).2,beq_iff_eq]
 constructor
 ·intro h
  rw [←halves_join _ hok,h]
 ·intro h
  rw [h,join_halves]
theorem halves_two (b:List UInt8)(h:b≠[]):∃ x y r,halvesL b=x::y::r∧r.length % 2=0∧x.toNat≤15∧y.toNat≤15:=by
 match b,h with
 | z::b,_=>exact ⟨z / 16,z % 16,halvesL b,by simp [halvesL,halfB],by rw [halves_len];omega,(half_le z).1,(half_le z).2⟩
theorem hits_one (b:List UInt8)(leaf:Bool)(x y:UInt8)(r:List UInt8)(h:halvesL b=x::y::r)(hr:r.length % 2=0):hits b 1 leaf=decide (x.toNat=1+2*leaf.toNat):=by
 rw [Bool.eq_iff_iff,hits_iff,h,decide_eq_true_eq]
 unfold tagL
 have hl:((x::y::r).drop 1).length % 2=1:=by simp;omega
 rw [tagH_odd hl]
 have hn:=tagF_nat ((x::y::r).drop 1).length leaf
 unfold tagN at hn
 rw [hl] at hn
 constructor
 ·intro e
  simp only [List.cons_append,List.nil_append,List.drop_succ_cons,List.drop_zero,List.cons.injEq,and_true] at e
  rw [←e];simpa using hn
 ·intro e
  have:tagF ((x::y::r).drop 1).length leaf=x:=UInt8.toNat_inj.1 (by rw [hn,e])
  rw [this];rfl
theorem hits_two (b:List UInt8)(leaf:Bool)(x y:UInt8)(r:List UInt8)(h:halvesL b=x::y::r)(hr:r.length % 2=0):hits b 2 leaf=decide (x.toNat=2*leaf.toNat∧y.toNat=0):=by
 rw [Bool.eq_iff_iff,hits_iff,h,decide_eq_true_eq]
 unfold tagL
 have hl:¬ ((x::y::r).drop 2).length % 2=1:=by simp;omega
 rw [tagH_even hl]
 have hn:=tagF_nat ((x::y::r).drop 2).length leaf
 unfold tagN at hn
 rw [show ((x::y::r).drop 2).length % 2=0 from by omega] at hn
 constructor
 ·intro e
  simp only [List.cons_append,List.nil_append,List.drop_succ_cons,List.drop_zero,List.cons.injEq,and_true] at e
  obtain ⟨e1,e2⟩:=e
  refine ⟨by rw [←e1];simpa using hn,by rw [←e2];rfl⟩
 ·rintro ⟨e1,e2⟩
  have h1:tagF ((x::y::r).drop 2).length leaf=x:=UInt8.toNat_inj.1 (by rw [hn,e1];omega)
  have h2:(0:UInt8)=y:=UInt8.toNat_inj.1 (by rw [e2];rfl)
  rw [h1,h2];rfl
def unAt (b:List UInt8):Nat:=match halvesL b with
 | x::y::_=>if 3<x.toNat then 0 else if x.toNat % 2=1 then 1 else if y.toNat=0 then 2 else 0
 | _=>0
def unLeaf (b:List UInt8):Bool:=match halvesL b with
 | x::_=>unAt b != 0&&decide (2≤x.toNat)
 | _=>false
def unP (b:List UInt8):List UInt8:=if unAt b=0 then [] else (halvesL b).drop (unAt b)
def unE (b:List UInt8):Int:=if unAt b=0 then 1 else 0
theorem un_found (b:List UInt8)(k:Nat)(leaf:Bool)(hk:k=1∨k=2)(hb:b≠[])(h:hits b k leaf=true):unAt b=k∧unLeaf b=leaf∧unP b=(halvesL b).drop k∧unE b=0:=by
 obtain ⟨x,y,r,e,hr,hx,hy⟩:=halves_two b hb
 have h1:unAt b=k∧unLeaf b=leaf:=by
  unfold unLeaf unAt
  rw [e]
  rcases hk with rfl|rfl
  ·rw [hits_one b leaf x y r e hr,decide_eq_true_eq] at h
   cases leaf<;>simp at h<;>simp [h]
  ·rw [hits_two b leaf x y r e hr,decide_eq_true_eq] at h
   obtain ⟨h,h2⟩:=h
   cases leaf<;>simp at h<;>simp [h,h2]
 refine ⟨h1.1,h1.2,?_,?_⟩
 ·unfold unP;rw [h1.1,if_neg (by omega)]
 ·unfold unE;rw [h1.1,if_neg (by omega)]
theorem un_none (b:List UInt8)(h:b=[]∨(∀ k leaf,(k=1∨k=2)→hits b k leaf=false)):unAt b=0∧unLeaf b=false∧unP b=[]∧unE b=1:=by
 have h0:unAt b=0:=by
  rcases h with rfl|h
  ·rfl
  ·by_cases hb:b=[]
   ·subst hb;rfl
   ·obtain ⟨x,y,r,e,hr,hx,hy⟩:=halves_two b hb
    have a1:=h 1 false (.inl rfl)
    have a2:=h 1 true (.inl rfl)
    have a3:=h 2 false (.inr rfl)
    have a4:=h 2 true (.inr rfl)
    rw [hits_one b _ x y r e hr,decide_eq_false_iff_not] at a1 a2
    rw [hits_two b _ x y r e hr,decide_eq_false_iff_not] at a3 a4
    simp at a1 a2 a3 a4
    unfold unAt
    rw [e]
    simp only
    split
    ·rfl
    ·split
     ·omega
     ·split
      ·omega
      ·rfl
 refine ⟨h0,?_,?_,?_⟩
 ·unfold unLeaf;rw [h0];split<;>rfl
 ·unfold unP;rw [if_pos h0]
 ·unfold unE;rw [if_pos h0]
theorem tag_no {p:List UInt8}{leaf:Bool}(h:wrongB p=true):joinE (tagL p leaf)=1∧joinR (tagL p leaf)=[]:=join_no (by rw [tagL_ok,h];rfl)
theorem tagL_odd {p:List UInt8}{leaf:Bool}(h:p.length % 2=1):tagL p leaf=[if leaf then 3 else 1]++p:=by
 unfold tagL
 rw [tagH_odd h]
 congr 2
 apply UInt8.toNat_inj.1
 rw [tagF_nat];unfold tagN;rw [h];cases leaf<;>rfl
theorem tagL_even {p:List UInt8}{leaf:Bool}(h:p.length % 2=0):tagL p leaf=[if leaf then 2 else 0,0]++p:=by
 unfold tagL
 rw [tagH_even (by omega)]
 congr 2
 apply UInt8.toNat_inj.1
 rw [tagF_nat];unfold tagN;rw [h];cases leaf<;>rfl
theorem join_l (a:Option Addr)(n c:Nat)(l:List UInt8)(hn:l.length=n)(w:World)(h:Bytes w (.slice a n c) l)(hl:n≤140737488355328) :
  Calls Tryz.prog 166 #[.slice a n c] w fun e w'=>∃ v,e=.returned (.tuple #[v,.int .i64 (joinE l)])∧Bytes w' v (joinR l)∧Below w.heap.size w w':=by
 subst hn
 exact (join_any a c l w h hl).mono fun e w' ⟨v,h1,h2,h3⟩=>⟨v,h1,h2.row,h3⟩
theorem njoin_l (a:Option Addr)(n c:Nat)(l:List UInt8)(hn:l.length=n)(w:World)(h:Bytes w (.slice a n c) l)(hl:n≤140737488355328) :
  Calls Tryz.prog 182 #[.slice a n c] w fun e w'=>∃ v,e=.returned (.tuple #[v,.int .i64 (joinE l)])∧Bytes w' v (joinR l)∧Below w.heap.size w w':=by
 subst hn
 exact (njoin_any a c l w h hl).mono fun e w' ⟨v,h1,h2,h3⟩=>⟨v,h1,h2.row,h3⟩
theorem wrong_l (a:Option Addr)(n c:Nat)(l:List UInt8)(b:Bool)(hn:l.length=n)(hb:wrongB l=b)(w:World)(h:Bytes w (.slice a n c) l) :
  Calls Tryz.prog 165 #[.slice a n c] w fun e w'=>e=.returned (.bool b)∧w=w':=by
 subst hn;subst hb;exact wrong_any a c l w h
theorem tag_any (a:Option Addr)(n c:Nat)(p:List UInt8)(leaf:Bool)(hn:p.length=n)(w:World)(h:Bytes w (.slice a n c) p)(hl:n+2≤140737488355328) :
  Calls Tryz.prog 149 #[.slice a n c,.bool leaf] w fun e w'=>∃ v,e=.returned (.tuple #[v,.int .i64 (joinE (tagL p leaf))])∧Bytes w' v (joinR (tagL p leaf))∧Below w.heap.size w w':=by
 cases hw:wrongB p with
 | true =>
  obtain ⟨e1,e2⟩:=tag_no (leaf:=leaf) hw
  rw [e1,e2]
  have Hw:=Lib.hid hw
  have Hn:=Lib.hid hn
  clear hw hn e1 e2
  go_enter Tryz.func149,Tryz.ntmps149
  go_wp2_with (go_at_call 165;(with_reducible refine (wrong_l a n c p true Hn.out Hw.out _ h).mono ?_);rintro e w1 ⟨rfl,rfl⟩)
  go_ret2
  exact ⟨_,rfl,RowOf.nil _ _ _,Below.refl _ _⟩
 | false =>
  have Hw:=Lib.hid hw
  have Hn:=Lib.hid hn
  rcases Nat.mod_two_eq_zero_or_one n with hm|hm
  ·have ht:(n:Int) % 2=0:=by omega
   have hT:=tagL_even (leaf:=leaf) (show p.length % 2=0 by omega)
   obtain ⟨T,hTT⟩:∃ T,T=tagL p leaf:=⟨_,rfl⟩
   rw [←hTT] at hT ⊢
   have HT:=Lib.hid hT
   clear hw hn hT hTT
   have hb2:bits .or .u8 0 2=2:=by decide
   have own0:=fun (x:UInt8) (y:Int) (hy:(x.toNat:Int)=y)=>(OwnOf.made b8 1 5 w w.heap.size [x] #[.int .u8 y] 1 (by rw [←hy];rfl) rfl rfl (Nat.le_refl _) (by decide)).alloc (.cells #[.int .u8 0] 5)
   have o0:=own0 0 0 rfl
   have o2:=own0 2 2 rfl
   have r0:=fun y:Int=>(show RowOf b8 1 ((w.alloc (.cells #[.int .u8 y] 5)).alloc (.cells #[.int .u8 0] 5)) (.slice (some ⟨w.heap.size+1,0,none⟩) 1 1) [(0:UInt8)] from by
    have:=RowOf.one b8 1 (w.alloc (.cells #[.int .u8 y] 5)) (0:UInt8) #[.int .u8 0] 5 rfl rfl
    simpa using this)
   have b0:=fun y:Int=>((Below.refl w.heap.size w).alloc (Nat.le_refl _) (.cells #[.int .u8 y] 5)).alloc (by simp) (.cells #[.int .u8 0] 5)
   clear own0
   cases leaf
   all_goals
    go_enter Tryz.func149,Tryz.ntmps149
    go_wp2_with (first
     |(go_at_call 165;(with_reducible refine (wrong_l a n c p false Hn.out Hw.out _ h).mono ?_);rintro e w1 ⟨rfl,rfl⟩)
     |(at_builtin;refine wpList_app (by rfl) (.tmp 23) (.tmp 24) 25 (by rfl) elU8 (by rfl) (by first|exact o0|exact o2) (by rfl) (r0 _) (b0 _) (by simp;omega) (by simp) (by simp [maxLen]) ?_;intro v2 w2 hv2 hg2 _ hB2;obtain ⟨a2,c2,rfl,_⟩:=hv2.form' 2 rfl)
     |(at_builtin;refine wpList_app (by rfl) (.tmp 26) (.tmp 27) 25 (by rfl) elU8 (by rfl) hv2 (by rfl) (h.below hg2) hg2 hB2 (by have:=Hn.out;simp;omega) (by have:=Hn.out;simp [maxLen];omega) ?_;intro v3 w3 hv3 hg3 _ hB3;obtain ⟨a3,c3,rfl,_⟩:=hv3.form' (2+n) (by have:=Hn.out;simp;omega))
     |(go_at_call 166;(with_reducible refine (join_l a3 (2+n) c3 _ (by have:=Hn.out;simp;omega) _ hv3.row (by omega)).mono ?_);rintro e w4 ⟨v4,rfl,h4,b4⟩;have hb4:=hg3.trans (b4.mono hB3)))
    go_ret2
    exact ⟨_,by rw [HT.out];rfl,by rw [HT.out];exact h4,hb4⟩
  ·have ht:(n:Int) % 2=1:=by omega
   have hT:=tagL_odd (leaf:=leaf) (show p.length % 2=1 by omega)
   obtain ⟨T,hTT⟩:∃ T,T=tagL p leaf:=⟨_,rfl⟩
   rw [←hTT] at hT ⊢
   have HT:=Lib.hid hT
   clear hw hn hT hTT
   have hb2:bits .or .u8 1 2=3:=by decide
   have own0:=fun (x:UInt8) (y:Int) (hy:(x.toNat:Int)=y)=>(OwnOf.made b8 1 5 w w.heap.size [x] #[.int .u8 y] 1 (by rw [←hy];rfl) rfl rfl (Nat.le_refl _) (by decide))
   have o0:=own0 1 1 rfl
   have o2:=own0 3 3 rfl
   have b0:=fun y:Int=>(Below.refl w.heap.size w).alloc (Nat.le_refl _) (.cells #[.int .u8 y] 5)
   clear own0
   cases leaf
   all_goals
    go_enter Tryz.func149,Tryz.ntmps149
    go_wp2_with (first
     |(go_at_call 165;(with_reducible refine (wrong_l a n c p false Hn.out Hw.out _ h).mono ?_);rintro e w1 ⟨rfl,rfl⟩)
     |(at_builtin;refine wpList_app (by rfl) (.tmp 26) (.tmp 27) 25 (by rfl) elU8 (by rfl) (by first|exact o0|exact o2) (by rfl) (h.below (b0 _)) (b0 _) (by simp) (by have:=Hn.out;simp;omega) (by have:=Hn.out;simp [maxLen];omega) ?_;intro v3 w3 hv3 hg3 _ hB3;obtain ⟨a3,c3,rfl,_⟩:=hv3.form' (1+n) (by have:=Hn.out;simp;omega))
     |(go_at_call 166;(with_reducible refine (join_l a3 (1+n) c3 _ (by have:=Hn.out;simp;omega) _ hv3.row (by omega)).mono ?_);rintro e w4 ⟨v4,rfl,h4,b4⟩;have hb4:=hg3.trans (b4.mono hB3)))
    go_ret2
    exact ⟨_,by rw [HT.out];rfl,by rw [HT.out];exact h4,hb4⟩
theorem ntag_any (a:Option Addr)(n c:Nat)(p:List UInt8)(leaf:Bool)(hn:p.length=n)(w:World)(h:Bytes w (.slice a n c) p)(hl:n+2≤140737488355328) :
  Calls Tryz.prog 167 #[.slice a n c,.bool leaf] w fun e w'=>∃ v,e=.returned (.tuple #[v,.int .i64 (joinE (tagL p leaf))])∧Bytes w' v (joinR (tagL p leaf))∧Below w.heap.size w w':=by
 have Hn:=Lib.hid hn
 rcases Nat.mod_two_eq_zero_or_one n with hm|hm
 ·have ht:(n:Int) % 2=0:=by omega
  have hT:=tagL_even (leaf:=leaf) (show p.length % 2=0 by omega)
  obtain ⟨T,hTT⟩:∃ T,T=tagL p leaf:=⟨_,rfl⟩
  rw [←hTT] at hT ⊢
  have HT:=Lib.hid hT
  clear hn hT hTT
  have own0:=fun (x:UInt8) (y:Int) (hy:(x.toNat:Int)=y)=>(OwnOf.made b8 1 5 w w.heap.size [x,0] #[.int .u8 y,.int .u8 0] 2 (by rw [←hy];rfl) rfl rfl (Nat.le_refl _) (by decide))
  have o0:=own0 0 0 rfl
  have o2:=own0 2 2 rfl
  have b0:=fun y:Int=>((Below.refl w.heap.size w).alloc (Nat.le_refl _) (.cells #[.int .u8 y,.int .u8 0] 5))
  clear own0
  cases leaf
  all_goals
   go_enter Tryz.func167,Tryz.ntmps167
   go_wp2_with (first
    |(at_builtin;refine wpList_app (by rfl) (.tmp 26) (.tmp 27) 25 (by rfl) elU8 (by rfl) (by first|exact o0|exact o2) (by rfl) (h.below (b0 _)) (b0 _) (by simp) (by have:=Hn.out;simp;omega) (by have:=Hn.out;simp [maxLen];omega) ?_;intro v3 w3 hv3 hg3 _ hB3;obtain ⟨a3,c3,rfl,_⟩:=hv3.form' (2+n) (by have:=Hn.out;simp;omega))
    |(go_at_call 182;(with_reducible refine (njoin_l a3 (2+n) c3 _ (by have:=Hn.out;simp;omega) _ hv3.row (by omega)).mono ?_);rintro e w4 ⟨v4,rfl,h4,b4⟩;have hb4:=hg3.trans (b4.mono hB3)))
   go_ret2
   exact ⟨_,by rw [HT.out];rfl,by rw [HT.out];exact h4,hb4⟩
 ·have ht:(n:Int) % 2=1:=by omega
  have hT:=tagL_odd (leaf:=leaf) (show p.length % 2=1 by omega)
  obtain ⟨T,hTT⟩:∃ T,T=tagL p leaf:=⟨_,rfl⟩
  rw [←hTT] at hT ⊢
  have HT:=Lib.hid hT
  clear hn hT hTT
  have own0:=fun (x:UInt8) (y:Int) (hy:(x.toNat:Int)=y)=>(OwnOf.made b8 1 5 w w.heap.size [x] #[.int .u8 y] 1 (by rw [←hy];rfl) rfl rfl (Nat.le_refl _) (by decide))
  have o0:=own0 1 1 rfl
  have o2:=own0 3 3 rfl
  have b0:=fun y:Int=>(Below.refl w.heap.size w).alloc (Nat.le_refl _) (.cells #[.int .u8 y] 5)
  clear own0
  cases leaf
  all_goals
   go_enter Tryz.func167,Tryz.ntmps167
   go_wp2_with (first
    |(at_builtin;refine wpList_app (by rfl) (.tmp 26) (.tmp 27) 25 (by rfl) elU8 (by rfl) (by first|exact o0|exact o2) (by rfl) (h.below (b0 _)) (b0 _) (by simp) (by have:=Hn.out;simp;omega) (by have:=Hn.out;simp [maxLen];omega) ?_;intro v3 w3 hv3 hg3 _ hB3;obtain ⟨a3,c3,rfl,_⟩:=hv3.form' (1+n) (by have:=Hn.out;simp;omega))
    |(go_at_call 182;(with_reducible refine (njoin_l a3 (1+n) c3 _ (by have:=Hn.out;simp;omega) _ hv3.row (by omega)).mono ?_);rintro e w4 ⟨v4,rfl,h4,b4⟩;have hb4:=hg3.trans (b4.mono hB3)))
   go_ret2
   exact ⟨_,by rw [HT.out];rfl,by rw [HT.out];exact h4,hb4⟩
theorem halves_l (a:Option Addr)(n c m:Nat)(l:List UInt8)(hn:l.length=n)(hm:m=2*n)(w:World)(h:Bytes w (.slice a n c) l)(hl:2*n≤140737488355328) :
  Calls Tryz.prog 90 #[.slice a n c] w fun e w'=>∃ a' c',e=.returned (.slice a' m c')∧Bytes w' (.slice a' m c') (halvesL l)∧Below w.heap.size w w':=by
 subst hn;subst hm
 refine (halves_any a c l w h hl).mono ?_
 rintro e w' ⟨v,rfl,h2,h3⟩
 obtain ⟨a',c',rfl,_⟩:=h2.form' (2*l.length) (halves_len l)
 exact ⟨a',c',rfl,h2.row,h3⟩
theorem nhalves_l (a:Option Addr)(n c m:Nat)(l:List UInt8)(hn:l.length=n)(hm:m=2*n)(w:World)(h:Bytes w (.slice a n c) l)(hl:2*n≤140737488355328) :
  Calls Tryz.prog 95 #[.slice a n c] w fun e w'=>∃ a' c',e=.returned (.slice a' m c')∧Bytes w' (.slice a' m c') (halvesL l)∧Below w.heap.size w w':=by
 subst hn;subst hm
 refine (nhalves_any a c l w h hl).mono ?_
 rintro e w' ⟨v,rfl,h2,h3⟩
 obtain ⟨a',c',rfl,_⟩:=h2.form' (2*l.length) (halves_len l)
 exact ⟨a',c',rfl,h2.row,h3⟩
theorem u8_four (x:UInt8)(h:¬ 3<x.toNat):x=0∨x=1∨x=2∨x=3:=by
 rcases (show x.toNat=0∨x.toNat=1∨x.toNat=2∨x.toNat=3 from by omega) with h|h|h|h
 ·exact .inl (UInt8.toNat_inj.1 h)
 ·exact .inr (.inl (UInt8.toNat_inj.1 h))
 ·exact .inr (.inr (.inl (UInt8.toNat_inj.1 h)))
 ·exact .inr (.inr (.inr (UInt8.toNat_inj.1 h)))
theorem un_at (b:List UInt8)(x y:UInt8)(r:List UInt8)(h:halvesL b=x::y::r)(k:Nat)(leaf:Bool)
  (hk:k=if 3<x.toNat then 0 else if x.toNat % 2=1 then 1 else if y.toNat=0 then 2 else 0) (hf:leaf=(k != 0&&decide (2≤x.toNat))) :
  unLeaf b=leaf∧unP b=(if k=0 then [] else (halvesL b).drop k)∧unE b=(if k=0 then 1 else 0):=by
 have h1:unAt b=k:=by rw [hk];unfold unAt;rw [h]
 refine ⟨?_,by unfold unP;rw [h1],by unfold unE;rw [h1]⟩
 rw [hf];unfold unLeaf;rw [h1,h]
theorem untag_any (a:Option Addr)(n c:Nat)(b:List UInt8)(hn:b.length=n)(w:World)(h:Bytes w (.slice a n c) b)(hl:2*n≤140737488355328) :
  Calls Tryz.prog 148 #[.slice a n c] w fun e w'=>∃ v,e=.returned (.tuple #[v,.bool (unLeaf b),.int .i64 (unE b)])∧Bytes w' v (unP b)∧Below w.heap.size w w':=by
 obtain ⟨m,hm⟩:∃ m,m=2*n:=⟨_,rfl⟩
 have Hn:=Lib.hid hn
 have Hm:=Lib.hid hm
 by_cases hb:b=[]
 ·obtain ⟨_,e1,e2,e3⟩:=un_none b (.inl hb)
  rw [e1,e2,e3]
  have hm0:m=0:=by rw [hm,←hn,hb];rfl
  clear hn e1 e2 e3 hb hm
  subst hm0
  go_enter Tryz.func148,Tryz.ntmps148
  go_wp2_with (go_at_call 90;(with_reducible refine (halves_l a n c 0 b Hn.out Hm.out _ h hl).mono ?_);rintro e w1 ⟨a1,c1,rfl,h1,b1⟩)
  go_ret3
  exact ⟨_,rfl,RowOf.nil _ _ _,b1⟩
 ·obtain ⟨x,y,r,hx,hr,hx15,hy15⟩:=halves_two b hb
  have hun:=un_at b x y r hx
  have hlen:(halvesL b).length=m:=by rw [halves_len,hm,hn]
  have hm2:2≤m:=by rw [←hlen,hx];simp
  have hcell:∀ (w1:World) a1 c1,Bytes w1 (.slice a1 m c1) (halvesL b)→∃ blk off,a1=some ⟨blk,off,none⟩∧w1.cell? ⟨blk,off,none⟩=some (.int .u8 (x.toNat:Int))∧w1.cell? ⟨blk,off+1,none⟩=some (.int .u8 (y.toNat:Int)):=by
   intro w1 a1 c1 h1
   obtain ⟨blk,off,ha,hc⟩:=h1.at 0 (by omega)
   obtain ⟨blk',off',ha',hc'⟩:=h1.at 1 (by omega)
   rw [ha] at ha'
   simp only [Option.some.injEq,Addr.mk.injEq,and_true] at ha'
   obtain ⟨rfl,rfl⟩:=ha'
   refine ⟨blk,off,ha,?_,?_⟩
   ·rw [Nat.add_zero] at hc;rw [hc];simp [hx]
   ·rw [hc'];simp [hx]
  have Hcell:=Lib.hid hcell
  have Hlen:=Lib.hid hlen
  have hz0:((m:Int)==0)=false:=by rw [beq_eq_false_iff_ne];omega
  have g0:0<m:=by omega
  have g1:1<m:=by omega
  have g1':(1:Int)<(m:Int):=by omega
  have g0':(0:Int)<(m:Int):=by omega
  clear hn hm hb hcell hlen hx hr
  by_cases h3:3<x.toNat
  ·obtain ⟨e1,e2,e3⟩:=hun 0 false (by rw [if_pos h3]) rfl
   rw [e1,e2,e3]
   have hd:(3:Int)<(x.toNat:Int):=by omega
   clear hun e1 e2 e3
   go_enter Tryz.func148,Tryz.ntmps148
   go_wp2_with (go_at_call 90;(with_reducible refine (halves_l a n c m b Hn.out Hm.out _ h hl).mono ?_);rintro e w1 ⟨a1,c1,rfl,h1,b1⟩;obtain ⟨blk,off,rfl,hc0,hc1⟩:=Hcell.out _ _ _ h1)
   go_ret3
   exact ⟨_,rfl,RowOf.nil _ _ _,b1⟩
  ·have q01:bits .and .u8 0 1=0:=by decide
   have q11:bits .and .u8 1 1=1:=by decide
   have q21:bits .and .u8 2 1=0:=by decide
   have q31:bits .and .u8 3 1=1:=by decide
   have q02:bits .and .u8 0 2=0:=by decide
   have q12:bits .and .u8 1 2=0:=by decide
   have q22:bits .and .u8 2 2=2:=by decide
   have q32:bits .and .u8 3 2=2:=by decide
   have hfrom1:=fun w1 a1 c1 (h1:Bytes w1 (.slice a1 m c1) (halvesL b))=>RowOf.from elU8 h1 1 (by omega) 1 rfl
   have hfrom2:=fun w1 a1 c1 (h1:Bytes w1 (.slice a1 m c1) (halvesL b))=>RowOf.from elU8 h1 2 hm2 2 rfl
   have HF1:=Lib.hid hfrom1
   have HF2:=Lib.hid hfrom2
   clear hfrom1 hfrom2
   rcases u8_four x h3 with rfl|rfl|rfl|rfl
   ·by_cases hy0:y.toNat=0
    ·obtain rfl:y=0:=UInt8.toNat_inj.1 hy0
     clear hy0
     obtain ⟨e1,e2,e3⟩:=hun 2 false (by simp) (by simp)
     rw [e1,e2,e3]
     clear hun e1 e2 e3 h3
     go_enter Tryz.func148,Tryz.ntmps148
     go_wp2_with (go_at_call 90;(with_reducible refine (halves_l a n c m b Hn.out Hm.out _ h hl).mono ?_);rintro e w1 ⟨a1,c1,rfl,h1,b1⟩;obtain ⟨blk,off,rfl,hc0,hc1⟩:=Hcell.out _ _ _ h1;obtain ⟨a2,c2,hs2,h2⟩:=HF2.out _ _ _ h1;have hc0':w1.cell? ⟨blk,off,none⟩=some (.int .u8 0):=hc0;clear hc0;have hc1':w1.cell? ⟨blk,off+1,none⟩=some (.int .u8 0):=hc1;clear hc1)
     have k0:=fun u:Ext w1=>u.cell hc0'
     refine wp_region_typed w1 10 (by kernel_rfl) (by kernel_rfl) (Below.refl _ _) ?_;simp only [List.take_succ_cons,List.take_zero,List.take_nil]
     iterate 10 (refine wpX_step (by rfl) (fun K hK=>?_);go_simp;first|(refine hK _ ?_;clear hK K)|(apply Exists.intro;refine ⟨fun _=>?_,hK _ ?_⟩;fail;clear hK K))
     refine wpX_end rfl ?_
     rintro w2 hw2
     simp only [List.reverse_nil,forallRel]
     have hr2:=RowOf.kept h2 hw2
     have hb2:=Below.then b1 hw2
     clear k0
     go_wp2
     go_ret3
     exact ⟨_,rfl,by first|exact hr2|simpa using hr2,hb2⟩
    ·obtain ⟨e1,e2,e3⟩:=hun 0 false (by simp [hy0]) rfl
     rw [e1,e2,e3]
     have hd:((y.toNat:Int) != 0)=true:=by rw [bne_iff_ne];omega
     clear hun e1 e2 e3 h3 hy0
     go_enter Tryz.func148,Tryz.ntmps148
     go_wp2_with (go_at_call 90;(with_reducible refine (halves_l a n c m b Hn.out Hm.out _ h hl).mono ?_);rintro e w1 ⟨a1,c1,rfl,h1,b1⟩;obtain ⟨blk,off,rfl,hc0,hc1⟩:=Hcell.out _ _ _ h1;have hc0':w1.cell? ⟨blk,off,none⟩=some (.int .u8 0):=hc0;clear hc0)
     go_ret3
     exact ⟨_,rfl,RowOf.nil _ _ _,b1⟩
   ·obtain ⟨e1,e2,e3⟩:=hun 1 false (by simp) (by simp)
    rw [e1,e2,e3]
    clear hun e1 e2 e3 h3
    go_enter Tryz.func148,Tryz.ntmps148
    go_wp2_with (go_at_call 90;(with_reducible refine (halves_l a n c m b Hn.out Hm.out _ h hl).mono ?_);rintro e w1 ⟨a1,c1,rfl,h1,b1⟩;obtain ⟨blk,off,rfl,hc0,hc1⟩:=Hcell.out _ _ _ h1;obtain ⟨a2,c2,hs2,h2⟩:=HF1.out _ _ _ h1;have hc0':w1.cell? ⟨blk,off,none⟩=some (.int .u8 1):=hc0;clear hc0)
    have k0:=fun u:Ext w1=>u.cell hc0'
    refine wp_region_typed w1 10 (by kernel_rfl) (by kernel_rfl) (Below.refl _ _) ?_;simp only [List.take_succ_cons,List.take_zero,List.take_nil]
    iterate 10 (refine wpX_step (by rfl) (fun K hK=>?_);go_simp;first|(refine hK _ ?_;clear hK K)|(apply Exists.intro;refine ⟨fun _=>?_,hK _ ?_⟩;fail;clear hK K))
    refine wpX_end rfl ?_
    rintro w2 hw2
    simp only [List.reverse_nil,forallRel]
    have hr2:=RowOf.kept h2 hw2
    have hb2:=Below.then b1 hw2
    clear k0
    go_wp2
    go_ret3
    exact ⟨_,rfl,by first|exact hr2|simpa using hr2,hb2⟩
   ·by_cases hy0:y.toNat=0
    ·obtain rfl:y=0:=UInt8.toNat_inj.1 hy0
     clear hy0
     obtain ⟨e1,e2,e3⟩:=hun 2 true (by simp) (by simp)
     rw [e1,e2,e3]
     clear hun e1 e2 e3 h3
     go_enter Tryz.func148,Tryz.ntmps148
     go_wp2_with (go_at_call 90;(with_reducible refine (halves_l a n c m b Hn.out Hm.out _ h hl).mono ?_);rintro e w1 ⟨a1,c1,rfl,h1,b1⟩;obtain ⟨blk,off,rfl,hc0,hc1⟩:=Hcell.out _ _ _ h1;obtain ⟨a2,c2,hs2,h2⟩:=HF2.out _ _ _ h1;have hc0':w1.cell? ⟨blk,off,none⟩=some (.int .u8 2):=hc0;clear hc0;have hc1':w1.cell? ⟨blk,off+1,none⟩=some (.int .u8 0):=hc1;clear hc1)
     have k0:=fun u:Ext w1=>u.cell hc0'
     refine wp_region_typed w1 10 (by kernel_rfl) (by kernel_rfl) (Below.refl _ _) ?_;simp only [List.take_succ_cons,List.take_zero,List.take_nil]
     iterate 10 (refine wpX_step (by rfl) (fun K hK=>?_);go_simp;first|(refine hK _ ?_;clear hK K)|(apply Exists.intro;refine ⟨fun _=>?_,hK _ ?_⟩;fail;clear hK K))
     refine wpX_end rfl ?_
     rintro w2 hw2
     simp only [List.reverse_nil,forallRel]
     have hr2:=RowOf.kept h2 hw2
     have hb2:=Below.then b1 hw2
     clear k0
     go_wp2
     go_ret3
     exact ⟨_,rfl,by first|exact hr2|simpa using hr2,hb2⟩
    ·obtain ⟨e1,e2,e3⟩:=hun 0 false (by simp [hy0]) rfl
     rw [e1,e2,e3]
     have hd:((y.toNat:Int) != 0)=true:=by rw [bne_iff_ne];omega
     clear hun e1 e2 e3 h3 hy0
     go_enter Tryz.func148,Tryz.ntmps148
     go_wp2_with (go_at_call 90;(with_reducible refine (halves_l a n c m b Hn.out Hm.out _ h hl).mono ?_);rintro e w1 ⟨a1,c1,rfl,h1,b1⟩;obtain ⟨blk,off,rfl,hc0,hc1⟩:=Hcell.out _ _ _ h1;have hc0':w1.cell? ⟨blk,off,none⟩=some (.int .u8 2):=hc0;clear hc0)
     go_ret3
     exact ⟨_,rfl,RowOf.nil _ _ _,b1⟩
   ·obtain ⟨e1,e2,e3⟩:=hun 1 true (by simp) (by simp)
    rw [e1,e2,e3]
    clear hun e1 e2 e3 h3
    go_enter Tryz.func148,Tryz.ntmps148
    go_wp2_with (go_at_call 90;(with_reducible refine (halves_l a n c m b Hn.out Hm.out _ h hl).mono ?_);rintro e w1 ⟨a1,c1,rfl,h1,b1⟩;obtain ⟨blk,off,rfl,hc0,hc1⟩:=Hcell.out _ _ _ h1;obtain ⟨a2,c2,hs2,h2⟩:=HF1.out _ _ _ h1;have hc0':w1.cell? ⟨blk,off,none⟩=some (.int .u8 3):=hc0;clear hc0)
    have k0:=fun u:Ext w1=>u.cell hc0'
    refine wp_region_typed w1 10 (by kernel_rfl) (by kernel_rfl) (Below.refl _ _) ?_;simp only [List.take_succ_cons,List.take_zero,List.take_nil]
    iterate 10 (refine wpX_step (by rfl) (fun K hK=>?_);go_simp;first|(refine hK _ ?_;clear hK K)|(apply Exists.intro;refine ⟨fun _=>?_,hK _ ?_⟩;fail;clear hK K))
    refine wpX_end rfl ?_
    rintro w2 hw2
    simp only [List.reverse_nil,forallRel]
    have hr2:=RowOf.kept h2 hw2
    have hb2:=Below.then b1 hw2
    clear k0
    go_wp2
    go_ret3
    exact ⟨_,rfl,by first|exact hr2|simpa using hr2,hb2⟩
theorem ntag_part (a:Option Addr)(n c:Nat)(b:List UInt8)(k:Nat)(leaf:Bool)(hn:((halvesL b).drop k).length=n)(w:World)(h:Bytes w (.slice a n c) ((halvesL b).drop k))(hl:n+2≤140737488355328) :
  Calls Tryz.prog 167 #[.slice a n c,.bool leaf] w fun e w'=>∃ v,e=.returned (.tuple #[v,.int .i64 0])∧Bytes w' v (joinR (tagL ((halvesL b).drop k) leaf))∧Below w.heap.size w w':=by
 have:=ntag_any a n c ((halvesL b).drop k) leaf hn w h hl
 rw [(join_yes (tag_part_ok b k leaf)).1] at this
 exact this
theorem str_conv {w:World}{v:Value}{l:List UInt8}(h:Bytes w v l):(convert 25 9 v).run Tryz.prog w=.ok (str l) w:=run_str elU8.ht (by kernel_rfl) (by kernel_rfl) h
theorem nuntag_any (a:Option Addr)(n c:Nat)(b:List UInt8)(hn:b.length=n)(w:World)(h:Bytes w (.slice a n c) b)(hl:2*n≤140737488355000) :
  Calls Tryz.prog 152 #[.slice a n c] w fun e w'=>∃ v,e=.returned (.tuple #[v,.bool (unLeaf b),.int .i64 (unE b)])∧Bytes w' v (unP b)∧Below w.heap.size w w':=by
 obtain ⟨m,hm⟩:∃ m,m=2*n:=⟨_,rfl⟩
 have hmul:(2:Int)*(n:Int)=(m:Int):=by omega
 have Hn:=Lib.hid hn
 have Hm:=Lib.hid hm
 have hlen:(halvesL b).length=m:=by rw [halves_len,hm,hn]
 have Hlen:=Lib.hid hlen
 have hm2:m % 2=0:=by omega
 have hmb:m≤140737488355000:=by omega
 have hb0:m=0→b=[]:=by intro h0;exact List.eq_nil_of_length_eq_zero (by omega)
 have hb1:m≠0→b≠[]:=by rintro h0 rfl;simp at hn;omega
 have Hb0:=Lib.hid hb0
 have Hb1:=Lib.hid hb1
 clear hn hm hlen hb0 hb1
 go_enter Tryz.func152,Tryz.ntmps152
 go_wp2
 go_loopw [5] (fun f wr=>∃ k:Nat,1≤k∧k≤3∧f=.int .i64 (k:Int)∧(∀ j leaf,1≤j→j<k→hits b j leaf=false)∧Below w.heap.size w wr) (fun f _=>3 - (intOf f).toNat)
 case atStart=>exact ⟨1,by omega,by omega,rfl,fun j leaf h1 h2=>by omega,Below.refl _ _⟩
 case round =>
  obtain ⟨k,hk1,hk3,rfl,hall,hbel⟩:=hrel
  have Hall:=Lib.hid hall
  clear hall
  by_cases hk:k≤2
  ·by_cases hm0:m=0
   ·obtain ⟨_,e1,e2,e3⟩:=un_none b (.inl (Hb0.out hm0))
    have HE:=Lib.hid (And.intro e1 (And.intro e2 e3))
    have hd1:decide ((k:Int)≤2)=true:=by rw [decide_eq_true_eq];omega
    have hd2:decide ((k:Int)≤(m:Int))=false:=by rw [decide_eq_false_iff_not];omega
    have hd3:decide (k≤m)=false:=by rw [decide_eq_false_iff_not];omega
    clear hm0 e1 e2 e3
    go_wp2
    go_ret3
    exact ⟨_,by rw [HE.out.1,HE.out.2.2];rfl,by rw [HE.out.2.1];exact RowOf.nil _ _ _,hbel⟩
   ·have hd1:decide ((k:Int)≤2)=true:=by rw [decide_eq_true_eq];omega
    have hd2:decide ((k:Int)≤(m:Int))=true:=by rw [decide_eq_true_eq];omega
    have hd3:decide (k≤m)=true:=by rw [decide_eq_true_eq];omega
    have hkm:k≤m:=by omega
    have Hne:=Lib.hid (Hb1.out hm0)
    clear hm0
    have hblk0:=Blk.new wr 4 [.bool false,.bool true]
    have hbel0:=hbel.alloc hbel.size (.cells #[.bool false,.bool true] 4)
    obtain ⟨g,hg⟩:∃ g,g=wr.heap.size:=⟨_,rfl⟩
    rw [←hg] at hblk0
    have hgw:w.heap.size≤g:=by rw [hg];exact hbel.size
    have Hg:=Lib.hid hg
    clear hg
    go_wp2
    rw [show wr.heap.size=g from Hg.out.symm]
    clear Hg
    obtain ⟨wo,rfl⟩:∃ wo:World,wo=wr:=⟨_,rfl⟩
    go_loopw [24] (fun ix wi=>∃ j:Nat,j≤2∧ix=.int .i64 (j:Int)∧(1≤j→hits b k false=false)∧(2≤j→hits b k true=false)∧Blk 4 wi g [.bool false,.bool true]∧Below w.heap.size w wi) (fun ix _=>2 - (intOf ix).toNat)
    case atStart=>exact ⟨0,by omega,rfl,fun h=>by omega,fun h=>by omega,hblk0,hbel0⟩
    case round =>
     clear hblk0 hbel0
     obtain ⟨j,hj,rfl,hf,ht,hblk,hbel⟩:=hrel
     have Hf:=Lib.hid hf
     have Ht:=Lib.hid ht
     clear hf ht
     have key:∀ leaf:Bool,∀ w1 a1 c1,Bytes w1 (.slice a1 m c1) (halvesL b)→∃ a2 c2,(∀ k' w',(Instr.slice 25 (.slice a1 m c1) (some (.int k' (k:Int))) none none).run Tryz.prog w'=.ok (.slice a2 (m - k) c2) w')∧Bytes w1 (.slice a2 (m - k) c2) ((halvesL b).drop k) :=
      fun leaf w1 a1 c1 h1=>RowOf.from elU8 h1 k hkm (k:Int) rfl
     have Key:=Lib.hid key
     clear key
     have hdl:((halvesL b).drop k).length=m - k:=by rw [List.length_drop,Hlen.out]
     have Hdl:=Lib.hid hdl
     clear hdl
     obtain ⟨q,hq⟩:∃ q,q=m - k:=⟨_,rfl⟩
     rw [←hq] at Key Hdl
     have hqb:q+2≤140737488355328:=by omega
     clear hq
     by_cases hj2:j<2
     ·rcases (show j=0∨j=1 from by omega) with rfl|rfl
      ·have hc:=hblk.cell 0
       cases hh:hits b k false with
       | true =>
        obtain ⟨_,e1,e2,e3⟩:=un_found b k false (by omega) Hne.out hh
        have HE:=Lib.hid (And.intro e1 (And.intro e2 e3))
        unfold hits at hh
        have HH:=Lib.hid hh
        clear hh e1 e2 e3
        go_wp2_with (first
         |(go_at_call 95;(with_reducible refine (nhalves_l a n c m b Hn.out Hm.out _ (h.below hbel) (by omega)).mono ?_);rintro e w1 ⟨a1,c1,rfl,h1,b1⟩;obtain ⟨a2,c2,hs2,h2⟩:=Key.out false _ _ _ h1)
         |(go_at_call 167;(with_reducible refine (ntag_part a2 q c2 b k false Hdl.out _ h2 hqb).mono ?_);rintro e w2 ⟨v2,rfl,h3,b2⟩;have hbel2:=Below.then (Below.then hbel b1) b2;have hs4:=str_conv h3;have hs5:=str_conv (h.below hbel2);have hs6:=HH.out))
        go_ret3
        have h2':=RowOf.kept h2 b2
        exact ⟨_,by rw [HE.out.1,HE.out.2.2];rfl,by rw [HE.out.2.1];exact h2',hbel2⟩
       | false =>
        have HN:=Lib.hid hh
        unfold hits at hh
        have HH:=Lib.hid hh
        clear hh
        go_wp2_with (first
         |(go_at_call 95;(with_reducible refine (nhalves_l a n c m b Hn.out Hm.out _ (h.below hbel) (by omega)).mono ?_);rintro e w1 ⟨a1,c1,rfl,h1,b1⟩;obtain ⟨a2,c2,hs2,h2⟩:=Key.out false _ _ _ h1)
         |(go_at_call 167;(with_reducible refine (ntag_part a2 q c2 b k false Hdl.out _ h2 hqb).mono ?_);rintro e w2 ⟨v2,rfl,h3,b2⟩;have hbel2:=Below.then (Below.then hbel b1) b2;have hs4:=str_conv h3;have hs5:=str_conv (h.below hbel2);have hs6:=HH.out))
        have hblk2:=(hblk.kept b1).kept b2
        go_roundw
        case rel=>exact ⟨1,by omega,by first|rfl|go_num,by first|exact fun _=>HN.out|trivial|(intros;first|trivial|exact HN.out),fun h=>by omega,hblk2,hbel2⟩
        case measure=>simp [intOf]<;>omega
      ·have hc:=hblk.cell 1
       cases hh:hits b k true with
       | true =>
        obtain ⟨_,e1,e2,e3⟩:=un_found b k true (by omega) Hne.out hh
        have HE:=Lib.hid (And.intro e1 (And.intro e2 e3))
        unfold hits at hh
        have HH:=Lib.hid hh
        clear hh e1 e2 e3
        go_wp2_with (first
         |(go_at_call 95;(with_reducible refine (nhalves_l a n c m b Hn.out Hm.out _ (h.below hbel) (by omega)).mono ?_);rintro e w1 ⟨a1,c1,rfl,h1,b1⟩;obtain ⟨a2,c2,hs2,h2⟩:=Key.out true _ _ _ h1)
         |(go_at_call 167;(with_reducible refine (ntag_part a2 q c2 b k true Hdl.out _ h2 hqb).mono ?_);rintro e w2 ⟨v2,rfl,h3,b2⟩;have hbel2:=Below.then (Below.then hbel b1) b2;have hs4:=str_conv h3;have hs5:=str_conv (h.below hbel2);have hs6:=HH.out))
        go_ret3
        have h2':=RowOf.kept h2 b2
        exact ⟨_,by rw [HE.out.1,HE.out.2.2];rfl,by rw [HE.out.2.1];exact h2',hbel2⟩
       | false =>
        have HN:=Lib.hid hh
        unfold hits at hh
        have HH:=Lib.hid hh
        clear hh
        go_wp2_with (first
         |(go_at_call 95;(with_reducible refine (nhalves_l a n c m b Hn.out Hm.out _ (h.below hbel) (by omega)).mono ?_);rintro e w1 ⟨a1,c1,rfl,h1,b1⟩;obtain ⟨a2,c2,hs2,h2⟩:=Key.out true _ _ _ h1)
         |(go_at_call 167;(with_reducible refine (ntag_part a2 q c2 b k true Hdl.out _ h2 hqb).mono ?_);rintro e w2 ⟨v2,rfl,h3,b2⟩;have hbel2:=Below.then (Below.then hbel b1) b2;have hs4:=str_conv h3;have hs5:=str_conv (h.below hbel2);have hs6:=HH.out))
        have hblk2:=(hblk.kept b1).kept b2
        go_roundw
        case rel=>exact ⟨2,by omega,by first|rfl|go_num,fun _=>Hf.out (by omega),by first|exact fun _=>HN.out|trivial|(intros;first|trivial|exact HN.out),hblk2,hbel2⟩
        case measure=>simp [intOf]<;>omega
     ·obtain rfl:j=2:=by omega
      have HK:=Lib.hid (And.intro (Hf.out (by omega)) (Ht.out (by omega)))
      go_wp2
      go_roundw
      case rel=>exact ⟨k+1,by omega,by omega,by go_num,fun j leaf h1 h2=>by
       by_cases hjk:j<k
       ·exact Hall.out j leaf h1 hjk
       ·obtain rfl:j=k:=by omega
        cases leaf
        ·exact HK.out.1
        ·exact HK.out.2,hbel⟩
      case measure=>simp [intOf];omega
  ·obtain rfl:k=3:=by omega
   obtain ⟨_,e1,e2,e3⟩:=un_none b (.inr (fun k leaf hk=>Hall.out k leaf (by omega) (by omega)))
   have HE:=Lib.hid (And.intro e1 (And.intro e2 e3))
   clear e1 e2 e3
   go_wp2
   go_ret3
   exact ⟨_,by rw [HE.out.1,HE.out.2.2];rfl,by rw [HE.out.2.1];exact RowOf.nil _ _ _,hbel⟩
end Go.Proofs.YtcgpjceopnfahaaGreat
