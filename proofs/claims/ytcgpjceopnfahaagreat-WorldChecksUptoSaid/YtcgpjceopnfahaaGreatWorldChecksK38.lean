/- The walk of the law RootReads. | What codes show of a key: plain Lean. | The reference's way. | proof.next. | '==' of hashes. | Hashes as lists of 32 bytes: '== -/
import Derived.Test.YtcgpjceopnfahaaGreatWorldChecksK37
import Derived.Test.YtcgpjceopnfahaaGreatWorldChecksK31
import Derived.Test.YtcgpjceopnfahaaGreatWorldChecksK02
import Derived.Test.YtcgpjceopnfahaaGreatWorldChecksK05
import Derived.Test.YtcgpjceopnfahaaGreatWorldChecksK04
import Derived.Test.YtcgpjceopnfahaaGreatWorldChecksK01
set_option linter.unusedSimpArgs false
set_option linter.unusedVariables false
set_option maxHeartbeats 4000000
set_option maxRecDepth 100000
namespace Go.Proofs.YtcgpjceopnfahaaGreat
open Go.RowKit
theorem rread_any (a:Option Addr)(L c:Nat)(b:List UInt8)(hL:b.length=L)(hLs:L≤1048576)(w:World)(h:Bytes w (.slice a L c) b):Calls Tryz.prog 98 #[.slice a L c] w (RdPost (rdB b) w):=by
 cases hd:dec b with
 | none =>
  have hr:rdB b=none:=by unfold rdB;rw [hd]
  rw [hr]
  exact read_no a L c b hL hLs hd w h
 | some p =>
  cases hs:shpP p with
  | none =>
   have hr:rdB b=none:=by unfold rdB;rw [hd];dsimp only;rw [hs]
   rw [hr]
   exact read_odd a L c b hL hLs p hd hs w h
  | some s =>
   have hr:rdB b=if okQ s=true then some s else none:=by unfold rdB;rw [hd];dsimp only;rw [hs]
   rw [hr]
   cases ho:okQ s with
   | false=>exact read_bad a L c b hL hLs p s hd hs ho w h
   | true=>exact read_yes a L c b hL hLs p s hd hs ho w h
theorem rd_le {b:List UInt8}{s:Shq}(h:rdB b=some s)(hb:b.length≤1048576):okQ s=true∧s.2.1.length≤4194304∧s.2.2.1.length≤1048576∧s.2.2.2.length≤1048576∧∀ t∈s.2.2.2,t.length≤1048576:=by
 unfold rdB at h
 cases hd:dec b with
 | none=>rw [hd] at h;simp at h
 | some p =>
  rw [hd] at h
  dsimp only at h
  cases hs:shpP p with
  | none=>rw [hs] at h;simp at h
  | some s2 =>
   rw [hs] at h
   dsimp only at h
   split at h
   ·rename_i ho
    simp only [Option.some.injEq] at h
    subst h
    exact ⟨ho,shp_le hs (by rw [←dec_back hd];exact hb)⟩
   ·simp at h
def nxtP (s:Shq)(p:List UInt8):List UInt8 × List UInt8 × List UInt8 :=
 if s.1=1 then (if s.2.1=p then ([],[],s.2.2.1) else ([],[],[]))
 else if s.1=2 then (if com s.2.1 p=s.2.1.length then (s.2.2.2[0]?.getD [],p.drop s.2.1.length,[]) else ([],[],[]))
 else if s.1=3 then (match p with
  | []=>([],[],s.2.2.1)
  | x::p=>(s.2.2.2[x.toNat]?.getD [],p,[]))
 else ([],[],[])
def shw (h left:List UInt8):Bool→List (List UInt8)→List UInt8 × Int
 | _,[]=>([],5)
 | first,c::cs=>if sumB c=h then
   (match rdB c with
   | none=>([],1)
   | some s=>if first=false∧s.1=0 then ([],1)
    else if (nxtP s left).1=[] then (if cs=[] then ((nxtP s left).2.2,0) else ([],6))
    else shw (nxtP s left).1 (nxtP s left).2.1 false cs)
  else ([],4)
theorem okQ_kinds {s:Shq}(h:okQ s=true):s.1=0∨s.1=1∨(s.1=2∧s.2.2.2.length=1∧(s.2.2.2[0]?.getD []).length=32)∨(s.1=3∧s.2.2.2.length=16∧∀ k∈s.2.2.2,k.length=32∨k.length=0):=by
 unfold okQ shOk at h
 by_cases h0:s.1=0
 ·exact .inl h0
 ·rw [if_neg h0] at h
  by_cases h1:s.1=1
  ·exact .inr (.inl h1)
  ·rw [if_neg h1] at h
   by_cases h2:s.1=2
   ·rw [if_pos h2] at h
    simp only [Bool.and_eq_true,decide_eq_true_eq] at h
    exact .inr (.inr (.inl ⟨h2,h.1.2,h.2⟩))
   ·rw [if_neg h2] at h
    by_cases h3:s.1=3
    ·rw [if_pos h3] at h
     simp only [Bool.and_eq_true,decide_eq_true_eq,List.all_eq_true] at h
     refine .inr (.inr (.inr ⟨h3,h.1.1.1,fun k hk=>?_⟩))
     have:=h.1.2 k hk
     unfold sumOk at this
     simpa using this
    ·rw [if_neg h3] at h
     simp at h
theorem com_all (p:List UInt8):∀ q,com p q=p.length↔p.length≤q.length∧q.take p.length=p:=by
 induction p with
 | nil=>intro q;cases q<;>simp [com]
 | cons x p ih =>
  intro q
  cases q with
  | nil=>simp [com]
  | cons y q =>
   unfold com
   by_cases h:x=y
   ·subst h
    rw [if_pos rfl]
    have:=ih q
    simp only [List.length_cons,List.take_succ_cons,List.cons.injEq,true_and]
    constructor
    ·intro e
     obtain ⟨h1,h2⟩:=this.1 (by omega)
     exact ⟨by omega,h2⟩
    ·rintro ⟨h1,h2⟩
     have:=this.2 ⟨by omega,h2⟩
     omega
   ·rw [if_neg h]
    simp only [List.length_cons,List.take_succ_cons,List.cons.injEq]
    constructor
    ·intro e;omega
    ·rintro ⟨_,h2,_⟩;exact absurd h2.symm h
def wayP (kd:Int)(p q:List UInt8):Int × List UInt8 × Bool :=
 if kd=1 then (-1,[],p==q)
 else if kd=2 then (if p.length≤q.length∧q.take p.length=p then (0,q.drop p.length,false) else (-1,[],false))
 else if kd=3 then (match q with
  | []=>(-1,[],true)
  | x::q=>((x.toNat:Int),q,false))
 else (-1,[],false)
theorem way_next {s:Shq}(h:okQ s=true)(q:List UInt8)(hq:∀ x∈q,x.toNat<16) :
  ((wayP s.1 s.2.1 q).1=-1∧(nxtP s q).1=[]∧(nxtP s q).2.2=if (wayP s.1 s.2.1 q).2.2=true then s.2.2.1 else []) ∨
  ∃ k:Nat,(wayP s.1 s.2.1 q).1=(k:Int)∧k<s.2.2.2.length∧(nxtP s q).1=s.2.2.2[k]?.getD []∧(nxtP s q).2.1=(wayP s.1 s.2.1 q).2.1∧(nxtP s q).2.2=[]∧(wayP s.1 s.2.1 q).2.2=false∧((nxtP s q).1.length=32∨(nxtP s q).1.length=0):=by
 rcases okQ_kinds h with h0|h1|⟨h2,h21,h22⟩|⟨h3,h31,h32⟩
 ·left
  unfold wayP nxtP
  rw [h0]
  simp
 ·left
  unfold wayP nxtP
  rw [h1]
  by_cases he:s.2.1=q
  ·simp [he]
  ·have:(s.2.1==q)=false:=by rw [beq_eq_false_iff_ne];exact he
   simp [he]
 ·unfold wayP nxtP
  simp only [h2,Int.reduceEq,reduceIte]
  by_cases hc:com s.2.1 q=s.2.1.length
  ·right
   rw [if_pos hc,if_pos ((com_all _ _).1 hc)]
   exact ⟨0,rfl,by omega,rfl,rfl,rfl,rfl,.inl h22⟩
  ·left
   rw [if_neg hc,if_neg (fun e=>hc ((com_all _ _).2 e))]
   exact ⟨rfl,rfl,rfl⟩
 ·unfold wayP nxtP
  simp only [h3,Int.reduceEq,reduceIte]
  cases q with
  | nil=>left;exact ⟨rfl,rfl,rfl⟩
  | cons x q =>
   right
   have hx:=hq x List.mem_cons_self
   refine ⟨x.toNat,rfl,by omega,rfl,rfl,rfl,rfl,?_⟩
   dsimp only
   have:s.2.2.2[x.toNat]?=some (s.2.2.2[x.toNat]'(by omega)):=List.getElem?_eq_getElem (by omega)
   rw [this]
   exact h32 _ (List.getElem_mem _)
theorem nxt_rest {s:Shq}{q:List UInt8}(hq:∀ x∈q,x.toNat<16):∀ x∈(nxtP s q).2.1,x.toNat<16:=by
 intro x hx
 unfold nxtP at hx
 split at hx
 ·split at hx<;>simp at hx
 ·split at hx
  ·split at hx
   ·exact hq x (List.mem_of_mem_drop hx)
   ·simp at hx
  ·split at hx
   ·cases q with
    | nil=>simp at hx
    | cons y q=>exact hq x (List.mem_cons_of_mem _ hx)
   ·simp at hx
theorem way_any (kd:Int)(pa:Option Addr)(pn pc:Nat)(p q:List UInt8)(hpn:p.length=pn)(hq:q.length≤1000000000)(w:World)(hp:Bytes w (.slice pa pn pc) p)(hk:kd=0∨kd=1∨kd=2∨kd=3) :
  Calls Tryz.prog 120 #[.int .i64 kd,.slice pa pn pc,.string ⟨q.toArray⟩] w fun e w'=>e=.returned (.tuple #[.int .i64 (wayP kd p q).1,.string ⟨(wayP kd p q).2.1.toArray⟩,.bool (wayP kd p q).2.2])∧Below w.heap.size w w':=by
 have c1:=fun u:Ext w=>run_str (P:=Tryz.prog) (src:=25) (dst:=9) elU8.ht (by kernel_rfl) (by kernel_rfl) (hp.below u.bel)
 have hsz:=str_size q
 rcases hk with rfl|rfl|rfl|rfl
 ·go_enter Tryz.func120,Tryz.ntmps120
  go_wp2_with fail
  go_ret3
  exact ⟨rfl,Below.refl _ _⟩
 ·have hw:wayP 1 p q=(-1,[],p==q):=rfl
  rw [hw]
  go_enter Tryz.func120,Tryz.ntmps120
  go_wp2_with fail
  refine wp_region_typed w 7 (by kernel_rfl) (by kernel_rfl) (Below.refl _ _) ?_;simp only [List.take_succ_cons,List.take_zero,List.take_nil]
  iterate 7 (refine wpX_step (by rfl) (fun K hK=>?_);go_simp;first|(refine hK _ ?_;clear hK K)|(apply Exists.intro;refine ⟨fun _=>?_,hK _ ?_⟩;fail;clear hK K))
  refine wpX_nil ?_
  intro u2 hb2
  simp only [List.reverse_nil,forallRel]
  change wpList _ _ _ [] _ _
  go_wp2_with fail
  go_ret3
  exact ⟨rfl,hb2⟩
 ·have hw:wayP 2 p q=if p.length≤q.length∧q.take p.length=p then (0,q.drop p.length,false) else (-1,[],false):=rfl
  rw [hw]
  by_cases hle:p.length≤q.length
  ·have r1:=str_to (P:=Tryz.prog) (t:=9) (by kernel_rfl) q pn (pn:Int) rfl (by omega)
   have r2:=str_from (P:=Tryz.prog) (t:=9) (by kernel_rfl) q pn (pn:Int) rfl (by omega)
   have hle2:(pn:Int)≤(q.length:Int):=by omega
   by_cases he:q.take p.length=p
   ·rw [if_pos ⟨hle,he⟩]
    rw [hpn] at he ⊢
    have Hle:=Lib.hid hle
    clear hle
    go_enter Tryz.func120,Tryz.ntmps120
    go_wp2_with fail
    refine wp_region_typed w 14 (by kernel_rfl) (by kernel_rfl) (Below.refl _ _) ?_;simp only [List.take_succ_cons,List.take_zero,List.take_nil]
    iterate 14 (refine wpX_step (by rfl) (fun K hK=>?_);go_simp;first|(refine hK _ ?_;clear hK K)|(apply Exists.intro;refine ⟨fun _=>?_,hK _ ?_⟩;fail;clear hK K))
    refine wpX_nil ?_
    intro u2 hb2
    simp only [List.reverse_nil,forallRel]
    change wpList _ _ _ [] _ _
    go_wp2_with fail
    refine wp_region_typed u2 7 (by kernel_rfl) (by kernel_rfl) (Below.refl _ _) ?_;simp only [List.take_succ_cons,List.take_zero,List.take_nil]
    iterate 7 (refine wpX_step (by rfl) (fun K hK=>?_);go_simp;first|(refine hK _ ?_;clear hK K)|(apply Exists.intro;refine ⟨fun _=>?_,hK _ ?_⟩;fail;clear hK K))
    refine wpX_nil ?_
    intro u3 hb3
    simp only [List.reverse_nil,forallRel]
    change wpList _ _ _ [] _ _
    go_wp2_with fail
    go_ret3
    exact ⟨rfl,Below.then hb2 hb3⟩
   ·rw [if_neg (fun e=>he e.2)]
    rw [hpn] at he
    have he2:(q.take pn==p)=false:=by rw [beq_eq_false_iff_ne];exact he
    have Hle:=Lib.hid hle
    clear hle he
    go_enter Tryz.func120,Tryz.ntmps120
    go_wp2_with fail
    refine wp_region_typed w 14 (by kernel_rfl) (by kernel_rfl) (Below.refl _ _) ?_;simp only [List.take_succ_cons,List.take_zero,List.take_nil]
    iterate 14 (refine wpX_step (by rfl) (fun K hK=>?_);go_simp;first|(refine hK _ ?_;clear hK K)|(apply Exists.intro;refine ⟨fun _=>?_,hK _ ?_⟩;fail;clear hK K))
    refine wpX_nil ?_
    intro u2 hb2
    simp only [List.reverse_nil,forallRel]
    change wpList _ _ _ [] _ _
    go_wp2_with fail
    go_ret3
    exact ⟨rfl,hb2⟩
  ·have hle2:¬ (pn:Int)≤(q.length:Int):=by omega
   rw [if_neg (fun e=>hle e.1)]
   rw [hpn] at hle
   clear hle2
   go_enter Tryz.func120,Tryz.ntmps120
   go_wp2_with fail
   refine wp_region_typed w 14 (by kernel_rfl) (by kernel_rfl) (Below.refl _ _) ?_;simp only [List.take_succ_cons,List.take_zero,List.take_nil]
   iterate 14 (refine wpX_step (by rfl) (fun K hK=>?_);go_simp;first|(refine hK _ ?_;clear hK K)|(apply Exists.intro;refine ⟨fun _=>?_,hK _ ?_⟩;fail;clear hK K))
   refine wpX_nil ?_
   intro u2 hb2
   simp only [List.reverse_nil,forallRel]
   change wpList _ _ _ [] _ _
   go_wp2_with fail
   go_ret3
   exact ⟨rfl,hb2⟩
 ·cases q with
  | nil =>
   go_enter Tryz.func120,Tryz.ntmps120
   go_wp2_with fail
   go_ret3
   exact ⟨rfl,Below.refl _ _⟩
  | cons x q =>
   have r1:=str_at (P:=Tryz.prog) (t:=9) (by kernel_rfl) (x::q) 0 0 rfl x rfl
   have r2:=str_from (P:=Tryz.prog) (t:=9) (by kernel_rfl) (x::q) 1 1 rfl (by simp)
   have hwx:IntKind.i64.wrap (x.toNat:Int)=(x.toNat:Int):=IntWalk.i64_in _ (by have:=x.toNat_lt;omega)
   have hw:wayP 3 p (x::q)=((x.toNat:Int),q,false):=rfl
   rw [hw]
   change ∀ k w,(Instr.slice 9 (.string ⟨(x::q).toArray⟩) (some (.int k 1)) none none).run Tryz.prog w=.ok (.string ⟨q.toArray⟩) w at r2
   go_enter Tryz.func120,Tryz.ntmps120
   go_wp2_with fail
   refine wp_region_typed w 8 (by kernel_rfl) (by kernel_rfl) (Below.refl _ _) ?_;simp only [List.take_succ_cons,List.take_zero,List.take_nil]
   iterate 8 (refine wpX_step (by rfl) (fun K hK=>?_);go_simp;first|(refine hK _ ?_;clear hK K)|(apply Exists.intro;refine ⟨fun _=>?_,hK _ ?_⟩;fail;clear hK K))
   refine wpX_nil ?_
   intro u2 hb2
   simp only [List.reverse_nil,forallRel]
   change wpList _ _ _ [] _ _
   go_wp2_with fail
   go_ret3
   exact ⟨rfl,hb2⟩
def NextPost (o:List UInt8 × List UInt8 × List UInt8)(w:World)(e:Ending)(w':World):Prop :=
 ∃ (a1:Option Addr) (c1:Nat) (a2:Option Addr) (c2:Nat) (a3:Option Addr) (c3:Nat),e=.returned (.tuple #[.slice a1 o.1.length c1,.slice a2 o.2.1.length c2,.slice a3 o.2.2.length c3])∧Below w.heap.size w w' ∧
  Bytes w' (.slice a1 o.1.length c1) o.1∧Bytes w' (.slice a2 o.2.1.length c2) o.2.1∧Bytes w' (.slice a3 o.2.2.length c3) o.2.2
theorem bdr {B:Nat}{a w:World}(h:Below B a w)(n:Nat):Below B a (w.drewN n):=h.trans ⟨rfl,rfl,rfl,Nat.le_refl _,fun _ _=>rfl⟩
section
variable (pa va ka qa:Option Addr) (pn pc vn vc kn kc qn qc:Nat) (p v q:List UInt8) (ps:List (Value × List UInt8)) (hpn:p.length=pn) (hvn:v.length=vn) (hkn:ps.length=kn) (hqn:q.length=qn)
 (w:World) (hp:Bytes w (.slice pa pn pc) p) (hv:Bytes w (.slice va vn vc) v) (hk:Texts w (.slice ka kn kc) ps) (hq:Bytes w (.slice qa qn qc) q)
include hpn hvn hqn hp hv hq in
theorem next_leaf:Calls Tryz.prog 99 #[.agg #[.int .i64 1,.slice pa pn pc,.slice va vn vc,.slice ka kn kc],.slice qa qn qc] w (NextPost (nxtP (1,p,v,ps.map (·.2)) q) w):=by
 have hs1:=Blk.new w 133 [.int .i64 1,.slice pa pn pc,.slice va vn vc,.slice ka kn kc]
 have hbel1:Below w.heap.size w (w.alloc (.cells #[.int .i64 1,.slice pa pn pc,.slice va vn vc,.slice ka kn kc] 133)):=(Below.refl _ _).alloc (Nat.le_refl _) _
 have c1:=run_str (P:=Tryz.prog) (src:=25) (dst:=9) elU8.ht (by kernel_rfl) (by kernel_rfl) (hp.below hbel1)
 have c2:=run_str (P:=Tryz.prog) (src:=25) (dst:=9) elU8.ht (by kernel_rfl) (by kernel_rfl) (hq.below hbel1)
 have hv1:=hv.below hbel1
 have hn:nxtP (1,p,v,ps.map (·.2)) q=if p=q then ([],[],v) else ([],[],[]):=by unfold nxtP;rw [if_pos rfl]
 rw [hn]
 by_cases he:p=q
 ·rw [if_pos he]
  subst he
  obtain rfl:pn=qn:=hpn.symm.trans hqn
  have H:∀ u,Below (w.alloc (.cells #[.int .i64 1,.slice pa pn pc,.slice va vn vc,.slice ka kn kc] 133)).heap.size (w.alloc (.cells #[.int .i64 1,.slice pa pn pc,.slice va vn vc,.slice ka kn kc] 133)) u→NextPost ([],[],v) w (.returned (.tuple #[.slice none 0 0,.slice none 0 0,.slice va vn vc])) u:=by
   intro u hu
   refine ⟨none,0,none,0,va,vc,by simp [hvn],Below.then hbel1 hu,RowOf.nil b8 1 _,RowOf.nil b8 1 _,?_⟩
   show Bytes _ (.slice va v.length vc) v
   rw [hvn];exact hv1.below hu
  have HH:=Lib.hid H
  clear H hn hpn hvn hqn
  go_enter Tryz.func99,Tryz.ntmps99
  go_wp2_with fail
  go_quiet (fail)
  go_wp2_with fail
  go_ret3
  exact HH.out _ (by first|exact Below.refl _ _|exact bdr (Below.refl _ _) _|exact bdr (bdr (Below.refl _ _) _) _)
 ·rw [if_neg he]
  have he2:(p==q)=false:=by rw [beq_eq_false_iff_ne];exact he
  have H:∀ u,Below (w.alloc (.cells #[.int .i64 1,.slice pa pn pc,.slice va vn vc,.slice ka kn kc] 133)).heap.size (w.alloc (.cells #[.int .i64 1,.slice pa pn pc,.slice va vn vc,.slice ka kn kc] 133)) u→NextPost ([],[],[]) w (.returned (.tuple #[.slice none 0 0,.slice none 0 0,.slice none 0 0])) u:=by
   intro u hu
   refine ⟨none,0,none,0,none,0,rfl,Below.then hbel1 hu,RowOf.nil b8 1 _,RowOf.nil b8 1 _,RowOf.nil b8 1 _⟩
  have HH:=Lib.hid H
  clear H hn hpn hvn hqn he
  go_enter Tryz.func99,Tryz.ntmps99
  go_wp2_with fail
  go_ret3
  exact HH.out _ (by first|exact Below.refl _ _|exact bdr (Below.refl _ _) _|exact bdr (bdr (Below.refl _ _) _) _)
include hpn hkn hqn hp hk hq in
theorem next_road (hk1:ps.length=1):Calls Tryz.prog 99 #[.agg #[.int .i64 2,.slice pa pn pc,.slice va vn vc,.slice ka kn kc],.slice qa qn qc] w (NextPost (nxtP (2,p,v,ps.map (·.2)) q) w):=by
 have hs1:=Blk.new w 133 [.int .i64 2,.slice pa pn pc,.slice va vn vc,.slice ka kn kc]
 have hbel1:Below w.heap.size w (w.alloc (.cells #[.int .i64 2,.slice pa pn pc,.slice va vn vc,.slice ka kn kc] 133)):=(Below.refl _ _).alloc (Nat.le_refl _) _
 have cc:=fun u (hu:Below w.heap.size w u)=>common_any pa qa pc qc p q u (by rw [hpn];exact hp.below hu) (by rw [hqn];exact hq.below hu)
 rw [hpn,hqn] at cc
 obtain ⟨y,rfl⟩:=List.length_eq_one_iff.1 hk1
 obtain ⟨kv,k0⟩:=y
 have hk0:Bytes w kv k0:=hk.2 _ (List.mem_singleton.2 rfl)
 obtain ⟨bk,ok,rfl,hc0⟩:=RowOf.cells (f:=tcell) (size:=1) (fun _=>rfl) hk.1 0 (by simp)
 have hck:w.cell? ⟨bk,ok,none⟩=some kv:=by simpa using hc0 0 kv rfl
 have hblt:=World.block_lt_of_cell? w _ hck
 obtain ⟨a0,q0,rfl,_,_⟩:=hk0.form
 obtain rfl:1=kn:=hkn
 have hc1:(w.alloc (.cells #[.int .i64 2,.slice pa pn pc,.slice va vn vc,.slice (some ⟨bk,ok,none⟩) 1 kc] 133)).cell? ⟨bk,ok,none⟩=some (.slice a0 k0.length q0):=by rw [hbel1.cell (p:=⟨bk,ok,none⟩) hblt];exact hck
 have hn:nxtP (2,p,v,[(Value.slice a0 k0.length q0,k0)].map (·.2)) q=if com p q=p.length then (k0,q.drop p.length,[]) else ([],[],[]):=by unfold nxtP;simp only [Int.reduceEq,reduceIte];rfl
 rw [hn]
 by_cases he:com p q=p.length
 ·rw [if_pos he]
  have hle:=com_le p q
  obtain ⟨a5,c5,run5,row5⟩:=RowOf.from elU8 hq pn (by rw [←hqn,←hpn,←he];omega) (pn:Int) rfl
  have he2:(com p q:Int)=(pn:Int):=by omega
  have H:∀ u,Below (w.alloc (.cells #[.int .i64 2,.slice pa pn pc,.slice va vn vc,.slice (some ⟨bk,ok,none⟩) 1 kc] 133)).heap.size (w.alloc (.cells #[.int .i64 2,.slice pa pn pc,.slice va vn vc,.slice (some ⟨bk,ok,none⟩) 1 kc] 133)) u→NextPost (k0,q.drop p.length,[]) w (.returned (.tuple #[.slice a0 k0.length q0,.slice a5 (qn - pn) c5,.slice none 0 0])) u:=by
   intro u hu
   refine ⟨a0,q0,a5,c5,none,0,by simp [hqn,hpn],Below.then hbel1 hu,hk0.below (Below.then hbel1 hu),?_,RowOf.nil b8 1 _⟩
   show Bytes _ (.slice a5 (q.drop p.length).length c5) (q.drop p.length)
   rw [List.length_drop,hqn,hpn]
   exact RowOf.below row5 (Below.then hbel1 hu)
  have HH:=Lib.hid H
  have Cc:=Lib.hid cc
  rw [he2] at cc
  have Cc:=Lib.hid cc
  obtain ⟨m5,hm5⟩:∃ m,m=qn - pn:=⟨_,rfl⟩
  rw [←hm5] at run5 HH
  clear H hn hpn hqn cc he he2 hle hm5
  go_enter Tryz.func99,Tryz.ntmps99
  go_wp2_with (go_at_call 91;(with_reducible refine (Cc.out _ hbel1).mono ?_);rintro e w2 ⟨rfl,m,rfl⟩)
  go_quiet (fail)
  go_wp2_with fail
  go_ret3
  exact HH.out _ (by first|exact Below.refl _ _|exact bdr (Below.refl _ _) _|exact bdr (bdr (Below.refl _ _) _) _)
 ·rw [if_neg he]
  have he2:((com p q:Int)==(pn:Int))=false:=by rw [beq_eq_false_iff_ne];omega
  have H:∀ u,Below (w.alloc (.cells #[.int .i64 2,.slice pa pn pc,.slice va vn vc,.slice (some ⟨bk,ok,none⟩) 1 kc] 133)).heap.size (w.alloc (.cells #[.int .i64 2,.slice pa pn pc,.slice va vn vc,.slice (some ⟨bk,ok,none⟩) 1 kc] 133)) u→NextPost ([],[],[]) w (.returned (.tuple #[.slice none 0 0,.slice none 0 0,.slice none 0 0])) u:=fun u hu=>⟨none,0,none,0,none,0,rfl,Below.then hbel1 hu,RowOf.nil b8 1 _,RowOf.nil b8 1 _,RowOf.nil b8 1 _⟩
  have HH:=Lib.hid H
  have Cc:=Lib.hid cc
  obtain ⟨cq,hcq⟩:∃ x,x=com p q:=⟨_,rfl⟩
  rw [←hcq] at he2
  have Hcq:=Lib.hid hcq
  clear H hn hpn hqn cc he hcq
  go_enter Tryz.func99,Tryz.ntmps99
  go_wp2_with (go_at_call 91;(with_reducible refine (Cc.out _ hbel1).mono ?_);rintro e w2 ⟨rfl,m,rfl⟩;rw [←Hcq.out])
  go_ret3
  exact HH.out _ (by first|exact Below.refl _ _|exact bdr (Below.refl _ _) _|exact bdr (bdr (Below.refl _ _) _) _)
include hvn hkn hqn hv hk hq in
theorem next_fork (hk16:ps.length=16)(hx16:∀ x∈q,x.toNat<16):Calls Tryz.prog 99 #[.agg #[.int .i64 3,.slice pa pn pc,.slice va vn vc,.slice ka kn kc],.slice qa qn qc] w (NextPost (nxtP (3,p,v,ps.map (·.2)) q) w):=by
 have hbel1:Below w.heap.size w (w.alloc (.cells #[.int .i64 3,.slice pa pn pc,.slice va vn vc,.slice ka kn kc] 133)):=(Below.refl _ _).alloc (Nat.le_refl _) _
 cases q with
 | nil =>
  obtain rfl:0=qn:=hqn
  have hn:nxtP (3,p,v,ps.map (·.2)) []=([],[],v):=by unfold nxtP;simp only [Int.reduceEq,reduceIte]
  rw [hn]
  have H:∀ u,Below (w.alloc (.cells #[.int .i64 3,.slice pa pn pc,.slice va vn vc,.slice ka kn kc] 133)).heap.size (w.alloc (.cells #[.int .i64 3,.slice pa pn pc,.slice va vn vc,.slice ka kn kc] 133)) u→NextPost ([],[],v) w (.returned (.tuple #[.slice none 0 0,.slice none 0 0,.slice va vn vc])) u:=by
   intro u hu
   refine ⟨none,0,none,0,va,vc,by simp [hvn],Below.then hbel1 hu,RowOf.nil b8 1 _,RowOf.nil b8 1 _,?_⟩
   show Bytes _ (.slice va v.length vc) v
   rw [hvn];exact hv.below (Below.then hbel1 hu)
  have HH:=Lib.hid H
  clear H hn hvn hkn
  go_enter Tryz.func99,Tryz.ntmps99
  go_wp2_with fail
  go_quiet (fail)
  go_wp2_with fail
  go_ret3
  exact HH.out _ (by first|exact Below.refl _ _|exact bdr (Below.refl _ _) _|exact bdr (bdr (Below.refl _ _) _) _)
 | cons x q =>
  have hx:=hx16 x List.mem_cons_self
  have hq1:1≤qn:=by rw [←hqn];simp
  have hkx:ps[x.toNat]?=some (ps[x.toNat]'(by omega)):=List.getElem?_eq_getElem (by omega)
  obtain ⟨y,hy⟩:∃ y,y=ps[x.toNat]'(by omega):=⟨_,rfl⟩
  rw [←hy] at hkx
  have hk0:Bytes w y.1 y.2:=hk.2 _ (List.mem_of_getElem? hkx)
  obtain ⟨bk,ok,rfl,hc0⟩:=RowOf.cells (f:=tcell) (size:=1) (fun _=>rfl) hk.1 x.toNat (by omega)
  rw [←hy] at hc0
  obtain ⟨kv,k0⟩:=y
  change Bytes w kv k0 at hk0
  have hck:w.cell? ⟨bk,ok+x.toNat,none⟩=some kv:=by simpa using hc0 0 kv rfl
  have hblt:=World.block_lt_of_cell? w _ hck
  obtain ⟨bq,oq,rfl,hcq⟩:=RowOf.cells (f:=b8) (size:=1) (fun _=>rfl) hq 0 (by simp)
  have hcq0:w.cell? ⟨bq,oq,none⟩=some (.int .u8 (x.toNat:Int)):=by simpa [u8v] using hcq 0 _ rfl
  have hblq:=World.block_lt_of_cell? w _ hcq0
  obtain ⟨a0,q0,rfl,_,_⟩:=hk0.form
  obtain ⟨a5,c5,run5,row5⟩:=RowOf.from elU8 hq 1 hq1 1 rfl
  have hn:nxtP (3,p,v,ps.map (·.2)) (x::q)=(k0,q,[]):=by
   unfold nxtP
   simp only [Int.reduceEq,reduceIte]
   rw [List.getElem?_map,hkx];rfl
  rw [hn]
  obtain rfl:16=kn:=hk16.symm.trans hkn
  have hc1:(w.alloc (.cells #[.int .i64 3,.slice pa pn pc,.slice va vn vc,.slice (some ⟨bk,ok,none⟩) 16 kc] 133)).cell? ⟨bk,ok+x.toNat,none⟩=some (.slice a0 k0.length q0):=by rw [hbel1.cell (p:=⟨bk,ok+x.toNat,none⟩) hblt];exact hck
  have hc2:(w.alloc (.cells #[.int .i64 3,.slice pa pn pc,.slice va vn vc,.slice (some ⟨bk,ok,none⟩) 16 kc] 133)).cell? ⟨bq,oq,none⟩=some (.int .u8 (x.toNat:Int)):=by rw [hbel1.cell (p:=⟨bq,oq,none⟩) hblq];exact hcq0
  have H:∀ u,Below (w.alloc (.cells #[.int .i64 3,.slice pa pn pc,.slice va vn vc,.slice (some ⟨bk,ok,none⟩) 16 kc] 133)).heap.size (w.alloc (.cells #[.int .i64 3,.slice pa pn pc,.slice va vn vc,.slice (some ⟨bk,ok,none⟩) 16 kc] 133)) u→NextPost (k0,q,[]) w (.returned (.tuple #[.slice a0 k0.length q0,.slice a5 (qn - 1) c5,.slice none 0 0])) u:=by
   intro u hu
   refine ⟨a0,q0,a5,c5,none,0,by simp [←hqn],Below.then hbel1 hu,hk0.below (Below.then hbel1 hu),?_,RowOf.nil b8 1 _⟩
   show Bytes _ (.slice a5 q.length c5) q
   have e:qn - 1=q.length:=by rw [←hqn];simp
   rw [←e]
   exact RowOf.below row5 (Below.then hbel1 hu)
  have HH:=Lib.hid H
  obtain ⟨m5,hm5⟩:∃ m,m=qn - 1:=⟨_,rfl⟩
  rw [←hm5] at run5 HH
  have hqp:0<qn:=by omega
  have hqi:(1:Int)≤(qn:Int):=by omega
  have hqz:((qn:Int)==0)=false:=by rw [beq_eq_false_iff_ne];omega
  have hqj:(0:Int)<(qn:Int):=by omega
  have hx2:(x.toNat:Int)<16:=by omega
  have hx3:x.toNat<16:=hx
  clear H hn hvn hqn hm5 hkx hy hck hcq0 hcq hc0
  go_enter Tryz.func99,Tryz.ntmps99
  go_wp2_with fail
  go_quiet (fail)
  go_wp2_with fail
  go_ret3
  exact HH.out _ (by first|exact Below.refl _ _|exact bdr (Below.refl _ _) _|exact bdr (bdr (Below.refl _ _) _) _)
theorem next_none:Calls Tryz.prog 99 #[.agg #[.int .i64 0,.slice pa pn pc,.slice va vn vc,.slice ka kn kc],.slice qa qn qc] w (NextPost (nxtP (0,p,v,ps.map (·.2)) q) w):=by
 have hbel1:Below w.heap.size w (w.alloc (.cells #[.int .i64 0,.slice pa pn pc,.slice va vn vc,.slice ka kn kc] 133)):=(Below.refl _ _).alloc (Nat.le_refl _) _
 have hn:nxtP (0,p,v,ps.map (·.2)) q=([],[],[]):=by unfold nxtP;simp only [Int.reduceEq,reduceIte]
 rw [hn]
 have HH:=Lib.hid hbel1
 clear hbel1 hn
 go_enter Tryz.func99,Tryz.ntmps99
 go_wp2_with fail
 go_ret3
 exact ⟨none,0,none,0,none,0,rfl,HH.out,RowOf.nil b8 1 _,RowOf.nil b8 1 _,RowOf.nil b8 1 _⟩
end
theorem next_any (kd:Int)(pa va ka qa:Option Addr)(pn pc vn vc kn kc qn qc:Nat)(p v q:List UInt8)(ps:List (Value × List UInt8))(hpn:p.length=pn)(hvn:v.length=vn)(hkn:ps.length=kn)(hqn:q.length=qn)
  (w:World) (hp:Bytes w (.slice pa pn pc) p) (hv:Bytes w (.slice va vn vc) v) (hk:Texts w (.slice ka kn kc) ps) (hq:Bytes w (.slice qa qn qc) q) (ho:okQ (kd,p,v,ps.map (·.2))=true) (hx:∀ x∈q,x.toNat<16) :
  Calls Tryz.prog 99 #[.agg #[.int .i64 kd,.slice pa pn pc,.slice va vn vc,.slice ka kn kc],.slice qa qn qc] w (NextPost (nxtP (kd,p,v,ps.map (·.2)) q) w):=by
 rcases okQ_kinds ho with h0|h1|⟨h2,h21,_⟩|⟨h3,h31,_⟩
 ·dsimp only at h0;subst h0;exact next_none pa va ka qa pn pc vn vc kn kc qn qc p v q ps w
 ·dsimp only at h1;subst h1;exact next_leaf pa va ka qa pn pc vn vc kn kc qn qc p v q ps hpn hvn hqn w hp hv hq
 ·dsimp only at h2 h21;subst h2;exact next_road pa va ka qa pn pc vn vc kn kc qn qc p v q ps hpn hkn hqn w hp hk hq (by simpa using h21)
 ·dsimp only at h3 h31;subst h3;exact next_fork pa va ka qa pn pc vn vc kn kc qn qc p v q ps hvn hkn hqn w hv hk hq (by simpa using h31) hx
theorem map_u8_inj (L M:List UInt8):((L.map fun x=>(x.toNat:Int)) == (M.map fun x=>(x.toNat:Int)))=(L == M):=by
 rw [Bool.eq_iff_iff]
 simp only [beq_iff_eq]
 constructor
 ·intro e
  have inj:∀ a b:UInt8,(a.toNat:Int)=(b.toNat:Int)→a=b:=fun a b h=>UInt8.toNat_inj.1 (by omega)
  apply List.ext_getElem?
  intro i
  have h1:=congrArg (fun l:List Int=>l[i]?) e
  simp only [List.getElem?_map] at h1
  cases h3:L[i]? with
  | none=>rw [h3] at h1;cases h4:M[i]? with
   | none=>rfl
   | some y=>rw [h4] at h1;simp at h1
  | some x=>rw [h3] at h1;cases h4:M[i]? with
   | none=>rw [h4] at h1;simp at h1
   | some y=>rw [h4] at h1;simp only [Option.map_some,Option.some.injEq] at h1;rw [inj x y h1]
 ·intro e;rw [e]
theorem map_u8v (K:List UInt8):(K.map fun x=>(x.toNat:Int)).map (Value.int .u8)=K.map u8v:=by rw [List.map_map];rfl
theorem run_ne_h (L M:List UInt8)(hl:L.length=32)(hm:M.length=32)(w1:World):(binOp .neq 30 (.agg (L.map u8v).toArray) (.agg (M.map u8v).toArray)).run Tryz.prog w1=.ok (.bool (!(L == M))) w1:=by
 have:=run_neA (P:=Tryz.prog) w1 Tryz.underlying30 Tryz.underlying5 (by kernel_rfl) (L.map fun x=>(x.toNat:Int)) (M.map fun x=>(x.toNat:Int)) (by rw [List.length_map,hl]) (by rw [List.length_map,hm])
 rw [map_u8v,map_u8v,map_u8_inj] at this
 exact this
theorem guard_ne_h (L M:List UInt8)(o1 o2:Operand)(w1:World):(eqGuard .neq 30 o1 o2 (.agg (L.map u8v).toArray) (.agg (M.map u8v).toArray)).run Tryz.prog w1=.ok () w1 :=
 run_eqGuard_agg (P:=Tryz.prog) (w:=w1) .neq 30 o1 o2 _ _ (by kernel_rfl)
theorem sumB_len (l:List UInt8):(sumB l).length=32:=by unfold sumB;rw [outB_len]
theorem bytes_range {w:World}{a:Option Addr}{n c:Nat}{l:List UInt8}(h:Bytes w (.slice a n c) l)(hl:0<l.length):∃ b off,a=some ⟨b,off,none⟩∧w.rangeAt b off (l.map u8v):=by
 obtain ⟨b,off,ha,_⟩:=Bytes.at h 0 hl
 refine ⟨b,off,ha,fun j v hv=>?_⟩
 have hj:j<l.length:=by have:=(List.getElem?_eq_some_iff.1 hv).1;simpa using this
 obtain ⟨b',off',ha',hc⟩:=Bytes.at h j hj
 rw [ha] at ha'
 cases ha'
 rw [hc]
 rw [List.getElem?_map,List.getElem?_eq_getElem hj] at hv
 exact hv
theorem blk_bytes {e:TypeId}{w:World}{g:Nat}{L:List UInt8}(h:Blk e w g (L.map u8v))(n:Nat)(hL:L.length=n)(hn:n≤maxLen):Bytes w (.slice (some ⟨g,0,none⟩) n n) L:=by
 refine Blk.row h L n n (fun _=>rfl) hL (fun j u hu=>?_) (Nat.le_refl _) hn
 rw [flat_b8] at hu;exact hu
end Go.Proofs.YtcgpjceopnfahaaGreat
