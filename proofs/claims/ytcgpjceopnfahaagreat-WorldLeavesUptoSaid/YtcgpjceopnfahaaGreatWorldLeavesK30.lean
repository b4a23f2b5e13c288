/- Trees built of keys and values: how great they are; the root of what grows. Plain Lean. | Numbers and bytes as cells; what a key's cells read as; how arrays and -/
import Derived.Test.YtcgpjceopnfahaaGreatWorldLeavesK18
import Derived.Test.YtcgpjceopnfahaaGreatWorldLeavesK29
import Derived.Test.YtcgpjceopnfahaaGreatWorldLeavesK01
import Derived.Test.YtcgpjceopnfahaaGreatWorldLeavesK04
import Derived.MapViews
import Derived.DeepKeys2
set_option linter.unusedSimpArgs false
set_option linter.unusedVariables false
set_option maxHeartbeats 4000000
set_option maxRecDepth 100000
namespace Go.Proofs.YtcgpjceopnfahaaGreat
open Go.RowKit
mutual
def cnP:Pn→Nat
 | .mk kd _ v ks=>if kd=0 then 0 else if kd=1 then 1 else if kd=2 then cnPL ks else (if v=[] then 0 else 1)+cnPL ks
def cnPL:List Pn→Nat
 | []=>0
 | k::ks=>cnP k+cnPL ks
end
mutual
theorem rts_cn:∀ {t:Nd}{l:List Rt},rts t=some l→l.length≤cnP (erN t)
 | .mk kd pv p vv v kv ks,l,h=>by
  unfold rts at h
  simp only [erN,cnP]
  split at h
  ·simp at h
  ·by_cases h0:kd=0
   ·rw [if_pos h0] at h
    simp only [Option.some.injEq] at h;subst h;simp
   ·rw [if_neg h0] at h ⊢
    by_cases h1:kd=1
    ·rw [if_pos h1] at h ⊢
     simp only [Option.some.injEq] at h;subst h;simp
    ·rw [if_neg h1] at h ⊢
     split at h
     ·rename_i h2
      rw [if_pos h2.1]
      cases hls:rtsL ks with
      | none=>rw [hls] at h;simp at h
      | some ls =>
       rw [hls] at h
       simp only [Option.map_some,Option.some.injEq] at h
       subst h
       have:=Qbf hls
       rw [Q1e,List.length_flatten]
       exact this
     ·split at h
      ·rename_i h3
       rw [if_neg (by omega)]
       cases hls:rtsL ks with
       | none=>rw [hls] at h;simp at h
       | some ls =>
        rw [hls] at h
        simp only [Option.map_some,Option.some.injEq] at h
        subst h
        have:=Qbf hls
        rw [List.length_append,Q9c]
        have:(if v=[] then ([]:List Rt) else [([],v)]).length≤if v=[] then 0 else 1:=by split<;>simp
        omega
      ·cases h
theorem Qbf:∀ {ks:List Nd}{ls:List (List Rt)},rtsL ks=some ls→(ls.map List.length).sum≤cnPL (erNL ks)
 | [],ls,h=>by
  unfold rtsL at h
  simp only [Option.some.injEq] at h;subst h;simp
 | k::ks,ls,h=>by
  unfold rtsL at h
  simp only [erNL,cnPL]
  cases h1:rts k with
  | none=>rw [h1] at h;cases h
  | some l =>
   rw [h1] at h
   dsimp only at h
   cases h2:rtsL ks with
   | none=>rw [h2] at h;cases h
   | some ls' =>
    rw [h2] at h
    simp only [Option.some.injEq] at h;subst h
    have a1:=rts_cn h1
    have a2:=Qbf h2
    simp only [List.map_cons,List.sum_cons]
    omega
end
theorem Qe5:∀ (ls:List (List Rt))(ks:List Pn)(i:Nat),ls.length=ks.length→(∀ (i:Nat) (l:List Rt) (k:Pn),ls[i]?=some l→ks[i]?=some k→cnP k≤l.length)→cnPL ks≤(cat i ls).length
 | [],[],i,_,_=>by simp [cnPL]
 | [],k::ks,i,h,_=>by simp at h
 | l::ls,[],i,h,_=>by simp at h
 | l::ls,k::ks,i,h,hh=>by
  have h0:=hh 0 l k rfl rfl
  have ih:=Qe5 ls ks (i+1) (by simpa using h) (fun j l' k' h1 h2=>hh (j+1) l' k' (by simpa using h1) (by simpa using h2))
  simp only [cat,cnPL,List.length_append,Q1e]
  omega
theorem Qkx {l:List Rt}{T:Pn}(h:Grows l T):cnP T≤l.length:=by
 induction h with
 | none=>simp [nP,cnP]
 | leaf p v hv hp=>simp [cnP]
 | road p l k hp hn h hk ih =>
  have h1:cnP (.mk 2 p [] [k])=cnP k:=by simp [cnP,cnPL]
  rw [h1,Q1e]
  exact ih
 | fork v ls ks hl hk h hm ih =>
  have h1:=Qe5 ls ks 0 (by omega) ih
  have h2:cnP (.mk 3 [] v ks)=(if v=[] then 0 else 1)+cnPL ks:=by simp [cnP]
  rw [h2]
  unfold bdP
  rw [List.length_append]
  have:(if v=[] then 0 else 1)≤(if v=[] then ([]:List Rt) else [([],v)]).length:=by split<;>simp
  omega
inductive FnP:Pn→Prop where
 | mk (kd:Int) (p v:List UInt8) (ks:List Pn) (hp:p.length≤1048576) (hv:v.length≤1048576) (hk:ks.length≤1048576) (h:∀ k∈ks,FnP k):FnP (.mk kd p v ks)
theorem fn_of:∀ (n:Nat)(t:Nd),SizeOf.sizeOf t≤n→FnP (erN t)→FnN t
 | 0,.mk kd pv p vv v kv ks,h,_=>by simp at h
 | n+1,.mk kd pv p vv v kv ks,h,hf=>by
  simp only [erN,Q2m] at hf
  cases hf with
  | mk _ _ _ _ hp hv hk hh =>
   rw [List.length_map] at hk
   exact .mk _ _ _ _ _ _ _ hp hv hk (fun k hk=>fn_of n k (by
    have:=List.sizeOf_lt_of_mem hk
    simp only [Nd.mk.sizeOf_spec] at h
    omega) (hh _ (List.mem_map.2 ⟨k,hk,rfl⟩)))
theorem Qkw {l:List Rt}{T:Pn}(h:Grows l T):(∀ r∈l,r.1.length≤64∧r.2.length≤1024)→FnP T:=by
 induction h with
 | none=>intro _;exact .mk _ _ _ _ (by simp) (by simp) (by simp) (by simp)
 | leaf p v hv hp =>
  intro hb
  have:=hb (p,v) (List.mem_singleton.2 rfl)
  exact .mk _ _ _ _ (by have:=this.1;dsimp only at this;omega) (by have:=this.2;dsimp only at this;omega) (by simp) (by simp)
 | road p l k hp hn h hk ih =>
  intro hb
  have hb2:∀ r∈l,p.length+r.1.length≤64∧r.2.length≤1024:=fun r hr=>by
   have:=hb (p++r.1,r.2) (List.mem_map.2 ⟨r,hr,rfl⟩)
   rw [List.length_append] at this
   exact this
  obtain ⟨r,hr⟩:=List.exists_mem_of_ne_nil _ (h.ne (by omega))
  have h1:=(hb2 r hr).1
  refine .mk _ _ _ _ (by omega) (by simp) (by simp) (fun k' hk'=>?_)
  rw [List.mem_singleton] at hk'
  subst hk'
  exact ih (fun r hr=>by have:=hb2 r hr;omega)
 | fork v ls ks hl hk h hm ih =>
  intro hb
  refine .mk _ _ _ _ (by simp) ?_ (by omega) (fun k' hk'=>?_)
  ·by_cases h0:v=[]
   ·subst h0;simp
   ·have:=(hb ([],v) (List.mem_append_left _ (by rw [if_neg h0];exact List.mem_singleton.2 rfl))).2
    dsimp only at this;omega
  ·obtain ⟨i,hi,rfl⟩:=List.mem_iff_getElem.1 hk'
   have hi2:i<ls.length:=by omega
   refine ih i ls[i] ks[i] (List.getElem?_eq_getElem hi2) (List.getElem?_eq_getElem hi) (fun r hr=>?_)
   have:=hb _ (List.mem_append_right _ (Q2z (i:=0) (List.getElem?_eq_getElem hi2) hr))
   simp only [List.length_cons] at this
   omega
theorem Qat {l:List Rt}{T:Pn}(h:Grows l T)(hb:∀ r∈l,r.1.length≤64∧r.2.length≤1024)(hl:l.length≤1048576){t:Nd}(ht:erN t=T):BgN t:=by
 subst ht
 refine ⟨fn_of _ t (Nat.le_refl _) (Qkw h hb),?_,fun l' hl'=>?_⟩
 ·have h1:=Qil h
  have h2:=wtR_le hb
  rw [←Qj2];omega
 ·have h1:=rts_cn hl'
  have h2:=Qkx h
  omega
abbrev Kvl:=List (List UInt8 × List UInt8)
def kvo (p:Kvp):List UInt8 × List UInt8:=(p.k,p.v)
def ofKV (q:List UInt8 × List UInt8):Kvp:=⟨.slice none 0 0,q.1,.slice none 0 0,q.2⟩
def bldQ (qs:Kvl):Pn × Int:=bldP (qs.map ofKV)
theorem bldE_Q:∀ ps:List Kvp,bldE ps=bldE ((ps.map kvo).map ofKV)
 | []=>rfl
 | p::ps=>by
  have:=bldE_Q ps
  simp only [List.map_cons,bldE,kvo,ofKV]
  rw [this]
theorem trB_Q (ps:List Kvp):trB ps=trB ((ps.map kvo).map ofKV):=by
 unfold trB
 rw [List.foldl_map,List.foldl_map];rfl
theorem bldP_Q (ps:List Kvp):bldP ps=bldQ (ps.map kvo):=by
 unfold bldQ bldP
 rw [←bldE_Q,←trB_Q]
theorem fine_Q {ps:List Kvp}(h:bldE ps=0):∀ p∈ps,fineK p:=by
 induction ps with
 | nil=>intro p hp;simp at hp
 | cons q ps ih =>
  intro p hp
  unfold bldE at h
  split at h
  ·omega
  ·split at h
   ·omega
   ·rcases List.mem_cons.1 hp with rfl|hp
    ·exact ⟨by omega,by omega⟩
    ·exact ih h p hp
theorem Qe9 (qs:Kvl)(hn:qs.length≤1048576){t:Nd}(ht:erN t=(bldQ qs).1):BgN t:=by
 unfold bldQ bldP at ht
 split at ht
 ·rename_i h0
  obtain ⟨h1,_,h3,h4⟩:=Q47 (qs.map ofKV) (fine_Q h0)
  rw [List.length_map] at h4
  exact Qat h1 h3 (by omega) ht
 ·exact Qat .none (by simp) (by simp) ht
mutual
theorem rgt_er:∀ (d:Nat)(t s:Nd),erN t=erN s→rgt d t=rgt d s
 | d,.mk kd pv p vv v kv ks,.mk kd' pv' p' vv' v' kv' ks',h=>by
  simp only [erN,Pn.mk.injEq] at h
  obtain ⟨rfl,rfl,rfl,h4⟩:=h
  have hl:ks.length=ks'.length:=by have:=congrArg List.length h4;simpa [Q2m] using this
  have h1:=Qbo (d+p.length) ks ks' h4
  have h2:=Qbo (d+1) ks ks' h4
  have h3:=Qht ks ks' h4
  have h5:(ks[0]?.map Nd.kd).getD 0=(ks'[0]?.map Nd.kd).getD 0:=by
   cases ks with
   | nil=>cases ks' with
    | nil=>rfl
    | cons=>simp at hl
   | cons a ks=>cases ks' with
    | nil=>simp at hl
    | cons b ks' =>
     simp only [erNL,List.cons.injEq] at h4
     have:=h4.1
     obtain ⟨⟩:=a;obtain ⟨⟩:=b
     simp only [erN,Pn.mk.injEq] at this
     simp [Nd.kd,this.1]
  unfold rgt
  rw [h1,h2,h3,h5,hl]
theorem Qbo:∀ (d:Nat)(ks ks':List Nd),erNL ks=erNL ks'→rgtL d ks=rgtL d ks'
 | d,[],[],_=>rfl
 | d,[],_::_,h=>by simp [erNL] at h
 | d,_::_,[],h=>by simp [erNL] at h
 | d,k::ks,k'::ks',h=>by
  simp only [erNL,List.cons.injEq] at h
  simp only [rgtL,rgt_er d k k' h.1,Qbo d ks ks' h.2]
theorem Qht:∀ (ks ks':List Nd),erNL ks=erNL ks'→manyP ks=manyP ks'
 | [],[],_=>rfl
 | [],_::_,h=>by simp [erNL] at h
 | _::_,[],h=>by simp [erNL] at h
 | .mk kd pv p vv v kv ls::ks,.mk kd' pv' p' vv' v' kv' ls'::ks',h=>by
  simp only [erNL,erN,List.cons.injEq,Pn.mk.injEq] at h
  obtain ⟨⟨rfl,_⟩,h2⟩:=h
  simp only [manyP,Nd.kd,Qht ks ks' h2]
  rfl
end
mutual
theorem cdN_er:∀ (t s:Nd),erN t=erN s→cdN t=cdN s
 | .mk kd pv p vv v kv ks,.mk kd' pv' p' vv' v' kv' ks',h=>by
  simp only [erN,Pn.mk.injEq] at h
  obtain ⟨rfl,rfl,rfl,h4⟩:=h
  simp only [cdN,smN_er ks ks' h4]
theorem smN_er:∀ (ks ks':List Nd),erNL ks=erNL ks'→smN ks=smN ks'
 | [],[],_=>rfl
 | [],_::_,h=>by simp [erNL] at h
 | _::_,[],h=>by simp [erNL] at h
 | k::ks,k'::ks',h=>by
  simp only [erNL,List.cons.injEq] at h
  have hk:k.kd=k'.kd:=by
   obtain ⟨⟩:=k;obtain ⟨⟩:=k'
   have:=h.1
   simp only [erN,Pn.mk.injEq] at this
   exact this.1
  simp only [smN,cdN_er k k' h.1,smN_er ks ks' h.2,hk]
end
theorem rtC_er {t s:Nd}(h:erN t=erN s):rtC t=rtC s:=by
 have hk:t.kd=s.kd:=by
  obtain ⟨⟩:=t;obtain ⟨⟩:=s
  simp only [erN,Pn.mk.injEq] at h
  exact h.1
 have hw:(whN t).headD []=(whN s).headD []:=by
  obtain ⟨l,hl⟩:=alN_ne t
  obtain ⟨m,hm⟩:=alN_ne s
  unfold whN
  rw [hk,hl,hm,cdN_er t s h]
  split<;>rfl
 unfold rtC
 rw [rgt_er 0 t s h,hw]
end Go.Proofs.YtcgpjceopnfahaaGreat
namespace Go.Proofs.YtcgpjceopnfahaaGreat
open Go.ChangeShapes Go.WideShapes Go.ChangeAt Go.RowKit
def u64v (n:Nat):Value:=.int .u64 (n:Int)
def by8 (l:List UInt8):List Value:=l.map u8v
theorem Q1m (l:List UInt8):(by8 l).length=l.length:=by unfold by8;simp
def zeroB (n:Nat):List UInt8:=List.replicate n 0
def lit8 (l:List UInt8):List Lit:=l.map fun b=>Lit.int .u8 (b.toNat:Int)
def lit64 (n:Nat):List Lit:=[Lit.int .u64 (n:Int)]
theorem Qak {α β:Type}(f:α→Option β)(g:α→β):∀ (l:List α),(∀ x∈l,f x=some (g x))→l.mapM f=some (l.map g)
 | [],_=>rfl
 | x::l,h=>by
  rw [List.mapM_cons,h x List.mem_cons_self,Qak f g l (fun y hy=>h y (List.mem_cons_of_mem _ hy))]
  rfl
theorem wf8 (b:UInt8):(Lit.int .u8 (b.toNat:Int)).wf=true:=by
 have:=b.toNat_lt
 simp only [Lit.wf,show IntKind.u8.min=0 from rfl,show IntKind.u8.max=255 from rfl,Bool.and_eq_true,decide_eq_true_eq]
 omega
theorem wf64 {n:Nat}(h:n<18446744073709551616):(Lit.int .u64 (n:Int)).wf=true:=by
 simp only [Lit.wf,show IntKind.u64.min=0 from rfl,show IntKind.u64.max=18446744073709551615 from rfl,Bool.and_eq_true,decide_eq_true_eq]
 omega
theorem keyL8 (d:Nat)(b:UInt8):Tryz.prog.keyLits (d+1) 5 [u8v b]=some [.int .u8 (b.toNat:Int)]:=by
 unfold Program.keyLits
 simp only [show Tryz.prog.underlying 5=some (.int .u8) from Tryz.underlying5,u8v,wf8,and_self,if_true]
theorem keyL64 (d:Nat){n:Nat}(h:n<18446744073709551616):Tryz.prog.keyLits (d+1) 22 [u64v n]=some (lit64 n):=by
 unfold Program.keyLits
 simp only [show Tryz.prog.underlying 22=some (.int .u64) from Tryz.underlying22,u64v,wf64 h,and_self,if_true,lit64]
theorem keyA {t:TypeId}{n:Nat}(ht:Tryz.prog.underlying t=some (.array n 5))(hc:Tryz.prog.cellsOf t=n)(d:Nat)(l:List UInt8)(hl:l.length=n):Tryz.prog.keyLits (d+2) t (by8 l)=some (lit8 l):=by
 have hc8:Tryz.prog.cellsOf 5=1:=by kernel_rfl
 unfold Program.keyLits
 simp only [ht]
 rw [if_pos (by rw [Q1m,hl,hc]),Qak _ (fun i=>lit8 ((l.drop i).take 1))]
 ·simp only [Option.map_some,Option.some.injEq]
  unfold lit8
  have:∀ (m:Nat) (l:List UInt8),l.length=m→((List.range m).map fun i=>((l.drop i).take 1).map fun b=>Lit.int .u8 (b.toNat:Int)).flatten=l.map fun b=>Lit.int .u8 (b.toNat:Int):=by
   intro m
   induction m with
   | zero=>intro l h;rw [List.eq_nil_of_length_eq_zero h];rfl
   | succ m ih =>
    intro l h
    cases l with
    | nil=>simp at h
    | cons x l =>
     rw [List.range_succ_eq_map,List.map_cons,List.flatten_cons,List.map_map]
     have:=ih l (by simpa using h)
     rw [List.map_cons,←this]
     rfl
  exact this n l hl
 ·intro i hi
  rw [List.mem_range] at hi
  rw [hc8,Nat.mul_one]
  have:((by8 l).drop i).take 1=[u8v (l[i]'(by omega))]:=by
   rw [List.drop_eq_getElem_cons (by rw [Q1m];omega)]
   unfold by8
   simp
  rw [this,keyL8,List.drop_eq_getElem_cons (by omega)]
  rfl
theorem one_at {l:List Value}{i:Nat}{v:Value}(h:l[i]?=some v):(l.drop i).take 1=[v]:=by
 obtain ⟨hi,e⟩:=List.getElem?_eq_some_iff.1 h
 rw [List.drop_eq_getElem_cons hi,e];rfl
theorem piece {α:Type}(cs:List α)(n m:Nat):cs.drop n=(cs.drop n).take m++cs.drop (n+m):=by
 rw [←List.drop_drop,List.take_append_drop]
theorem Qjj (xs:List Int)(hw:∀ x∈xs,(Lit.int .u8 x).wf=true):∃ F:List UInt8,F.length=xs.length∧xs.map (Value.int .u8)=by8 F:=by
 refine ⟨xs.map fun x=>UInt8.ofNat x.toNat,by simp,?_⟩
 unfold by8
 rw [List.map_map]
 refine List.map_congr_left fun x hx=>?_
 have:=hw x hx
 simp only [Lit.wf,show IntKind.u8.min=0 from rfl,show IntKind.u8.max=255 from rfl,Bool.and_eq_true,decide_eq_true_eq] at this
 simp only [Function.comp_apply,u8v,UInt8.toNat_ofNat']
 congr 1
 omega
section
variable {H:Type} {enc:TypeId × Value→H} {W:World}
theorem Qdj {n:Nat}{cs:List Value}{x:DataW H × List MemPlace}{t:TypeId}{N:Nat}(ht:Tryz.prog.underlying t=some (.array N 5))(hc:Tryz.prog.cellsOf t=N)(h:DataW.trod enc Tryz.prog W 0 (fun _=>true) true n t cs=some x):∃ F:List UInt8,F.length=N∧cs=by8 F:=by
 obtain ⟨xs,h1,h2,h3⟩:=Qcw ht Tryz.underlying5 (by kernel_rfl) hc h
 obtain ⟨F,h4,h5⟩:=Qjj xs h3
 exact ⟨F,by omega,h1.trans h5⟩
theorem Qkf {n:Nat}{cs:List Value}{x:DataW H × List MemPlace}(h:DataW.trod enc Tryz.prog W 0 (fun _=>true) true n 22 cs=some x):∃ N:Nat,N<18446744073709551616∧cs=[u64v N]:=by
 obtain ⟨z,h1,_,h3⟩:=DataW.trod_int Tryz.underlying22 h
 simp only [Lit.wf,show IntKind.u64.min=0 from rfl,show IntKind.u64.max=18446744073709551615 from rfl,Bool.and_eq_true,decide_eq_true_eq] at h3
 exact ⟨z.toNat,by omega,by rw [h1];unfold u64v;congr 2;omega⟩
end
end Go.Proofs.YtcgpjceopnfahaaGreat
