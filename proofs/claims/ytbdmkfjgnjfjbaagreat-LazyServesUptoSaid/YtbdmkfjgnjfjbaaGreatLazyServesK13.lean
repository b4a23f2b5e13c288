/- tree.putRoad. | tree.put at a leaf, a road, a fork. | tree.put, at every node that grows. -/
import Derived.Test.YtbdmkfjgnjfjbaaGreatLazyServesK12
set_option linter.unusedSimpArgs false
set_option linter.unusedVariables false
set_option maxHeartbeats 4000000
set_option maxRecDepth 100000
namespace Go.Proofs.YtbdmkfjgnjfjbaaGreat
open Go.RowKit
def PutC (k:Nd):Prop:=∀ (ka va:Option Addr) (kn kc vn vc:Nat) (p v:List UInt8) (w:World),p.length=kn→v.length=vn→kn≤1000000→nibs p→IsNv w k→Bytes w (.slice ka kn kc) p→Bytes w (.slice va vn vc) v→Calls Tryz.prog 105 #[nv k,.slice ka kn kc,.slice va vn vc] w (NvPost (putQ (clN k) p v) w)
theorem Qii:Agg Tryz.prog 185 2:=⟨_,Tryz.underlying185,rfl,by kernel_rfl⟩
theorem Qb6 (na ka va:Option Addr)(nn nc kn kc vn vc:Nat)(q p v:List UInt8)(k:Nd)(hk3:k.kd=3)(ih:PutC k)(hnl:q.length=nn)(hkl:p.length=kn)(hvl:v.length=vn)(hn1:nn≤1000000000)(hk1:kn≤1000000)(hq:nibs q)(hp:nibs p)(hpb:(putQ (clN k) (p.drop nn) v).pth.length≤1000000000)(hkp:k.path.length≤1000000000)(w:World)(hnb:Bytes w (.slice na nn nc) q)(hkb:Bytes w (.slice ka kn kc) p)(hvb:Bytes w (.slice va vn vc) v)(hk:IsNv w k) :
  Calls Tryz.prog 132 #[.agg #[.slice na nn nc,nv k],.slice ka kn kc,.slice va vn vc] w (NvPost (putQ (.mk 2 q [] [clN k]) p v) w):=by
 have hput:putQ (.mk 2 q [] [clN k]) p v=if com q p=nn then Q0o q (putQ (clN k) (p.drop nn) v) else if v=[] then .mk 2 q [] [clN k] else partQ (com q p) q (clN k) p v:=by
  simp only [putQ,hnl]
  rw [if_neg (by decide),if_pos trivial,Q3b]
  by_cases h:com q p=nn
  ·rw [if_pos h,if_pos h,h];rfl
  ·rw [if_neg h,if_neg h];rfl
 have hcl:=com_le q p
 rw [hnl,hkl] at hcl
 obtain ⟨X,hX⟩:=Q8i hk3
 obtain ⟨w1,hw1⟩:∃ w1,w1=w.alloc (.cells #[.slice na nn nc,.iface 189 X] 185):=⟨_,rfl⟩
 have hz:Blk 185 w1 w.heap.size [.slice na nn nc,.iface 189 X]:=by rw [hw1];exact Blk.new w _ _
 have hbel:Below w.heap.size w w1:=by rw [hw1];exact Qba _ _
 have cc:=fun x (hx:Below w.heap.size w x)=>Q4z na ka nc kc q p x (by rw [hnl];exact hnb.below hx) (by rw [hkl];exact hkb.below hx)
 rw [hnl,hkl] at cc
 have cp:=fun (x:World) (hx:Below w.heap.size w x) (hcp:com q p<nn)=>Qcx na ka va nn nc kn kc vn vc q p v k (com q p) hnl hkl hvl hn1 (by omega) rfl hq hp hkp (fun e=>by omega) (.inl hcp) x (hnb.below hx) (hkb.below hx) (hvb.below hx) (hk.kept hx)
 have cb:=fun (x:World) (hx:Below w.heap.size w x) (t:Nd) (ht:IsNv x t) (hc:clN t=putQ (clN k) (p.drop nn) v)=>Q3r na nn nc q hnl hn1 t (by unfold Nd.path;rw [hc];exact hpb) x (hnb.below hx) ht
 have hret:=fun (x:World) (hx:Below w.heap.size w x)=>show NvPost (.mk 2 q [] [clN k]) w (.returned (.iface 185 (.agg #[.slice na nn nc,nv k]))) x from ⟨.mk 2 (.slice na nn nc) q (.slice none 0 0) [] (.slice none 0 0) [k],rfl,hx,.road _ _ _ _ _ _ (hnb.below hx) hk3 (hk.kept hx),rfl⟩
 have cput:=fun (x:World) (hx:Below w.heap.size w x) (a5:Option Addr) (c5:Nat) (hr:Bytes x (.slice a5 (kn - nn) c5) (p.drop nn))=>ih a5 va (kn - nn) c5 vn vc (p.drop nn) v x (by rw [List.length_drop,hkl]) hvl (by omega) (fun y hy=>hp y (List.mem_of_mem_drop hy)) (hk.kept hx) hr (hvb.below hx)
 rw [hX] at hret cp cput ⊢
 have Hret:=Qhd hret
 have Cput:=Qhd cput
 have Cb:=Qhd cb
 have Cp:=Qhd cp
 have Cc:=Qhd cc
 have Hput:=Qhd hput
 have Hkb:=Qhd hkb
 have m0:=(hz.cell 0).trans (show _=some (Value.slice na nn nc) from rfl)
 rw [hw1] at m0
 have Hw1:=Qhd hw1
 obtain ⟨C,hC⟩:∃ C,C=com q p:=⟨_,rfl⟩
 rw [←hC] at hcl
 simp only [←hC] at Cc Cp Hput
 clear hw1 cc cp cb cput hret hput hC hnb hkb hvb hnl hkl hq hp hk hk3 ih hpb hkp hX
 by_cases h1:C=nn
 ·have hR:putQ (.mk 2 q [] [clN k]) p v=Q0o q (putQ (clN k) (p.drop nn) v):=by rw [Hput.out,if_pos h1]
  rw [hR]
  have hz1:((C:Int)==(nn:Int))=true:=beq_iff_eq.2 (by omega)
  obtain ⟨a5,c5,r5,row5⟩:=RowOf.from elU8 Hkb.out nn (by omega) (C:Int) (by omega)
  have Row5:=Qhd row5
  have hck:(C:Int)≤(kn:Int):=by omega
  clear hR h1 row5
  go_enter Tryz.func132,Tryz.ntmps132
  go_wp2_with (go_at_call 91;(with_reducible refine (Cc.out _ (by rw [←Hw1.out];exact hbel)).mono ?_);rintro e w2 ⟨rfl,mm,rfl⟩;rw [←Hw1.out];have b2:Below w.heap.size w (w1.drewN mm):=Q11 hbel mm;have zz:=hz.kept (Q11 (Below.refl _ _) mm);have m1:=(zz.cell 0).trans (show _=some (Value.slice na nn nc) from rfl))
  have k0:=fun u:Ext (w1.drewN mm)=>u.cell m1
  have k1:=fun u:Ext (w1.drewN mm)=>u.cell ((zz.cell 1).trans (show _=some (Value.iface 189 X) from rfl))
  refine Q02 (w1.drewN mm) 10 (by kernel_rfl) (by kernel_rfl) (Below.refl _ _) ?_;simp only [List.take_succ_cons,List.take_zero,List.take_nil]
  iterate 8 (refine Q01 (by rfl) (fun K hK=>?_);go_simp;first|(refine hK _ ?_;clear hK K)|(apply Exists.intro;refine ⟨fun _=>?_,hK _ ?_⟩;exact r5 _ _;clear hK K))
  refine Q07 26 (NvT (putQ (clN k) (p.drop nn) v)) rfl (of_decide_eq_true rfl) (NvT.mono _) (fun w6 hw6=>?_) ?_
  ·simp only [relOf,List.filter_nil,Q00]
   refine ⟨rfl,?_⟩
   go_simp
   refine (Cput.out w6 (Below.then b2 hw6) a5 c5 (Row5.out.below (Below.then b2 hw6))).mono ?_
   rintro e w7 ⟨t7,rfl,b7,i7,c7⟩
   exact ⟨_,rfl,⟨t7,rfl,i7,c7⟩,b7⟩
  refine Q07 27 (NvT (Q0o q (putQ (clN k) (p.drop nn) v))) rfl (of_decide_eq_true rfl) (NvT.mono _) (fun w6 hw6=>?_) ?_
  ·change Q00 w6 [(26,_)] _ _
   rintro v26 ⟨t6,rfl,i6,c6⟩
   simp only [Q00]
   refine ⟨rfl,?_⟩
   go_simp
   refine (Cb.out w6 (Below.then b2 hw6) t6 i6 c6).mono ?_
   rintro e w7 ⟨t7,rfl,b7,i7,c7⟩
   exact ⟨_,rfl,⟨t7,rfl,i7,by rw [c7,c6]⟩,b7⟩
  refine Q09 ?_
  intro u5 hu5 v26 _ v27 h27
  change wpList _ _ _ [_] _ _
  simp only [Act.put,Qzs]
  obtain ⟨t7,rfl,i7,c7⟩:=h27
  obtain ⟨V7,hV7⟩:∃ V,V=nv t7:=⟨_,rfl⟩
  rw [←hV7]
  have HV7:=Qhd hV7
  clear hV7
  go_wp2_with fail
  go_ret
  exact ⟨t7,by rw [←HV7.out];rfl,Below.then b2 hu5,i7,c7⟩
 ·have hz1:((C:Int)==(nn:Int))=false:=beq_eq_false_iff_ne.2 (by omega)
  by_cases hv:v=[]
  ·have hR:putQ (.mk 2 q [] [clN k]) p v=.mk 2 q [] [clN k]:=by rw [Hput.out,if_neg h1,if_pos hv]
   rw [hR]
   have hv0:vn=0:=by rw [←hvl,hv];rfl
   subst hv0
   clear hR hv h1 hvl
   go_enter Tryz.func132,Tryz.ntmps132
   go_wp2_with (first
    |(go_at_call 91;(with_reducible refine (Cc.out _ (by rw [←Hw1.out];exact hbel)).mono ?_);rintro e w2 ⟨rfl,mm,rfl⟩;rw [←Hw1.out];have b2:Below w.heap.size w (w1.drewN mm):=Q11 hbel mm;have zz:=hz.kept (Q11 (Below.refl _ _) mm);have m1:=(zz.cell 0).trans (show _=some (Value.slice na nn nc) from rfl))
    |((with_reducible refine Qgl 32 ?_);refine Qla 185 3 w.heap.size Qii zz (by rfl) ?_))
   go_ret
   exact Hret.out _ b2
  ·have hR:putQ (.mk 2 q [] [clN k]) p v=partQ C q (clN k) p v:=by rw [Hput.out,if_neg h1,if_neg hv]
   rw [hR]
   have hvz:((vn:Int)==0)=false:=by
    rw [beq_eq_false_iff_ne]
    have:0<v.length:=List.length_pos_iff.2 hv
    omega
   have CP:=Qhd (fun (x:World) (hx:Below w.heap.size w x)=>Cp.out x hx (by omega))
   clear hR hv h1
   go_enter Tryz.func132,Tryz.ntmps132
   go_wp2_with (first
    |(go_at_call 91;(with_reducible refine (Cc.out _ (by rw [←Hw1.out];exact hbel)).mono ?_);rintro e w2 ⟨rfl,mm,rfl⟩;rw [←Hw1.out];have b2:Below w.heap.size w (w1.drewN mm):=Q11 hbel mm;have zz:=hz.kept (Q11 (Below.refl _ _) mm);have m1:=(zz.cell 0).trans (show _=some (Value.slice na nn nc) from rfl);have m2:=(zz.cell 1).trans (show _=some (Value.iface 189 X) from rfl))
    |(go_at_call 157;(with_reducible refine (CP.out _ b2).mono ?_);rintro e w3 ⟨t,rfl,b3,it,ct⟩;obtain ⟨VT,hVT⟩:∃ x,x=nv t:=⟨_,rfl⟩;rw [←hVT];have HVT:=Qhd hVT;clear hVT))
   go_ret
   exact ⟨t,by rw [←HVT.out];rfl,Below.then b2 b3,it,ct⟩
theorem Qjl (na ua ka va:Option Addr)(nn nc un uc kn kc vn vc:Nat)(q u p v:List UInt8)(hnl:q.length=nn)(hkl:p.length=kn)(hvl:v.length=vn)(hn1:nn≤1000000000)(hk1:kn≤1000000000)(hq:nibs q)(hp:nibs p)(w:World)(hnb:Bytes w (.slice na nn nc) q)(hub:Bytes w (.slice ua un uc) u)(hkb:Bytes w (.slice ka kn kc) p)(hvb:Bytes w (.slice va vn vc) v) :
  Calls Tryz.prog 105 #[.iface 182 (.agg #[.slice na nn nc,.slice ua un uc]),.slice ka kn kc,.slice va vn vc] w (NvPost (putQ (.mk 1 q u []) p v) w):=by
 have z1:=as1_1
 obtain ⟨w1,hw1⟩:∃ w1,w1=w.alloc (.cells #[.slice na nn nc,.slice ua un uc] 182):=⟨_,rfl⟩
 have hz:Blk 182 w1 w.heap.size [.slice na nn nc,.slice ua un uc]:=by rw [hw1];exact Blk.new w _ _
 have hbel:Below w.heap.size w w1:=by rw [hw1];exact Qba _ _
 have cl:=Qb7 na ua ka va nn nc un uc kn kc vn vc q u p v hnl hkl hvl hn1 hk1 hq hp w1 (hnb.below hbel) (hub.below hbel) (hkb.below hbel) (hvb.below hbel)
 obtain ⟨R,hR⟩:∃ R,R=putQ (.mk 1 q u []) p v:=⟨_,rfl⟩
 rw [←hR] at cl ⊢
 have Cl:=Qhd cl
 have Hw1:=Qhd hw1
 have r1:=hz.all0
 rw [hw1] at hz r1
 clear hw1 cl hR hnb hub hkb hvb hnl hkl hvl hq hp
 go_enter Tryz.func105,Tryz.ntmps105
 go_wp2_with (first
  |((with_reducible refine Qgl 14 ?_);refine Qla 182 7 w.heap.size Qc2 hz (by rfl) ?_)
  |(go_at_call 131;rw [←Hw1.out];(with_reducible refine Cl.out.mono ?_);rintro e w3 ⟨t,rfl,b3,it,ct⟩;obtain ⟨VT,hVT⟩:∃ x,x=nv t:=⟨_,rfl⟩;rw [←hVT];have HVT:=Qhd hVT;clear hVT))
 go_ret
 exact ⟨t,by rw [←HVT.out];rfl,Below.then hbel b3,it,ct⟩
theorem Qjk (na ka va:Option Addr)(nn nc kn kc vn vc:Nat)(q p v:List UInt8)(k:Nd)(hk3:k.kd=3)(ih:PutC k)(hnl:q.length=nn)(hkl:p.length=kn)(hvl:v.length=vn)(hn1:nn≤1000000000)(hk1:kn≤1000000)(hq:nibs q)(hp:nibs p)(hpb:(putQ (clN k) (p.drop nn) v).pth.length≤1000000000)(hkp:k.path.length≤1000000000)(w:World)(hnb:Bytes w (.slice na nn nc) q)(hkb:Bytes w (.slice ka kn kc) p)(hvb:Bytes w (.slice va vn vc) v)(hk:IsNv w k) :
  Calls Tryz.prog 105 #[.iface 185 (.agg #[.slice na nn nc,nv k]),.slice ka kn kc,.slice va vn vc] w (NvPost (putQ (.mk 2 q [] [clN k]) p v) w):=by
 have z1:=as2_1
 have z2:=as2_2
 obtain ⟨X,hX⟩:=Q8i hk3
 obtain ⟨w1,hw1⟩:∃ w1,w1=w.alloc (.cells #[.slice na nn nc,.iface 189 X] 185):=⟨_,rfl⟩
 have hz:Blk 185 w1 w.heap.size [.slice na nn nc,.iface 189 X]:=by rw [hw1];exact Blk.new w _ _
 have hbel:Below w.heap.size w w1:=by rw [hw1];exact Qba _ _
 have cl:=Qb6 na ka va nn nc kn kc vn vc q p v k hk3 ih hnl hkl hvl hn1 hk1 hq hp hpb hkp w1 (hnb.below hbel) (hkb.below hbel) (hvb.below hbel) (hk.kept hbel)
 obtain ⟨R,hR⟩:∃ R,R=putQ (.mk 2 q [] [clN k]) p v:=⟨_,rfl⟩
 rw [←hR] at cl ⊢
 rw [hX] at cl ⊢
 have Cl:=Qhd cl
 have Hw1:=Qhd hw1
 have r1:=hz.all0
 rw [hw1] at hz r1
 clear hw1 cl hR hnb hkb hvb hnl hkl hvl hq hp hpb hkp ih hk hk3 hX
 go_enter Tryz.func105,Tryz.ntmps105
 go_wp2_with (first
  |((with_reducible refine Qgl 21 ?_);refine Qla 185 8 w.heap.size Qii hz (by rfl) ?_)
  |(go_at_call 132;rw [←Hw1.out];(with_reducible refine Cl.out.mono ?_);rintro e w3 ⟨t,rfl,b3,it,ct⟩;obtain ⟨VT,hVT⟩:∃ x,x=nv t:=⟨_,rfl⟩;rw [←hVT];have HVT:=Qhd hVT;clear hVT))
 go_ret
 exact ⟨t,by rw [←HVT.out];rfl,Below.then hbel b3,it,ct⟩
theorem Q9w (ka ua va:Option Addr)(kc un uc vn vc:Nat)(u v:List UInt8)(ks:List Nd)(hks:ks.length=16)(hvl:v.length=vn)(hpl:∀ k∈ks,k.path.length≤1000000000)(w:World)(hvb:Bytes w (.slice va vn vc) v)(hk:∀ k∈ks,IsNv w k) :
  Calls Tryz.prog 105 #[.iface 189 (.agg (nvL ks++[Value.slice ua un uc]).toArray),.slice ka 0 kc,.slice va vn vc] w (NvPost (tidyQ v (clNL ks)) w):=by
 have z1:=as3_1
 have z2:=as3_2
 have z3:=as3_3
 have hFl:=fk_len ks (.slice ua un uc) hks
 have hF1:=fk_one ks ua un uc
 have hno:=fk_no8 ks ua un uc
 have hset:=Qi0 ks hks (.slice ua un uc) (.slice va vn vc)
 have ct:=fun (x:World) (hx:Below w.heap.size w x)=>Qcf va vn vc v ks x hvl hks (hvb.below hx) (fun k hk2=>(hk k hk2).kept hx) hpl
 rw [←hset] at ct
 obtain ⟨FC,hFC⟩:∃ FC,FC=nvL ks++[Value.slice ua un uc]:=⟨_,rfl⟩
 rw [←hFC] at hFl hF1 hno ct ⊢
 have hl2:(FC.set 16 (.slice va vn vc)).length=17:=by rw [List.length_set];exact hFl
 have Ct:=Qhd ct
 have bA:Below w.heap.size w (w.alloc (.cells zFork.toArray 189)):=Qba _ _
 clear ct hset hFC hvb hk hks hvl hpl hno
 go_enter Tryz.func105,Tryz.ntmps105
 go_wp2_with (first
  |((with_reducible refine Qgs 27 ?_);refine Qsa 189 9 27 w.heap.size FC Q1e (Blk.new w 189 zFork) hFl (by rfl) hF1 bA (Nat.le_refl _) ?_;intro w3 h3 b3 _;obtain ⟨x16,hx16⟩:=h3.has 16 (by rw [hFl];omega);have hf16:=h3.free 16;have hs:=h3.set 16 (.slice va vn vc);have by0:Below w.heap.size w (w3.setCell ⟨w.heap.size,16,none⟩ (.slice va vn vc)):=b3.grown (Q0r 16 _) b3.size (fun k hk=>by cases hk;exact Nat.le_refl _))
  |((with_reducible refine Qgl 48 ?_);refine Qla 189 9 w.heap.size Q1e hs hl2 ?_)
  |(go_at_call 133;(with_reducible refine (Ct.out _ by0).mono ?_);rintro e w4 ⟨t,rfl,b4,it,ct⟩;obtain ⟨VT,hVT⟩:∃ x,x=nv t:=⟨_,rfl⟩;rw [←hVT];have HVT:=Qhd hVT;clear hVT))
 go_ret
 exact ⟨t,by rw [←HVT.out];rfl,Below.then by0 b4,it,ct⟩
theorem Q8d (ka ua va:Option Addr)(kn kc un uc vn vc:Nat)(u v:List UInt8)(x:UInt8)(p:List UInt8)(ks:List Nd)(hks:ks.length=16)(hkl:(x::p).length=kn)(hk1:kn≤1000000)(hvl:v.length=vn)(hul:u.length=un)(hp:nibs (x::p))(ih:∀ k∈ks,PutC k)(hpl:∀ k∈ks,k.path.length≤1000000000)(hpb:(putQ ((clNL ks)[x.toNat]?.getD nP) p v).pth.length≤1000000000)(w:World)(hub:Bytes w (.slice ua un uc) u)(hkb:Bytes w (.slice ka kn kc) (x::p))(hvb:Bytes w (.slice va vn vc) v)(hk:∀ k∈ks,IsNv w k) :
  Calls Tryz.prog 105 #[.iface 189 (.agg (nvL ks++[Value.slice ua un uc]).toArray),.slice ka kn kc,.slice va vn vc] w (NvPost (tidyQ u (putQL (clNL ks) x.toNat p v)) w):=by
 have z1:=as3_1
 have z2:=as3_2
 have z3:=as3_3
 have hx:x.toNat<16:=hp x List.mem_cons_self
 have hFl:=fk_len ks (.slice ua un uc) hks
 have hF1:=fk_one ks ua un uc
 have hno:=fk_no8 ks ua un uc
 have hset:=fun t=>fk_set ks hks x.toNat hx t (.slice ua un uc)
 have hkx:ks[x.toNat]?=some (ks[x.toNat]'(by omega)):=List.getElem?_eq_getElem (by omega)
 have hmk:=List.getElem_mem (l:=ks) (n:=x.toNat) (by omega)
 obtain ⟨K,hK⟩:∃ K,K=ks[x.toNat]'(by omega):=⟨_,rfl⟩
 rw [←hK] at hkx hmk
 have hck:(clNL ks)[x.toNat]?=some (clN K):=by rw [Q1c,List.getElem?_map,hkx];rfl
 rw [hck] at hpb
 simp only [Option.getD_some] at hpb
 have hQ:putQL (clNL ks) x.toNat p v=(clNL ks).set x.toNat (putQ (clN K) p v):=by rw [Q3b,hck];rfl
 rw [hQ]
 have hFx:(nvL ks++[Value.slice ua un uc])[x.toNat]?=some (nv K):=by
  rw [List.getElem?_append_left (by rw [Q17];simpa [hks] using hx),Q17,List.getElem?_map,hkx];rfl
 have hq1:1≤kn:=by rw [←hkl];simp
 have hne:((kn:Int)==0)=false:=by rw [beq_eq_false_iff_ne];omega
 have hlt0:0<kn:=by omega
 have hxi:(x.toNat:Int)<16:=by omega
 obtain ⟨bq,oq,rfl,hcq⟩:=Bytes.at hkb 0 (by simp)
 simp only [List.getElem_cons_zero] at hcq
 obtain ⟨a5,c5,run5,row5⟩:=RowOf.from elU8 hkb 1 hq1 1 rfl
 simp only [List.drop_succ_cons,List.drop_zero] at row5
 have hpl1:p.length=kn - 1:=by rw [←hkl];simp
 have cg:=fun (u:World) (hu:Below w.heap.size w u)=>ih K hmk a5 va (kn - 1) c5 vn vc p v u hpl1 hvl (by omega) (fun y hy=>hp y (List.mem_cons_of_mem _ hy)) ((hk K hmk).kept hu) (row5.below hu) (hvb.below hu)
 have ct:=fun (t:Nd) (htc:clN t=putQ (clN K) p v) (y:World) (hy:Bytes y (.slice ua un uc) u) (hky:∀ k∈ks.set x.toNat t,IsNv y k)=>Qcf ua un uc u (ks.set x.toNat t) y hul (by rw [List.length_set];exact hks) hy hky (fun k hk2=>by
  rcases List.mem_or_eq_of_mem_set hk2 with h|rfl
  ·exact hpl k h
  ·unfold Nd.path;rw [htc];exact hpb)
 have hkw:=fun (t:Nd) (y:World) (hold:∀ k∈ks,IsNv y k) (ht:IsNv y t)=>show ∀ k∈ks.set x.toNat t,IsNv y k from fun k hk2=>by
  rcases List.mem_or_eq_of_mem_set hk2 with h|rfl
  ·exact hold k h
  ·exact ht
 have ct2:=fun (t:Nd) (htc:clN t=putQ (clN K) p v) (y:World) (hy:Bytes y (.slice ua un uc) u) (hky:∀ k∈ks.set x.toNat t,IsNv y k)=>(by
  have:=ct t htc y hy hky
  rw [←hset t,Q91,htc] at this
  exact this:Calls Tryz.prog 133 #[.agg ((nvL ks++[Value.slice ua un uc]).set x.toNat (nv t)).toArray] y (NvPost (tidyQ u ((clNL ks).set x.toNat (putQ (clN K) p v))) y))
 have bA:Below w.heap.size w (w.alloc (.cells zFork.toArray 189)):=Qba _ _
 obtain ⟨FC,hFC⟩:∃ FC,FC=nvL ks++[Value.slice ua un uc]:=⟨_,rfl⟩
 rw [←hFC] at hFl hF1 hno hFx ⊢
 simp only [←hFC] at ct2
 obtain ⟨V,hV⟩:∃ V,V=nv K:=⟨_,rfl⟩
 rw [←hV] at hFx
 simp only [←hV] at cg
 obtain ⟨R,hR⟩:∃ R,R=tidyQ u ((clNL ks).set x.toNat (putQ (clN K) p v)):=⟨_,rfl⟩
 simp only [←hR] at ct2 ⊢
 obtain ⟨Q,hQQ⟩:∃ Q,Q=putQ (clN K) p v:=⟨_,rfl⟩
 simp only [←hQQ] at ct2 cg
 have Ct:=Qhd ct2
 have Cg:=Qhd cg
 have Hkw:=Qhd hkw
 have Hk:=Qhd hk
 have Hub:=Qhd hub
 have HFx:=Qhd hFx
 have Hno:=Qhd hno
 clear ct ct2 cg hkw hk hub hFx hno hset hFC hV hR hQQ hQ hck hkx hK hmk hpb hpl ih hp hvl hks hkb hvb row5 hpl1 hul hkl
 go_enter Tryz.func105,Tryz.ntmps105
 go_wp2_with ((with_reducible refine Qgs 27 ?_);refine Qsa 189 9 27 w.heap.size FC Q1e (Blk.new w 189 zFork) hFl (by rfl) hF1 bA (Nat.le_refl _) ?_;intro w4 h4 b4 g4)
 have k1:=fun u:Ext w4=>u.cell (show w4.cell? ⟨bq,oq,none⟩=some (.int .u8 (x.toNat:Int)) from by rw [b4.cell (World.block_lt_of_cell? w _ (by simpa using hcq))];simpa using hcq)
 have k2:=fun u:Ext w4=>u.cell ((h4.cell x.toNat).trans HFx.out)
 refine Q02 w4 15 (by kernel_rfl) (by kernel_rfl) (Below.refl _ _) ?_;simp only [List.take_succ_cons,List.take_zero,List.take_nil]
 iterate 12 (refine Q01 (by rfl) (fun K hK=>?_);go_simp;first|(refine hK _ ?_;clear hK K)|(apply Exists.intro;refine ⟨fun _=>?_,hK _ ?_⟩;exact run5 _;clear hK K))
 refine Q07 45 (NvT Q) rfl (of_decide_eq_true rfl) (NvT.mono _) (fun w6 hw6=>?_) ?_
 ·simp only [relOf,List.filter_nil,Q00]
  refine ⟨rfl,?_⟩
  go_simp
  refine (Cg.out w6 (Below.then b4 hw6)).mono ?_
  rintro e w7 ⟨t7,rfl,b7,i7,c7⟩
  exact ⟨_,rfl,⟨t7,rfl,i7,c7⟩,b7⟩
 iterate 2 (refine Q01 (by rfl) (fun K hK=>?_);go_simp;refine hK _ ?_;clear hK K)
 refine Q09 ?_
 intro y hy v45 h45
 change wpList _ _ _ [_] _ _
 simp only [Act.put,Qzs]
 obtain ⟨t7,rfl,i7,c7⟩:=h45
 have by1:=Below.then b4 hy
 have hy4:=h4.kept hy
 have hs:=hy4.set x.toNat (nv t7)
 have gc:y.grownBy (y.setCell ⟨w.heap.size,x.toNat,none⟩ (nv t7)) (some w.heap.size):=Q0r x.toNat _
 have hb2:Below w.heap.size w (y.setCell ⟨w.heap.size,x.toNat,none⟩ (nv t7)):=by1.grown gc by1.size (fun k hk=>by cases hk;exact Nat.le_refl _)
 have hl2:(FC.set x.toNat (nv t7)).length=17:=by rw [List.length_set];exact hFl
 obtain ⟨xc,hxc⟩:=hy4.has x.toNat (by rw [hFl];omega)
 have hfc:=hy4.free x.toNat
 have cl:=Ct.out t7 c7 _ (Hub.out.below hb2) (Hkw.out t7 _ (fun k hk2=>(Hk.out k hk2).kept hb2) (i7.off hy4 Hno.out gc))
 have Cl:=Qhd cl
 clear cl i7 gc k1 k2
 rcases Q4c t7 with hV7|⟨ty,X7,hV7⟩
 all_goals
  rw [hV7] at hs hb2 hl2 Cl ⊢
  clear hV7
  go_wp2_with (first
   |((with_reducible refine Qgl 48 ?_);refine Qla 189 9 w.heap.size Q1e hs hl2 ?_)
   |(go_at_call 133;(with_reducible refine Cl.out.mono ?_);rintro e w5 ⟨t,rfl,b5,it,ct⟩;obtain ⟨VT,hVT⟩:∃ x,x=nv t:=⟨_,rfl⟩;rw [←hVT];have HVT:=Qhd hVT;clear hVT))
  go_ret
  exact ⟨t,by rw [←HVT.out];rfl,Below.then hb2 b5,it,ct⟩
theorem Qco {l:List Rt}{p v:List UInt8}{r:Rt}(h:r∈rputP l p v):r∈l∨r=(p,v):=by
 unfold rputP at h
 split at h
 ·exact .inl ((List.mem_filter.1 h).1)
 ·have hi:∀ (l:List Rt),r∈insR (p,v) l→r=(p,v)∨r∈l:=by
   intro l
   induction l with
   | nil=>intro h;exact .inl (List.mem_singleton.1 h)
   | cons s l ih =>
    intro h
    unfold insR at h
    split at h
    ·rcases List.mem_cons.1 h with h|h
     ·exact .inl h
     ·exact .inr h
    ·rcases List.mem_cons.1 h with h|h
     ·exact .inr (h▸List.mem_cons_self)
     ·rcases ih h with h|h
      ·exact .inl h
      ·exact .inr (List.mem_cons_of_mem _ h)
  rcases hi _ h with h|h
  ·exact .inr h
  ·exact .inl ((List.mem_filter.1 h).1)
theorem Qcu {l:List Rt}{t:Pn}(h:Grows l t)(B:Nat)(hB:∀ r∈l,r.1.length≤B)(p v:List UInt8)(hp:nibs p)(hpB:p.length≤B):(putQ t p v).pth.length≤B :=
 Q2a (Q9v h p v hp) B (fun r hr=>by
  rcases Qco hr with hr|rfl
  ·exact hB r hr
  ·exact hpB)
theorem Qgc:∀ (n:Nat)(t:Nd),SizeOf.sizeOf t≤n→∀ l,Grows l (clN t)→(∀ r∈l,r.1.length≤1000000)→PutC t
 | 0,.mk kd pv p vv v kv ks,h=>by simp at h
 | n+1,.mk kd pv p vv v kv ks,h=>by
  intro l hg hB ka va kn kc vn vc p' v' w hkl hvl hk1 hp' hI hkb hvb
  have hks:∀ k∈ks,∀ l,Grows l (clN k)→(∀ r∈l,r.1.length≤1000000)→PutC k:=by
   intro k hk
   refine Qgc n k ?_
   have:=List.sizeOf_lt_of_mem hk
   simp only [Nd.mk.sizeOf_spec] at h
   omega
  have hgc:=hg
  cases hI with
  | none pv p vv v kv ks=>exact Qgb ka va kn kc vn vc p' v' hvl w hkb hvb
  | leaf pv p vv v kv ks hp hv =>
   obtain ⟨pa,pc,rfl,_,_⟩:=hp.form
   obtain ⟨ua,uc,rfl,_,_⟩:=hv.form
   rw [show clN (.mk 1 (.slice pa p.length pc) p (.slice ua v.length uc) v kv ks)=.mk 1 p v [] from rfl] at hg
   have hpl:=Q2a hg 1000000 hB
   have hq:nibs p:=by
    generalize hT:(Pn.mk 1 p v [])=T at hg
    cases hg with
    | none=>cases hT
    | leaf p2 v2 hv2 hp2=>cases hT;exact hp2
    | road=>cases hT
    | fork=>cases hT
   have hpl2:p.length≤1000000:=hpl
   exact Qjl pa ua ka va _ pc _ uc kn kc vn vc p v p' v' rfl hkl hvl (by omega) (by omega) hq hp' w hp hv hkb hvb
  | road pv p vv v kv k hp hk3 hk =>
   obtain ⟨pa,pc,rfl,_,_⟩:=hp.form
   rw [show clN (.mk 2 (.slice pa p.length pc) p vv v kv [k])=.mk 2 p [] [clN k] from rfl] at hg ⊢
   have hpl:p.length≤1000000:=Q2a hg 1000000 hB
   obtain ⟨l',rfl,hq,hgk⟩:∃ l',l=pre p l'∧nibs p∧Grows l' (clN k):=by
    generalize hT:(Pn.mk 2 p [] [clN k])=T at hg
    cases hg with
    | none=>cases hT
    | leaf=>cases hT
    | road p2 l2 k2 hp0 hn h2 hk2=>cases hT;exact ⟨l2,rfl,hn,h2⟩
    | fork=>cases hT
   have hB2:∀ r∈l',r.1.length≤1000000:=fun r hr=>by
    have:=hB _ (Q2x (p:=p) hr)
    simp only [List.length_append] at this
    omega
   have hkp:k.path.length≤1000000:=Q2a hgk 1000000 hB2
   have hpb:=Qcu hgk 1000000 hB2 (p'.drop p.length) v' (fun y hy=>hp' y (List.mem_of_mem_drop hy)) (by rw [List.length_drop];omega)
   exact Qjk pa ka va _ pc kn kc vn vc p p' v' k hk3 (hks k (List.mem_singleton.2 rfl) l' hgk hB2) rfl hkl hvl (by omega) hk1 hq hp' (by omega) (by omega) w hp hkb hvb hk
  | fork pv p vv v kv ks hv hl hk =>
   obtain ⟨ua,uc,rfl,_,_⟩:=hv.form
   rw [show clN (.mk 3 pv p (.slice ua v.length uc) v kv ks)=.mk 3 [] v (clNL ks) from rfl] at hg ⊢
   have hkk:∀ (i:Nat) (k:Nd),ks[i]?=some k→∃ l',Grows l' (clN k)∧∀ r∈l',r.1.length≤1000000:=by
    intro i k hi
    generalize hT:(Pn.mk 3 [] v (clNL ks))=T at hg
    cases hg with
    | none=>cases hT
    | leaf=>cases hT
    | road=>cases hT
    | fork v2 ls ks2 hl2 hk2 h2 hm =>
     cases hT
     have hi16:i<16:=by have:=(List.getElem?_eq_some_iff.1 hi).1;omega
     have h1:ls[i]?=some (ls[i]'(by omega)):=List.getElem?_eq_getElem _
     refine ⟨ls[i]'(by omega),h2 i _ _ h1 (by rw [Q1c,List.getElem?_map,hi];rfl),fun r hr=>?_⟩
     have:=hB _ (List.mem_append_right _ (Q2y (i:=0) h1 hr))
     simp only [List.length_cons] at this
     omega
   have hkm:∀ k∈ks,∃ l',Grows l' (clN k)∧∀ r∈l',r.1.length≤1000000:=fun k hk=>by
    obtain ⟨i,hi⟩:=List.getElem?_of_mem hk
    exact hkk i k hi
   have hpl:∀ k∈ks,k.path.length≤1000000000:=fun k hk=>by
    obtain ⟨l',h1,h2⟩:=hkm k hk
    have:k.path.length≤1000000:=Q2a h1 1000000 h2
    omega
   cases p' with
   | nil =>
    simp only [List.length_nil] at hkl
    subst hkl
    exact Q9w ka ua va kc _ uc vn vc v v' ks hl hvl hpl w hvb hk
   | cons x q =>
    have hx:x.toNat<16:=hp' x List.mem_cons_self
    have h1:ks[x.toNat]?=some (ks[x.toNat]'(by omega)):=List.getElem?_eq_getElem _
    obtain ⟨l',hgk,hBk⟩:=hkk _ _ h1
    have hpb:=Qcu hgk 1000000 hBk q v' (fun y hy=>hp' y (List.mem_cons_of_mem _ hy)) (by simp only [List.length_cons] at hkl;omega)
    refine Q8d ka ua va kn kc _ uc vn vc v v' x q ks hl hkl hk1 hvl rfl hp' (fun k hk2=>?_) hpl ?_ w hv hkb hvb hk
    ·obtain ⟨l2,a1,a2⟩:=hkm k hk2
     exact hks k hk2 l2 a1 a2
    ·rw [Q1c,List.getElem?_map,h1]
     simp only [Option.map_some,Option.getD_some]
     omega
end Go.Proofs.YtbdmkfjgnjfjbaaGreat
