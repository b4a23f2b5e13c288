/- The reference's treeCodes: roads and forks (not finished). | The reference's treeCodes of any node that counts. | root.codes: what lies there while the kids are -/
import Derived.Test.YtbdmkfjgnjfjbaaGreatLazyServesK26
import Derived.Deep.Cut
import Derived.Test.YtbdmkfjgnjfjbaaGreatLazyServesK27
set_option linter.unusedSimpArgs false
set_option linter.unusedVariables false
set_option maxHeartbeats 4000000
set_option maxRecDepth 100000
namespace Go.Proofs.YtbdmkfjgnjfjbaaGreat
open Go.RowKit
theorem smN_le:∀ (ks:List Nd),∀ l∈smN ks,l.length≤1048576
 | [],l,h=>by rw [smN] at h;simp at h
 | k::ks,l,h=>by
  rw [smN] at h
  rcases List.mem_cons.1 h with rfl|h
  ·split
   ·simp
   ·rw [show (sumB (cdN k)).length=32 from by unfold sumB;rw [Q0i]];omega
  ·exact smN_le ks l h
mutual
theorem Qih:∀ (t:Nd),(alN t).length≤bulkN t
 | .mk kd pv p vv v kv ks=>by
  rw [alN,bulkN,List.length_cons]
  have:=Q6y ks
  split
  ·simp;omega
  ·omega
theorem Q6y:∀ (ks:List Nd),(alL ks).length≤bulkNL ks
 | []=>by rw [alL,bulkNL];simp
 | k::ks=>by
  rw [alL,bulkNL,List.length_append]
  have h1:=Qih k
  have h2:=Q6y ks
  split
  ·simp;omega
  ·omega
end
theorem Q50:∀ (a b:List Nd),bulkNL (a++b)=bulkNL a+bulkNL b
 | [],b=>by rw [List.nil_append,bulkNL];omega
 | x::a,b=>by rw [List.cons_append,bulkNL,bulkNL,Q50 a b];omega
theorem Q7s (ks:List Nd)(k:Nat):bulkNL (ks.take k)≤bulkNL ks:=by
 have:=Q50 (ks.take k) (ks.drop k)
 rw [List.take_append_drop] at this;omega
theorem Q41 {ps:List (Value × List UInt8)}{c:List UInt8}{l:List (List UInt8)}(h:ps.map (·.2)=c::l):∃ v ps',ps=(v,c)::ps'∧ps'.map (·.2)=l:=by
 cases ps with
 | nil=>simp at h
 | cons q ps =>
  simp only [List.map_cons,List.cons.injEq] at h
  exact ⟨q.1,ps,by rw [←h.1],h.2⟩
def OneX (v:Value)(t:List UInt8):Ty:=fun u w=>∃ g,u=.slice (some ⟨g,0,none⟩) 1 1∧RowOf tcell 1 w u [(v,t)]
theorem OneX.mono (v:Value)(t:List UInt8):Mono (OneX v t):=fun _ _ _ ⟨g,h1,h2⟩ hb=>⟨g,h1,RowOf.kept h2 hb⟩
theorem Q66:One tcell (fun q=>q.1):=fun _=>rfl
theorem Q1u {w:World}{g:Nat}{l:List UInt8}(h:Blk 30 w g (l.map u8v))(hl:l.length=32):Bytes w (.slice (some ⟨g,0,none⟩) 32 32) l :=
 Blk.row h l 32 32 (fun _=>rfl) hl (fun j u hu=>by rw [←hu,one_u8.map]) (Nat.le_refl _) (by unfold maxLen;omega)
theorem Qj1 (kd:Int)(hkd:kd=2∨kd=3)(pa va ka:Option Addr)(pn pc vn vc kn kc:Nat)(p v:List UInt8)(ks:List Nd)(hpn:p.length=pn)(hvn:v.length=vn)(hkn:ks.length=kn)(w:World)(hp:Bytes w (.slice pa pn pc) p)(hv:Bytes w (.slice va vn vc) v)(hk:RowOf Q03 4 w (.slice ka kn kc) ks)(hP:pn≤1048576)(hV:vn≤1048576)(hK:kn≤1048576)
  (hks:∀ k∈ks,IsNd w k) (hBk:bulkNL ks≤10000000000) (ih:∀ k∈ks,k.kd≠0→∀ u,Below w.heap.size w u→Calls Tryz.prog 109 #[.agg (Q03 k).toArray] u (TcPost (alN k) u)) (pv vv kv:Value) :
  Calls Tryz.prog 109 #[.agg #[.int .i64 kd,.slice pa pn pc,.slice va vn vc,.slice ka kn kc]] w (TcPost (alN (.mk kd pv p vv v kv ks)) w):=by
 obtain ⟨w2,hw2⟩:∃ w2,w2=(w.alloc (.cells #[.int .i64 kd,.slice pa pn pc,.slice va vn vc,.slice ka kn kc] 70)).alloc (.cells #[.int .i64 0,.slice none 0 0,.slice none 0 0,.slice none 0 0] 134):=⟨_,rfl⟩
 have z1:Blk 70 w2 w.heap.size [.int .i64 kd,.slice pa pn pc,.slice va vn vc,.slice ka kn kc]:=by rw [hw2];exact (Blk.new w _ _).alloc _
 have z2:Blk 134 w2 (w.heap.size+1) [.int .i64 0,.slice none 0 0,.slice none 0 0,.slice none 0 0]:=by
  have:=Blk.new (w.alloc (.cells #[.int .i64 kd,.slice pa pn pc,.slice va vn vc,.slice ka kn kc] 70)) 134 [.int .i64 0,.slice none 0 0,.slice none 0 0,.slice none 0 0]
  simp only [World.size_alloc] at this
  rw [hw2];exact this
 have hbel:Below w.heap.size w w2:=by rw [hw2];exact (Qba _ _).alloc (by simp) _
 have c0:=z1.cell 0
 have c1:=z1.cell 1
 have c2:=z1.cell 2
 have c3:=z1.cell 3
 have Hw2:=Qhd hw2
 have Hbel:=Qhd hbel
 have Hk:=Qhd hk
 have Hks:=Qhd hks
 have IH:=Qhd ih
 have Hkn:=Qhd hkn
 have Hp:=Qhd hp
 have Hv:=Qhd hv
 have Hpn:=Qhd hpn
 have Hvn:=Qhd hvn
 have HBk:=Qhd hBk
 have n1:(kd==1)=false:=by rcases hkd with rfl|rfl<;>rfl
 have n2:(kd==2)=true∨((kd==2)=false∧(kd==3)=true):=by rcases hkd with rfl|rfl<;>simp
 clear hw2 hbel hk hks ih hkn hp hv hpn hvn hkd hBk
 rcases n2 with n2|⟨n2,n3⟩
 all_goals
  go_enter Tryz.func109,Tryz.ntmps109
  go_wp2_with (first
   |(rw [←Hw2.out];have c0:w2.cell? ⟨w.heap.size,0,none⟩=some (.int .i64 kd):=c0;have c1:w2.cell? ⟨w.heap.size,1,none⟩=some (.slice pa pn pc):=c1;have c2:w2.cell? ⟨w.heap.size,2,none⟩=some (.slice va vn vc):=c2;have c3:w2.cell? ⟨w.heap.size,3,none⟩=some (.slice ka kn kc):=c3)
   |((with_reducible refine Qgs 31 ?_);refine Qsa 134 3 31 (w.heap.size+1) [.int .i64 kd,.slice pa pn pc,.slice va vn vc,.slice none 0 0] Q1k z2 (by rfl) (by rfl) (by intro u hu;simp at hu;rcases hu with rfl|rfl|rfl|rfl<;>rfl) Hbel.out (by omega) ?_;intro w3 y3 hbel3 g3;have x1:=z1.grown g3 (by simp);have d3:w3.cell? ⟨w.heap.size,3,none⟩=some (.slice ka kn kc):=x1.cell 3))
  have F:TcW w [.int .i64 kd,.slice pa pn pc,.slice va vn vc,.slice ka kn kc] kd (.slice pa pn pc) (.slice va vn vc) (.slice none 0 0) (.slice none 0 0) [] [] w3:=⟨hbel3,x1,y3,OwnOf.nil tcell 1 _ _ _,OwnOf.nil tcell 1 _ _ _,fun k hk=>by simp [Value.ownBlock] at hk,fun q hq=>absurd hq (by simp),fun q hq=>absurd hq (by simp)⟩
  clear x1 y3 d3 z1 z2 c0 c1 c2 c3 hbel3 g3
  try simp only [Act.put]
  go_loopw [4,35] (fun rv ix wr=>∃ (k:Nat) (sv:Value) (sums rest:List (Value × List UInt8)),k≤kn∧ix=.int .i64 (k:Int)∧TcW w [.int .i64 kd,.slice pa pn pc,.slice va vn vc,.slice ka kn kc] kd (.slice pa pn pc) (.slice va vn vc) sv rv sums rest wr∧Hid (sums.map (·.2)=smN (ks.take k))∧Hid (rest.map (·.2)=alL (ks.take k))) (fun _ ix _=>kn - (intOf ix).toNat)
  case atStart=>exact ⟨0,_,_,_,Nat.zero_le _,rfl,F,Qhd (by rw [List.take_zero,smN];rfl),Qhd (by rw [List.take_zero,alL];rfl)⟩
  case round =>
   clear F
   obtain ⟨k,sv,sums,rest,hk,rfl,F,HS,HR⟩:=hrel
   by_cases hlt:k<kn
   ·have hki:(k:Int)<(kn:Int):=by omega
    have hlk:k<ks.length:=by rw [Hkn.out];exact hlt
    obtain ⟨b,off,rfl,hr⟩:=RowOf.range Q06 (Hk.out.below F.hb) k hlk
    obtain ⟨x,hx⟩:∃ x,ks[k]=x:=⟨_,rfl⟩
    have hxm:x∈ks:=by rw [←hx];exact List.getElem_mem hlk
    have HT:Hid (ks.take (k+1)=ks.take k++[x]):=Qhd (by rw [List.take_add_one,List.getElem?_eq_getElem hlk,hx];rfl)
    rw [hx] at hr
    have ihx:=Qhd (IH.out x hxm)
    obtain ⟨xk,xp,xpb,xv,xvb,xkv,xks⟩:=x
    change wr.rangeAt b (off+k*4) [.int .i64 xk,xp,xv,xkv] at hr
    obtain ⟨i1,i2,i3,_⟩:=(Hks.out _ hxm).inv
    obtain ⟨xpa,xpc,rfl,_⟩:=i1.form
    obtain ⟨xva,xvc,rfl,_⟩:=i2.form
    obtain ⟨xka,xkc,rfl,_⟩:=i3.form
    have HSl:sums.length=k:=by
     have:=congrArg List.length HS.out
     rw [List.length_map,Q86,List.length_take,Hkn.out] at this;omega
    have hHSl:=Qhd HSl
    clear hx hxm hlk i1 i2 i3 HSl
    by_cases hx0:xk=0
    ·subst hx0
     go_wp2_with (first
      |((with_reducible refine Qgl 38 ?_);refine Qlw 70 37 b (off+k*4) Q05 (by rfl) hr ?_)
      |((with_reducible refine Qgs 38 ?_);refine Qsa 70 6 38 wr.heap.size [.int .i64 0,.slice xpa xpb.length xpc,.slice xva xvb.length xvc,.slice xka xks.length xkc] Q05 (old:=[.int .i64 0,.slice none 0 0,.slice none 0 0,.slice none 0 0]) (Blk.new wr _ _) (by rfl) (by rfl) (by intro u hu;simp at hu;rcases hu with rfl|rfl|rfl|rfl<;>rfl) (Qba wr _) (Nat.le_refl _) ?_;intro w4 y6 b4 _;have F:=F.kept b4;have q0:w4.cell? ⟨wr.heap.size,0,none⟩=some (.int .i64 0):=y6.cell 0;have d3:w4.cell? ⟨w.heap.size+1,3,none⟩=some sv:=F.z2.cell 3)
      |((with_reducible refine Qgl 44 ?_);refine Q0s (o:=⟨some 44,_,_,_,_,_⟩) (by rfl) 44 1 [(0,.const (.slice none 0 0))] (by rfl) elText [(.slice none 0 0,[])] [.slice none 0 0] (by rfl) (by rfl) (by rfl) (by omega) (by omega) ?_;intro w5 _ r5 b5;have F:=F.kept b5)
      |((with_reducible refine Qgl 45 ?_);refine Q0g (o:=⟨some 45,_,_,_,_,_⟩) (by rfl) (.tmp 43) (.tmp 44) 44 (by rfl) elText (by intro u hu;simp [tcell] at hu;subst hu;rfl) (by rfl) F.oS (by rfl) r5 (by have:=F.z2.lt;omega) (by rw [hHSl.out];simp only [List.length_cons,List.length_nil];omega) (by rw [hHSl.out];simp only [List.length_cons,List.length_nil];unfold maxLen;omega) ?_;intro v6 w6 o6 g6 p6;obtain ⟨a6,c6,rfl,_⟩:=o6.form' (k+1) (by rw [List.length_append,hHSl.out];rfl);have y2:=F.z2.grown g6 (F.oS.notT F.z2 (by decide));obtain ⟨x3,hx3⟩:=y2.has 3 (by simp);have hf3:=y2.free 3;have F:=F.grewS g6 o6 p6 (fun q hq=>by rw [List.mem_singleton] at hq;subst hq;exact ⟨RowOf.nil b8 1 _,Nat.zero_le _,fun k hk=>by simp [Value.ownBlock] at hk⟩)))
     go_roundw
     case rel=>exact ⟨k+1,_,_,rest,by omega,by go_num,F,Qhd (by rw [List.map_append,HS.out,HT.out,Q46];rfl),Qhd (by rw [HR.out,HT.out,Q4m];simp [Nd.kd])⟩
     case measure=>simp [intOf];omega
    ·have hx0b:(xk==0)=false:=by rw [beq_eq_false_iff_ne];exact hx0
     obtain ⟨X,hX⟩:∃ X,X=Nd.mk xk (.slice xpa xpb.length xpc) xpb (.slice xva xvb.length xvc) xvb (.slice xka xks.length xkc) xks:=⟨_,rfl⟩
     have hXk:X.kd=xk:=by rw [hX];rfl
     have Ihx:Hid (∀ u,Below w.heap.size w u→Calls Tryz.prog 109 #[.agg #[.int .i64 xk,.slice xpa xpb.length xpc,.slice xva xvb.length xvc,.slice xka xks.length xkc]] u (TcPost (alN X) u)):=Qhd fun u hu=>by rw [hX];exact ihx.out hx0 u hu
     obtain ⟨al,hal⟩:=alN_ne X
     have hsm:smN (ks.take (k+1))=smN (ks.take k)++[sumB (cdN X)]:=by rw [HT.out,Q46,←hX,if_neg (by rw [hXk];exact hx0)]
     have hall:alL (ks.take (k+1))=alL (ks.take k)++alN X:=by rw [HT.out,Q4m,←hX,if_neg (by rw [hXk];exact hx0)]
     have hlen1:rest.length+(alN X).length≤10000000000:=by
      have h1:=Q6y (ks.take (k+1))
      have h2:=Q7s ks (k+1)
      have h3:=congrArg List.length HR.out
      have h4:=HBk.out
      rw [List.length_map] at h3
      rw [hall,List.length_append] at h1
      omega
     obtain ⟨SH,hSH⟩:∃ SH,SH=(sumB (cdN X)).map u8v:=⟨_,rfl⟩
     have cs:=fun (a:Option Addr) (n c:Nat) (hn:(cdN X).length=n) (x:World) (hb:Bytes x (.slice a n c) (cdN X)) (hl:n+64≤140737488355328)=>Q59 a n c (cdN X) hn x hb hl
     simp only [←hSH] at cs
     have Cs:=Qhd cs
     have HSM:=Qhd hsm
     have HAL:=Qhd hall
     have Hal:=Qhd hal
     have HLen:=Qhd hlen1
     have HSHl:Hid (SH.length=32):=Qhd (by rw [hSH,List.length_map];exact Q0i _)
     have HSHo:Hid (∀ u∈SH,u.oneCell'=true):=Qhd (by rw [hSH];intro u hu;obtain ⟨y,_,rfl⟩:=List.mem_map.1 hu;rfl)
     have HSH:=Qhd hSH
     clear ihx hX hXk hsm hall hlen1 cs hSH hal hx0 hlt hk
     go_wp2_with (first
      |((with_reducible refine Qgl 38 ?_);refine Qlw 70 37 b (off+k*4) Q05 (by rfl) hr ?_)
      |((with_reducible refine Qgs 38 ?_);refine Qsa 70 6 38 wr.heap.size [.int .i64 xk,.slice xpa xpb.length xpc,.slice xva xvb.length xvc,.slice xka xks.length xkc] Q05 (old:=[.int .i64 0,.slice none 0 0,.slice none 0 0,.slice none 0 0]) (Blk.new wr _ _) (by rfl) (by rfl) (by intro u hu;simp at hu;rcases hu with rfl|rfl|rfl|rfl<;>rfl) (Qba wr _) (Nat.le_refl _) ?_;intro w4 y6 b4 _;have F:=F.kept b4;have q0:w4.cell? ⟨wr.heap.size,0,none⟩=some (.int .i64 xk):=y6.cell 0)
      |((with_reducible refine Qgl 47 ?_);refine Qla 70 6 wr.heap.size Q05 y6 (by rfl) ?_)
      |(go_at_call 109;refine (Ihx.out w4 F.hb).mono ?_;rintro e w5 ⟨v5,ps5,rfl,o5,t5,m5,b5⟩;obtain ⟨qv,ps6,rfl,m6⟩:=Q41 (m5.trans Hal.out);obtain ⟨n5,hn5⟩:∃ n,n=ps6.length+1:=⟨_,rfl⟩;obtain ⟨a5,c5,rfl,_⟩:=o5.form' n5 (by rw [hn5];rfl);have h05:(0:Int)<(n5:Int):=(by omega);obtain ⟨g5,rfl,hg5,_⟩:=o5.lies (by omega);have k5:=o5.cellAt Q66 0 _ rfl;have T:∀ q∈(qv,cdN X)::ps6,TxG w sv u4 w5 q:=fun q hq=>⟨(t5 q hq).1,(t5 q hq).2.1,fun j hj=>⟨Nat.le_trans F.z2.lt ((t5 q hq).2.2 j hj).1,((t5 q hq).2.2 j hj).2.1,fun e=>by have h1:=OwnOf.ltT F.oS j e;have h2:=((t5 q hq).2.2 j hj).1;omega,fun e=>by have h1:=OwnOf.ltT F.oR j e;have h2:=((t5 q hq).2.2 j hj).1;omega⟩⟩;have s5:∀ j,sv.ownBlock=some j→j<g5:=fun j hj=>Nat.lt_of_lt_of_le (OwnOf.ltT F.oS j hj) hg5;have z5:=Nat.lt_of_lt_of_le F.z2.lt hg5;have F:=F.kept b5;obtain ⟨q1,q2,q3⟩:=t5 _ List.mem_cons_self;dsimp only at k5 q1 q2 q3;obtain ⟨qa,qc,rfl,_⟩:=q1.form;obtain ⟨PS,hPS⟩:∃ P,P=(Value.slice qa (cdN X).length qc,cdN X)::ps6:=⟨_,rfl⟩;rw [←hPS] at T o5 m5;clear hPS;obtain ⟨qn,hqn⟩:∃ n,n=(cdN X).length:=⟨_,rfl⟩;have M5:=Qhd m5;clear m6 m5 hn5 t5;rw [←hqn] at k5 q1 q2 q3;have Hqn:=Qhd hqn;clear hqn)
      |(go_at_call 41;refine (Cs.out qa qn qc Hqn.out.symm _ q1 (by omega)).mono ?_;rintro e w6 ⟨rfl,b6⟩;have F:=F.kept b6;have o5:=o5.kept b6;have hn8:=Blk.new w6 30 zh;have ls6:=OwnOf.ltT F.oS;have lr6:=OwnOf.ltT F.oR;have lz6:=F.z2.lt)
      |((with_reducible refine Qgs 52 ?_);refine Qsa 30 8 52 w6.heap.size SH Q0l hn8 HSHl.out (by rfl) HSHo.out (Qba w6 _) (Nat.le_refl _) ?_;intro w7 y8 b7 _;have F:=F.kept b7;have o5:=o5.kept b7))
     have T:∀ q∈PS,TxG w sv u4 w7 q:=fun q hq=>((T q hq).kept b6).kept b7
     have k3:=fun u:Ext w7=>u.cell ((F.z2.cell 3).trans (show _=some sv from rfl))
     refine Q02 w7 4 (by kernel_rfl) (by kernel_rfl) (Below.refl _ _) ?_;simp only [List.take_succ_cons,List.take_zero,List.take_nil]
     iterate 3 (refine Q01 (by rfl) (fun K hK=>?_);go_simp;refine hK _ ?_;clear hK K)
     refine Q07 56 (OneX (.slice (some ⟨w6.heap.size,0,none⟩) 32 32) (sumB (cdN X))) rfl (of_decide_eq_true rfl) (OneX.mono _ _) (fun w8 hw8=>?_) ?_
     ·change Q00 w8 [] _ _
      simp only [Q00]
      refine ⟨rfl,?_⟩
      go_simp
      exact ⟨Qba _ _,w8.heap.size,rfl,Row.built (f:=tcell) (size:=1) (fun _=>rfl) w8 25 [(.slice (some ⟨w6.heap.size,0,none⟩) 32 32,sumB (cdN X))] 1 rfl (by unfold maxLen;omega)⟩
     refine Q09 ?_
     intro u2 hb2 v56 h56
     change wpList _ _ _ [_,_,_] _ _
     obtain ⟨g56,rfl,hr56⟩:=h56
     have F:=F.kept hb2
     have o5:=o5.kept hb2
     have hB:Bytes u2 (.slice (some ⟨w6.heap.size,0,none⟩) 32 32) (sumB (cdN X)):=Q1u (by have:=y8.kept hb2;rwa [HSH.out] at this) (Q0i _)
     have T:∀ q∈PS,TxG w sv u4 u2 q:=fun q hq=>(T q hq).kept hb2
     have N:TxG w sv u4 u2 (.slice (some ⟨w6.heap.size,0,none⟩) 32 32,sumB (cdN X)):=⟨hB,by rw [show (sumB (cdN X)).length=32 from Q0i _];omega,fun j hj=>by
      simp only [Value.ownBlock,Option.some.injEq] at hj
      subst hj
      exact ⟨lz6,by have h1:=y8.lt;have h2:=hb2.size;omega,fun e=>by have:=ls6 _ e;omega,fun e=>by have:=lr6 _ e;omega⟩⟩
     clear k3 hB
     have hPl:PS.length=(alN X).length:=by have:=congrArg List.length M5.out;rwa [List.length_map] at this
     have HPl:=Qhd hPl
     have hz2':=F.z2.lt
     clear hPl
     go_wp2_with (first
      |((with_reducible refine Qgl 57 ?_);refine Q0g (o:=⟨some 57,_,_,_,_,_⟩) (by rfl) (.tmp 54) (.tmp 56) 44 (by rfl) elText (Q0y (ps:=[(Value.slice (some ⟨w6.heap.size,0,none⟩) 32 32,sumB (cdN X))]) (fun q hq=>by rw [List.mem_singleton] at hq;rw [hq];exact N.h)) (by rfl) F.oS (by rfl) hr56 (by have:=F.z2.lt;omega) (by rw [hHSl.out];simp only [List.length_cons,List.length_nil];omega) (by rw [hHSl.out];simp only [List.length_cons,List.length_nil];unfold maxLen;omega) ?_;intro v9 w9 o9 g9 p9;obtain ⟨a9,c9,rfl,_⟩:=o9.form' (k+1) (by rw [List.length_append,hHSl.out];rfl);have y2:=F.z2.grown g9 (F.oS.notT F.z2 (by decide));obtain ⟨x3,hx3⟩:=y2.has 3 (by simp);have hf3:=y2.free 3;have T:∀ q∈PS,TxG w (.slice a9 (k+1) c9) u4 (w9.setCell ⟨w.heap.size+1,3,none⟩ (.slice a9 (k+1) c9)) q:=fun q hq=>((T q hq).grewS g9 p9).set 3 _;have o5:=(o5.grown g9 (fun j hj e=>by simp only [Value.ownBlock,Option.some.injEq] at e;have:=s5 j hj;omega)).grown (gsetT w9 (w.heap.size+1) 3 (.slice a9 (k+1) c9)) (fun j hj e=>by simp only [Value.ownBlock,Option.some.injEq] at e hj;omega);have F:=F.grewS g9 o9 p9 (fun q hq=>by rw [List.mem_singleton] at hq;rw [hq];exact N))
      |((with_reducible refine Qgl 61 ?_);refine Q0g (o:=⟨some 61,_,_,_,_,_⟩) (by rfl) (.tmp 59) (.tmp 60) 44 (by rfl) elText (Q0y (fun q hq=>(T q hq).h)) (by rfl) F.oR (by rfl) o5.row (by have:=F.z2.lt;omega) (by rw [HPl.out];have:=HLen.out;omega) (by rw [HPl.out];have:=HLen.out;unfold maxLen;omega) ?_;intro v10 w10 o10 g10 p10;have F:=F.grewR g10 o10 p10 T))
     go_roundw
     case rel=>exact ⟨k+1,_,_,_,by omega,by go_num,F,Qhd (by rw [List.map_append,HS.out,HSM.out];rfl),Qhd (by rw [List.map_append,HR.out,HAL.out,M5.out])⟩
     case measure=>simp [intOf];omega
   ·obtain rfl:k=kn:=by omega
    have hk1:¬ kd=1:=fun e=>by rw [e] at n1;simp at n1
    have HSe:=HS.out
    have HRe:=HR.out
    rw [List.take_of_length_le (by rw [Hkn.out];exact Nat.le_refl _)] at HSe HRe
    have hSl:sums.length=k:=by
     have:=congrArg List.length HSe
     rw [List.length_map,Q86,Hkn.out] at this;exact this
    have hcd:cdN (.mk kd pv p vv v kv ks)=if shOk kd p v (smN ks)=true then shB kd p v (smN ks) else []:=by rw [cdN,if_neg hk1]
    have hal:alN (.mk kd pv p vv v kv ks)=cdN (.mk kd pv p vv v kv ks)::alL ks:=by rw [alN,if_neg hk1]
    obtain ⟨sa,sc,rfl,_⟩:=F.oS.form' k hSl
    obtain ⟨CB,hCB⟩:∃ B,B=if shOk kd p v (smN ks)=true then shB kd p v (smN ks) else []:=⟨_,rfl⟩
    have HalE:Hid (alN (.mk kd pv p vv v kv ks)=CB::alL ks):=Qhd (by rw [hal,hcd,hCB])
    obtain ⟨er',her⟩:∃ x:Int,x=if shOk kd p v (smN ks)=true then 0 else 1:=⟨_,rfl⟩
    have Ci:Hid (∀ x,Below wr.heap.size wr x→Calls Tryz.prog 136 #[.agg #[.int .i64 kd,.slice pa pn pc,.slice va vn vc,.slice sa k sc]] x fun e w'=>∃ cv,e=.returned (.tuple #[cv,.int .i64 er'])∧Bytes w' cv CB∧(∀ j,cv.ownBlock=some j→x.heap.size≤j∧j<w'.heap.size)∧Below x.heap.size x w'∧CB.length≤1000000000):=Qhd fun x hb=>by
     have:=Q6d kd pa va sa pn pc vn vc k sc p v sums Hpn.out Hvn.out hSl x ((Hp.out.below F.hb).below hb) ((Hv.out.below F.hb).below hb) ⟨F.oS.row.below hb,fun q hq=>(F.tS q hq).h.below hb⟩ (by omega) hV hK (fun q hq=>smN_le ks _ (by rw [←HSe];exact List.mem_map.2 ⟨q,hq,rfl⟩))
     rw [HSe] at this
     rw [hCB,her];exact this
    have HB:=Qhd hCB
    have F0:=F.hb
    have HRe':=Qhd HRe
    obtain ⟨rn,hrn⟩:∃ n,n=rest.length:=⟨_,rfl⟩
    obtain ⟨ra,rc,rfl,_⟩:=F.oR.form' rn hrn.symm
    have hrl:rn≤10000000000:=by
     have h1:=Q6y ks
     have h2:=HBk.out
     have h3:=congrArg List.length HRe
     rw [List.length_map] at h3
     omega
    have Hrn:=Qhd hrn
    clear HS HR hcd hal her hCB hSl hk1 HSe HRe hrn
    go_wp2_with (first
     |((with_reducible refine Qgl 64 ?_);refine Qla 134 3 (w.heap.size+1) Q1k F.z2 (by rfl) ?_)
     |(go_at_call 136;refine (Ci.out _ (Below.refl _ _)).mono ?_;rintro e w4 ⟨cv,rfl,hc,fc,b4,lc⟩;obtain ⟨ca,cc,rfl,_⟩:=hc.form;have F:=F.kept b4;have lt4:∀ q∈rest,∀ k,q.1.ownBlock=some k→k<w4.heap.size:=fun q hq k hk=>((F.tR q hq).b k hk).2.1;have gt4:∀ k,(Value.slice ca CB.length cc).ownBlock=some k→w.heap.size≤k∧k<w4.heap.size:=fun k hk=>⟨Nat.le_trans F0.size (fc k hk).1,(fc k hk).2⟩)
     |((with_reducible refine Qgl 69 ?_);refine Q0s (o:=⟨some 69,_,_,_,_,_⟩) (by rfl) 44 1 [(0,.tmp 68)] (by rfl) elText [(.slice ca CB.length cc,CB)] [.slice ca CB.length cc] (by rfl) (by rfl) (by rfl) (by omega) (by omega) ?_;intro w5 y5 _ b5;have hw4:=F.hb.size;have o5:=Blk.own (f:=tcell) (size:=1) (l:=[(Value.slice ca CB.length cc,CB)]) (B:=w.heap.size) y5 1 (fun _=>rfl) rfl hw4 (by unfold maxLen;omega);have F:=F.kept b5;have hc:=hc.kept b5)
     |((with_reducible refine Qgl 71 ?_);refine Q0g (o:=⟨some 71,_,_,_,_,_⟩) (by rfl) (.tmp 69) (.tmp 70) 44 (by rfl) elText (Q0y (fun q hq=>(F.tR q hq).h)) (by rfl) o5 (by rfl) F.oR.row F.hb.size (by rw [←Hrn.out];simp only [List.length_cons,List.length_nil];omega) (by rw [←Hrn.out];simp only [List.length_cons,List.length_nil];unfold maxLen;omega) ?_;intro v6 w6 o6 g6 p6))
    go_ret
    refine ⟨v6,_,rfl,o6,fun q hq=>?_,by rw [List.map_append,HRe'.out,HalE.out];rfl,F.hb.grown g6 F.hb.size (fun k hk=>by simp only [Value.ownBlock,Option.some.injEq] at hk;omega)⟩
    have key:∀ k,k<w4.heap.size→v6.ownBlock≠some k:=fun k hk e=>by
     rcases p6 k e with h|h
     ·simp only [Value.ownBlock,Option.some.injEq] at h;omega
     ·have:=b5.size;omega
    rcases List.mem_append.1 hq with hq|hq
    ·rw [List.mem_singleton] at hq
     subst hq
     exact ⟨RowOf.offT hc g6 (fun x hx=>Nat.ne_of_lt (gt4 x hx).2),lc,fun k hk=>⟨(gt4 k hk).1,Nat.lt_of_lt_of_le (gt4 k hk).2 (Nat.le_trans b5.size g6.size),key k (gt4 k hk).2⟩⟩
    ·have t:=F.tR q hq
     exact ⟨RowOf.offT t.h g6 (fun x hx=>Nat.ne_of_lt (lt4 q hq x hx)),t.l,fun k hk=>⟨Nat.le_trans (by omega) (t.b k hk).1,Nat.lt_of_lt_of_le (lt4 q hq k hk) (Nat.le_trans b5.size g6.size),key k (lt4 q hq k hk)⟩⟩
theorem tc_any:∀ (n:Nat)(t:Nd),SizeOf.sizeOf t≤n→OkN t→FnN t→bulkN t≤10000000000→∀ w,IsNd w t→Calls Tryz.prog 109 #[.agg (Q03 t).toArray] w (TcPost (alN t) w)
 | 0,.mk kd pv p vv v kv ks,h,_,_,_,_,_=>by simp at h
 | n+1,.mk kd pv p vv v kv ks,h,ho,hF,hb,w,hI=>by
  obtain ⟨fp,fv,fk,fks⟩:=hF.inv
  have hs:∀ k∈ks,SizeOf.sizeOf k≤n:=by
   intro k hk
   have:=List.sizeOf_lt_of_mem hk
   simp only [Nd.mk.sizeOf_spec] at h
   omega
  obtain ⟨hp,hv,hk,hall⟩:=hI.inv
  simp only [bulkN] at hb
  have hbm:=fun k (hk:k∈ks)=>Q1a hk
  cases ho with
  | leaf =>
   obtain ⟨pa,pc,rfl,_,_⟩:=hp.form
   obtain ⟨va,vc,rfl,_,_⟩:=hv.form
   obtain ⟨ka,kc,rfl,_,_⟩:=hk.form
   exact Qkv pa va ka p.length pc v.length vc ks.length kc p v ks _ _ _ rfl rfl w hp hv (by omega) (by omega)
  | inner _ _ _ _ _ _ _ hkd hks =>
   obtain ⟨pa,pc,rfl,_,_⟩:=hp.form
   obtain ⟨va,vc,rfl,_,_⟩:=hv.form
   obtain ⟨ka,kc,rfl,_,_⟩:=hk.form
   exact Qj1 kd hkd pa va ka p.length pc v.length vc ks.length kc p v ks rfl rfl rfl w hp hv hk (by omega) (by omega) (by omega) hall (by omega) (fun k hk h0 u hu=>tc_any n k (hs k hk) (hks k hk h0) (fks k hk) (by have:=hbm k hk;omega) u ((hall k hk).kept hu)) _ _ _
structure TxC (z:Nat)(kv rv:Value)(u:World)(q:Value × List UInt8):Prop where
 h:Bytes u q.1 q.2
 l:q.2.length≤1000000000
 b:∀ k,q.1.ownBlock=some k→z<k∧k<u.heap.size∧kv.ownBlock≠some k∧rv.ownBlock≠some k
theorem TxC.kept {z:Nat}{kv rv:Value}{u u':World}{q:Value × List UInt8}(h:TxC z kv rv u q)(hb:Below u.heap.size u u'):TxC z kv rv u' q :=
 ⟨h.h.kept hb,h.l,fun k hk=>⟨(h.b k hk).1,Nat.lt_of_lt_of_le (h.b k hk).2.1 hb.size,(h.b k hk).2.2⟩⟩
theorem TxC.grewS {z:Nat}{kv kv' rv:Value}{u u':World}{q:Value × List UInt8}(h:TxC z kv rv u q)(hg:u.grownBy u' kv.ownBlock)(hp:∀ k,kv'.ownBlock=some k→kv.ownBlock=some k∨u.heap.size≤k):TxC z kv' rv u' q :=
 ⟨RowOf.grownT h.h hg (fun k hk=>(h.b k hk).2.1) (fun k hk=>(h.b k hk).2.2.1),h.l,fun k hk=>⟨(h.b k hk).1,Nat.lt_of_lt_of_le (h.b k hk).2.1 hg.size,fun e=>(hp k e).elim (h.b k hk).2.2.1 (fun h1=>by have:=(h.b k hk).2.1;omega),(h.b k hk).2.2.2⟩⟩
theorem TxC.but {z g:Nat}{kv rv rv':Value}{u u':World}{q:Value × List UInt8}(h:TxC z kv rv u q)(hb:But2 g rv u u')(hg:g≤z)(hp:∀ k,rv'.ownBlock=some k→rv.ownBlock=some k∨u.heap.size≤k):TxC z kv rv' u' q :=
 ⟨RowOf.but h.h hb (fun e=>by have:=(h.b _ e).1;omega) (fun x hx=>(h.b x hx).2.2.2),h.l,fun k hk=>⟨(h.b k hk).1,Nat.lt_of_lt_of_le (h.b k hk).2.1 hb.size,(h.b k hk).2.2.1,fun e=>(hp k e).elim (h.b k hk).2.2.2 (fun h1=>by have:=(h.b k hk).2.1;omega)⟩⟩
theorem TxC.set {z:Nat}{kv rv:Value}{u:World}{q:Value × List UInt8}(h:TxC z kv rv u q)(i:Nat)(v:Value):TxC z kv rv (u.setCell ⟨z,i,none⟩ v) q :=
 ⟨RowOf.grownT h.h (gsetT u _ i v) (fun k hk=>(h.b k hk).2.1) (fun k hk e=>by have:=(h.b k hk).1;simp only [Option.some.injEq] at e;omega),h.l,fun k hk=>by have:=h.b k hk;simpa only [World.size_setCell] using this⟩
structure CdW (w:World)(N4:List Value)(kd:Int)(P V:Value)(g B0 z:Nat)(v0:Value)(ps:List (Value × List UInt8))(kv rv:Value)(sums rest:List (Value × List UInt8))(u:World):Prop where
 bt:But2 g v0 w u
 pv:∀ k,rv.ownBlock=some k→v0.ownBlock=some k∨w.heap.size≤k
 gl:g<w.heap.size
 zl:w.heap.size<z
 z1:Blk 70 u w.heap.size N4
 z2:Blk 134 u z [.int .i64 kd,P,V,kv]
 zg:Blk 44 u g [rv]
 oS:OwnOf tcell 1 25 u (z+1) kv sums
 oR:OwnOf tcell 1 25 u B0 rv (ps++(.slice none 0 0,[])::rest)
 ne:∀ k,kv.ownBlock=some k→rv.ownBlock≠some k
 tS:∀ q∈sums,TxC z kv rv u q
 tR:∀ q∈rest,TxC z kv rv u q
def CdPost (C:List UInt8)(A:List (List UInt8))(g B0:Nat)(v:Value)(ps:List (Value × List UInt8))(w:World)(e:Ending)(w':World):Prop :=
 ∃ cv v' ps',e=.returned cv∧Bytes w' cv C∧C.length≤1000000000∧(∀ k,cv.ownBlock=some k→w.heap.size≤k∧k<w'.heap.size∧v'.ownBlock≠some k)∧Blk 44 w' g [v']∧OwnOf tcell 1 25 w' B0 v' (ps++ps')∧ps'.map (·.2)=A ∧
  (∀ q∈ps',Bytes w' q.1 q.2∧q.2.length≤1000000000∧∀ k,q.1.ownBlock=some k→w.heap.size≤k∧k<w'.heap.size∧v'.ownBlock≠some k)∧(∀ k,v'.ownBlock=some k→v.ownBlock=some k∨w.heap.size≤k)∧But2 g v w w'
section
variable {w:World} {N4:List Value} {kd:Int} {P V kv kv' v0 rv rv':Value} {g B0 z:Nat} {ps sums rest sums' rest':List (Value × List UInt8)} {u u':World}
theorem CdW.kept (h:CdW w N4 kd P V g B0 z v0 ps kv rv sums rest u)(hb:Below u.heap.size u u'):CdW w N4 kd P V g B0 z v0 ps kv rv sums rest u' :=
 ⟨h.bt.kept hb,h.pv,h.gl,h.zl,h.z1.kept hb,h.z2.kept hb,h.zg.kept hb,h.oS.kept hb,h.oR.kept hb,h.ne,fun q hq=>(h.tS q hq).kept hb,fun q hq=>(h.tR q hq).kept hb⟩
theorem CdW.grewS (h:CdW w N4 kd P V g B0 z v0 ps kv rv sums rest u)(hg:u.grownBy u' kv.ownBlock)(ho:OwnOf tcell 1 25 u' (z+1) kv' (sums++sums'))(hp:∀ k,kv'.ownBlock=some k→kv.ownBlock=some k∨u.heap.size≤k)(hn:∀ q∈sums',TxC z kv rv u q) :
  CdW w N4 kd P V g B0 z v0 ps kv' rv (sums++sums') rest (u'.setCell ⟨z,3,none⟩ kv'):=by
 have hzl:=h.zl
 have hgl:=h.gl
 have y1:=h.z1.grown hg (h.oS.notT h.z1 (by decide))
 have y2:=h.z2.grown hg (h.oS.notT h.z2 (by decide))
 have yg:=h.zg.grown hg (h.oS.notT h.zg (by decide))
 have oR:=h.oR.grown hg (fun k hk e=>h.ne k hk e)
 have hb:=h.bt.grown hg (fun k hk=>.inr (.inr (by have:=OwnOf.lt h.oS k hk;omega)))
 have g2:=gsetT u' z 3 kv'
 have y3:=y2.set 3 kv'
 refine ⟨hb.grown g2 (fun k hk=>.inr (.inr (by cases hk;omega))),h.pv,h.gl,h.zl,y1.other _ (by show z≠w.heap.size;omega) _,y3,yg.other _ (by show z≠g;omega) _,ho.grown g2 (fun k hk=>by cases hk;exact ho.notT y2 (by decide)),oR.grown g2 (fun k hk=>by cases hk;exact oR.notT y2 (by decide)),fun k hk e=>(hp k hk).elim (fun h1=>h.ne k h1 e) (fun h1=>by have:=OwnOf.ltT h.oR k e;omega),fun q hq=>?_,fun q hq=>((h.tR q hq).grewS hg hp).set 3 kv'⟩
 rcases List.mem_append.1 hq with hq|hq
 ·exact ((h.tS q hq).grewS hg hp).set 3 kv'
 ·exact ((hn q hq).grewS hg hp).set 3 kv'
theorem CdW.call (h:CdW w N4 kd P V g B0 z v0 ps kv rv sums rest u)(hb:But2 g rv u u')(hz:Blk 44 u' g [rv'])(ho:OwnOf tcell 1 25 u' B0 rv' ((ps++(.slice none 0 0,[])::rest)++rest'))(hp:∀ k,rv'.ownBlock=some k→rv.ownBlock=some k∨u.heap.size≤k)
  (hn:∀ q∈rest',Bytes u' q.1 q.2∧q.2.length≤1000000000∧∀ k,q.1.ownBlock=some k→u.heap.size≤k∧k<u'.heap.size∧rv'.ownBlock≠some k):CdW w N4 kd P V g B0 z v0 ps kv rv' sums (rest++rest') u':=by
 have hzl:=h.zl
 have hgl:=h.gl
 have hz2:=h.z2.lt
 refine ⟨h.bt.trans h.pv hb,fun k hk=>(hp k hk).elim (h.pv k) (fun h1=>.inr (Nat.le_trans h.bt.size h1)),h.gl,h.zl,h.z1.but hb (by omega) (h.oR.notT h.z1 (by decide)),h.z2.but hb (by omega) (h.oR.notT h.z2 (by decide)),hz,h.oS.but hb (fun e=>by have:=OwnOf.lt h.oS _ e;omega) (h.ne),by rw [List.append_assoc] at ho;exact ho,
  fun k hk e=>(hp k e).elim (h.ne k hk) (fun h1=>by have:=OwnOf.ltT h.oS k hk;omega),fun q hq=>(h.tS q hq).but hb (by omega) hp,fun q hq=>?_⟩
 rcases List.mem_append.1 hq with hq|hq
 ·exact (h.tR q hq).but hb (by omega) hp
 ·obtain ⟨k1,k2,k3⟩:=hn q hq
  exact ⟨k1,k2,fun k hk=>⟨by have:=(k3 k hk).1;omega,(k3 k hk).2.1,fun e=>by have h1:=OwnOf.ltT h.oS k e;have h2:=(k3 k hk).1;omega,(k3 k hk).2.2⟩⟩
end
def smK (kd:Int)(ks:List Nd)(k:Nat):List (List UInt8):=if kd=1 then List.replicate k [] else smN (ks.take k)
def alK (kd:Int)(ks:List Nd)(k:Nat):List (List UInt8):=if kd=1 then [] else alL (ks.take k)
theorem cdN_K (kd:Int)(pv:Value)(p:List UInt8)(vv:Value)(v:List UInt8)(kv:Value)(ks:List Nd):cdN (.mk kd pv p vv v kv ks)=if shOk kd p v (smK kd ks ks.length)=true then shB kd p v (smK kd ks ks.length) else []:=by
 rw [cdN,smK,List.take_length]
 by_cases h:kd=1
 ·subst h
  rw [if_pos rfl,if_pos rfl,Qfx p v [] (List.replicate ks.length []),Qj8 p v [] (List.replicate ks.length [])]
 ·rw [if_neg h,if_neg h]
theorem alN_K (kd:Int)(pv:Value)(p:List UInt8)(vv:Value)(v:List UInt8)(kv:Value)(ks:List Nd):alN (.mk kd pv p vv v kv ks)=cdN (.mk kd pv p vv v kv ks)::alK kd ks ks.length:=by
 rw [alN,alK,List.take_length]
theorem smK_le (kd:Int)(ks:List Nd)(k:Nat):∀ l∈smK kd ks k,l.length≤1048576:=by
 intro l h
 unfold smK at h
 split at h
 ·rw [List.eq_of_mem_replicate h];simp
 ·exact smN_le _ l h
theorem Qfp (kd:Int)(ks:List Nd)(k:Nat)(hk:k≤ks.length):(smK kd ks k).length=k:=by
 unfold smK
 split
 ·simp
 ·rw [Q86,List.length_take];omega
def CdC (t:Nd):Prop:=∀ (W0 w:World) (g B0:Nat) (v:Value) (ps:List (Value × List UInt8)),IsNd W0 t→Below W0.heap.size W0 w→W0.heap.size≤g→W0.heap.size≤B0→B0≤w.heap.size→Blk 44 w g [v]→OwnOf tcell 1 25 w B0 v ps→ps.length+bulkN t≤20000000000→bulkN t≤10000000000 →
 Calls Tryz.prog 104 #[.agg (Q03 t).toArray,.pointer (some ⟨g,0,none⟩)] w (CdPost (cdN t) (alN t) g B0 v ps w)
theorem Qet (kd:Int)(pa va ka:Option Addr)(pn pc vn vc kn kc:Nat)(p v:List UInt8)(ks:List Nd)(hpn:p.length=pn)(hvn:v.length=vn)(hkn:ks.length=kn)(W0 w:World)(hp:Bytes W0 (.slice pa pn pc) p)(hv:Bytes W0 (.slice va vn vc) v)(hk:RowOf Q03 4 W0 (.slice ka kn kc) ks)
  (hks:∀ k∈ks,IsNd W0 k) (g B0:Nat) (v0:Value) (ps:List (Value × List UInt8)) (hW:Below W0.heap.size W0 w) (hg0:W0.heap.size≤g) (hB0:W0.heap.size≤B0) (hBw:B0≤w.heap.size) (hz:Blk 44 w g [v0]) (ho:OwnOf tcell 1 25 w B0 v0 ps) (hln:ps.length+1+bulkNL ks≤20000000000) (hBk:bulkNL ks≤10000000000) (hP:pn≤1048576) (hV:vn≤1048576) (hK:kn≤1048576)
  (ih:∀ k∈ks,CdC k) (pv vv kv:Value) :
  Calls Tryz.prog 104 #[.agg #[.int .i64 kd,.slice pa pn pc,.slice va vn vc,.slice ka kn kc],.pointer (some ⟨g,0,none⟩)] w (CdPost (cdN (.mk kd pv p vv v kv ks)) (alN (.mk kd pv p vv v kv ks)) g B0 v0 ps w):=by
 obtain ⟨w1,hw1⟩:∃ w1,w1=w.alloc (.cells #[.int .i64 kd,.slice pa pn pc,.slice va vn vc,.slice ka kn kc] 70):=⟨_,rfl⟩
 have z1:Blk 70 w1 w.heap.size [.int .i64 kd,.slice pa pn pc,.slice va vn vc,.slice ka kn kc]:=by rw [hw1];exact Blk.new w _ _
 have hbel:Below w.heap.size w w1:=by rw [hw1];exact Qba _ _
 have zg1:=hz.kept hbel
 have o1:=ho.kept hbel
 have hgl:=hz.lt
 obtain ⟨n0,hn0⟩:∃ n,n=ps.length:=⟨_,rfl⟩
 obtain ⟨a0,k0,rfl,_⟩:=ho.form' n0 hn0.symm
 have cg:=zg1.cell 0
 have Hw1:=Qhd hw1
 have Hbel:=Qhd hbel
 have Hk:=Qhd hk
 have Hks:=Qhd hks
 have IH:=Qhd ih
 have Hkn:=Qhd hkn
 have Hp:=Qhd hp
 have Hv:=Qhd hv
 have Hpn:=Qhd hpn
 have Hvn:=Qhd hvn
 have HW:=Qhd hW
 have Hln:=Qhd hln
 have Hn0:=Qhd hn0
 have Ho:=Qhd ho
 have HBk:=Qhd hBk
 clear hw1 hbel hk hks ih hkn hp hv hpn hvn hW hln hn0 ho hz hBk
 go_enter Tryz.func104,Tryz.ntmps104
 go_upto_region 3 with (first
  |(rw [←Hw1.out];have cg:w1.cell? ⟨g,0,none⟩=some (.slice a0 n0 k0):=cg)
  |((with_reducible refine Qgl 20 ?_);refine Q0s (o:=⟨some 20,_,_,_,_,_⟩) (by rfl) 44 1 [(0,.const (.slice none 0 0))] (by rfl) elText [(.slice none 0 0,[])] [.slice none 0 0] (by rfl) (by rfl) (by rfl) (by omega) (by omega) ?_;intro w2 _ r2 b2;have zg2:=zg1.kept b2;have o2:=o1.kept b2)
  |((with_reducible refine Qgl 21 ?_);refine Q0g (o:=⟨some 21,_,_,_,_,_⟩) (by rfl) (.tmp 19) (.tmp 20) 44 (by rfl) elText (by intro u hu;simp [tcell] at hu;subst hu;rfl) (by rfl) o2 (by rfl) r2 (by have:=b2.size;have:=Hbel.out.size;omega) (by have:=Hln.out;simp only [List.length_cons,List.length_nil];omega) (by have:=Hln.out;simp only [List.length_cons,List.length_nil];unfold maxLen;omega) ?_;intro v3 w3 o3 g3 p3;obtain ⟨a3,c3,rfl,_⟩:=o3.form' (n0+1) (by rw [List.length_append,Hn0.out];rfl);have yg:=zg2.grown g3 (o2.notT zg2 (by decide));obtain ⟨x3,hx3⟩:=yg.has 0 (by simp);have hf3:=yg.free 0))
 obtain ⟨w4,hw4⟩:∃ x,x=w3.setCell ⟨g,0,none⟩ (.slice a3 (n0+1) c3):=⟨_,rfl⟩
 rw [←hw4]
 have g4:=gsetT w3 g 0 (.slice a3 (n0+1) c3)
 have z3:=(z1.kept b2).grown g3 (o2.notT (z1.kept b2) (by decide))
 rw [←hw4] at g4
 have bt4:But2 g (.slice a0 n0 k0) w w4:=((((But2.refl g (.slice a0 n0 k0) w).kept Hbel.out).kept b2).grown g3 (fun k hk=>.inr (.inl hk))).grown g4 (fun k hk=>.inl (by cases hk;rfl))
 have pv4:∀ k,(Value.slice a3 (n0+1) c3).ownBlock=some k→(Value.slice a0 n0 k0).ownBlock=some k∨w.heap.size≤k:=fun k hk=>(p3 k hk).imp_right (fun h=>Nat.le_trans (Nat.le_trans Hbel.out.size b2.size) h)
 have z4:Blk 70 w4 w.heap.size [.int .i64 kd,.slice pa pn pc,.slice va vn vc,.slice ka kn kc]:=z3.grown g4 (by simp;omega)
 have zg4:Blk 44 w4 g [.slice a3 (n0+1) c3]:=by rw [hw4];exact yg.set 0 _
 have o4:=o3.grown g4 (fun k hk=>by cases hk;exact o3.notT yg (by decide))
 have zl4:w.heap.size<w4.heap.size:=z4.lt
 have d0:w4.cell? ⟨w.heap.size,0,none⟩=some (.int .i64 kd):=z4.cell 0
 have d1:w4.cell? ⟨w.heap.size,1,none⟩=some (.slice pa pn pc):=z4.cell 1
 have d2:w4.cell? ⟨w.heap.size,2,none⟩=some (.slice va vn vc):=z4.cell 2
 clear hw4 g4 z3 yg hx3 hf3 o3 p3 g3 zg2 o2 r2 b2 cg zg1 o1 z1
 go_wp2_with (first
  |((with_reducible refine Qgs 29 ?_);refine Qsa 134 6 29 w4.heap.size [.int .i64 kd,.slice pa pn pc,.slice va vn vc,.slice none 0 0] Q1k (old:=[.int .i64 0,.slice none 0 0,.slice none 0 0,.slice none 0 0]) (Blk.new w4 _ _) (by rfl) (by rfl) (by intro u hu;simp at hu;rcases hu with rfl|rfl|rfl|rfl<;>rfl) (Qba w4 _) (Nat.le_refl _) ?_;intro w5 z5 b5 _;have y5:=z4.kept b5;have d3:w5.cell? ⟨w.heap.size,3,none⟩=some (.slice ka kn kc):=y5.cell 3))
 have F:CdW w [.int .i64 kd,.slice pa pn pc,.slice va vn vc,.slice ka kn kc] kd (.slice pa pn pc) (.slice va vn vc) g B0 w4.heap.size (.slice a0 n0 k0) ps (.slice none 0 0) (.slice a3 (n0+1) c3) [] [] w5 :=
  ⟨bt4.kept b5,pv4,hgl,zl4,y5,z5,zg4.kept b5,OwnOf.nil tcell 1 _ _ _,o4.kept b5,fun k hk=>by simp [Value.ownBlock] at hk,fun q hq=>absurd hq (by simp),fun q hq=>absurd hq (by simp)⟩
 obtain ⟨z,hz⟩:∃ z,z=w4.heap.size:=⟨_,rfl⟩
 rw [←hz] at F
 rw [←hz]
 clear hz bt4 pv4 z4 zg4 o4 zl4 d0 d1 d2 d3 y5 z5 b5
 try simp only [Act.put]
 go_loopw [33] (fun ix wr=>∃ (k:Nat) (sv rv:Value) (sums rest:List (Value × List UInt8)),k≤kn∧ix=.int .i64 (k:Int)∧CdW w [.int .i64 kd,.slice pa pn pc,.slice va vn vc,.slice ka kn kc] kd (.slice pa pn pc) (.slice va vn vc) g B0 z (.slice a0 n0 k0) ps sv rv sums rest wr∧Hid (sums.map (·.2)=smK kd ks k)∧Hid (rest.map (·.2)=alK kd ks k)) (fun ix _=>kn - (intOf ix).toNat)
 case atStart=>exact ⟨0,_,_,_,_,Nat.zero_le _,rfl,F,Qhd (by unfold smK;rw [List.take_zero,smN];simp),Qhd (by unfold alK;rw [List.take_zero,alL];simp)⟩
 case round =>
  clear F
  obtain ⟨k,sv,rv,sums,rest,hk,rfl,F,HS,HR⟩:=hrel
  have hWr:Below W0.heap.size W0 wr:=HW.out.trans (F.bt.below HW.out.size hg0 (fun j hj=>Nat.le_trans hB0 (OwnOf.lt Ho.out j hj)))
  have HWr:=Qhd hWr
  clear hWr
  by_cases hlt:k<kn
  ·have hki:(k:Int)<(kn:Int):=by omega
   have hlk:k<ks.length:=by rw [Hkn.out];exact hlt
   obtain ⟨b,off,rfl,hr⟩:=RowOf.range Q06 (Hk.out.below HWr.out) k hlk
   obtain ⟨x,hx⟩:∃ x,ks[k]=x:=⟨_,rfl⟩
   have hxm:x∈ks:=by rw [←hx];exact List.getElem_mem hlk
   have HT:Hid (ks.take (k+1)=ks.take k++[x]):=Qhd (by rw [List.take_add_one,List.getElem?_eq_getElem hlk,hx];rfl)
   rw [hx] at hr
   have ihx:=Qhd (IH.out x hxm)
   have hXn:=Qhd (Hks.out x hxm)
   obtain ⟨xk,xp,xpb,xv,xvb,xkv,xks⟩:=x
   change wr.rangeAt b (off+k*4) [.int .i64 xk,xp,xv,xkv] at hr
   obtain ⟨i1,i2,i3,_⟩:=hXn.out.inv
   obtain ⟨xpa,xpc,rfl,_⟩:=i1.form
   obtain ⟨xva,xvc,rfl,_⟩:=i2.form
   obtain ⟨xka,xkc,rfl,_⟩:=i3.form
   have HSl:sums.length=k:=by
    have:=congrArg List.length HS.out
    rw [List.length_map,Qfp kd ks k (by omega)] at this;exact this
   have hHSl:=Qhd HSl
   clear hx hxm hlk i1 i2 i3 HSl
   by_cases hx0:kd=1∨xk=0
   ·have n2:(kd==1)=true∨((kd==1)=false∧(xk==0)=true):=by
     by_cases h:kd=1
     ·left;rw [h];rfl
     ·right;exact ⟨by rw [beq_eq_false_iff_ne];exact h,by rw [beq_iff_eq];exact hx0.resolve_left h⟩
    have HSM:Hid (smK kd ks (k+1)=smK kd ks k++[[]]):=Qhd (by
     unfold smK
     by_cases h:kd=1
     ·rw [if_pos h,if_pos h,List.replicate_succ']
     ·rw [if_neg h,if_neg h,HT.out,Q46,if_pos (by exact hx0.resolve_left h)])
    have HAL:Hid (alK kd ks (k+1)=alK kd ks k):=Qhd (by
     unfold alK
     by_cases h:kd=1
     ·rw [if_pos h,if_pos h]
     ·rw [if_neg h,if_neg h,HT.out,Q4m,if_pos (by exact hx0.resolve_left h),List.append_nil])
    clear hx0 ihx
    rcases n2 with n2|⟨n2,n3⟩
    all_goals
     go_wp2_with (first
      |((with_reducible refine Qgl 36 ?_);refine Qlw 70 35 b (off+k*4) Q05 (by rfl) hr ?_)
      |((with_reducible refine Qgs 36 ?_);refine Qsa 70 8 36 wr.heap.size [.int .i64 xk,.slice xpa xpb.length xpc,.slice xva xvb.length xvc,.slice xka xks.length xkc] Q05 (old:=[.int .i64 0,.slice none 0 0,.slice none 0 0,.slice none 0 0]) (Blk.new wr _ _) (by rfl) (by rfl) (by intro u hu;simp at hu;rcases hu with rfl|rfl|rfl|rfl<;>rfl) (Qba wr _) (Nat.le_refl _) ?_;intro w6 y6 b6 _;have F:=F.kept b6;have q0:w6.cell? ⟨wr.heap.size,0,none⟩=some (.int .i64 xk):=y6.cell 0;have q1:w6.cell? ⟨w.heap.size,0,none⟩=some (.int .i64 kd):=F.z1.cell 0;have d3:w6.cell? ⟨z,3,none⟩=some sv:=F.z2.cell 3)
      |((with_reducible refine Qgl 47 ?_);refine Q0s (o:=⟨some 47,_,_,_,_,_⟩) (by rfl) 44 1 [(0,.const (.slice none 0 0))] (by rfl) elText [(.slice none 0 0,[])] [.slice none 0 0] (by rfl) (by rfl) (by rfl) (by omega) (by omega) ?_;intro w7 _ r7 b7;have F:=F.kept b7)
      |((with_reducible refine Qgl 48 ?_);refine Q0g (o:=⟨some 48,_,_,_,_,_⟩) (by rfl) (.tmp 46) (.tmp 47) 44 (by rfl) elText (by intro u hu;simp [tcell] at hu;subst hu;rfl) (by rfl) F.oS (by rfl) r7 (by have:=F.z2.lt;omega) (by rw [hHSl.out];simp only [List.length_cons,List.length_nil];omega) (by rw [hHSl.out];simp only [List.length_cons,List.length_nil];unfold maxLen;omega) ?_;intro v8 w8 o8 g8 p8;obtain ⟨a8,c8,rfl,_⟩:=o8.form' (k+1) (by rw [List.length_append,hHSl.out];rfl);have y2:=F.z2.grown g8 (F.oS.notT F.z2 (by decide));obtain ⟨x3,hx3⟩:=y2.has 3 (by simp);have hf3:=y2.free 3;have F:=F.grewS g8 o8 p8 (fun q hq=>by rw [List.mem_singleton] at hq;subst hq;exact ⟨RowOf.nil b8 1 _,Nat.zero_le _,fun k hk=>by simp [Value.ownBlock] at hk⟩)))
     go_roundw
     case rel=>exact ⟨k+1,_,_,_,rest,by omega,by go_num,F,Qhd (by rw [List.map_append,HS.out,HSM.out];rfl),Qhd (by rw [HR.out,HAL.out])⟩
     case measure=>simp [intOf];omega
   ·have hk1:¬ kd=1:=fun e=>hx0 (.inl e)
    have hx1:¬ xk=0:=fun e=>hx0 (.inr e)
    have n1:(kd==1)=false:=by rw [beq_eq_false_iff_ne];exact hk1
    have n3:(xk==0)=false:=by rw [beq_eq_false_iff_ne];exact hx1
    obtain ⟨X,hX⟩:∃ X,X=Nd.mk xk (.slice xpa xpb.length xpc) xpb (.slice xva xvb.length xvc) xvb (.slice xka xks.length xkc) xks:=⟨_,rfl⟩
    have hsm:smK kd ks (k+1)=smK kd ks k++[sumB (cdN X)]:=by
     unfold smK;rw [if_neg hk1,if_neg hk1,HT.out,Q46,←hX,if_neg (by rw [hX];exact hx1)]
    have hal:alK kd ks (k+1)=alK kd ks k++alN X:=by
     unfold alK;rw [if_neg hk1,if_neg hk1,HT.out,Q4m,←hX,if_neg (by rw [hX];exact hx1)]
    have hlen1:ps.length+1+rest.length+bulkN X≤20000000000∧bulkN X≤10000000000:=by
     have h1:=Q6y (ks.take k)
     have h2:=Q7s ks (k+1)
     have h3:=congrArg List.length HR.out
     have h4:=Hln.out
     have h5:=HBk.out
     have h6:=Q50 (ks.take k) [Nd.mk xk (.slice xpa xpb.length xpc) xpb (.slice xva xvb.length xvc) xvb (.slice xka xks.length xkc) xks]
     rw [←HT.out,←hX,show bulkNL [X]=bulkN X from by rw [bulkNL,bulkNL];omega] at h6
     rw [List.length_map] at h3
     unfold alK at h3
     rw [if_neg hk1] at h3
     omega
    have cc:∀ (u:World) (rv':Value) (ps':List (Value × List UInt8)),Below W0.heap.size W0 u→B0≤u.heap.size→Blk 44 u g [rv']→OwnOf tcell 1 25 u B0 rv' ps'→ps'.length+bulkN X≤20000000000→Calls Tryz.prog 104 #[.agg #[.int .i64 xk,.slice xpa xpb.length xpc,.slice xva xvb.length xvc,.slice xka xks.length xkc],.pointer (some ⟨g,0,none⟩)] u (CdPost (cdN X) (alN X) g B0 rv' ps' u):=by
     intro u rv' ps' h1 h2 h3 h4 h5
     have:=ihx.out W0 u g B0 rv' ps' hXn.out h1 hg0 hB0 h2 h3 h4 (by rw [←hX];exact h5) (by rw [←hX];exact hlen1.2)
     rw [←hX] at this
     rw [hX] at this ⊢
     exact this
    obtain ⟨SH,hSH⟩:∃ SH,SH=(sumB (cdN X)).map u8v:=⟨_,rfl⟩
    have cs:=fun (a:Option Addr) (n c:Nat) (hn:(cdN X).length=n) (x:World) (hb:Bytes x (.slice a n c) (cdN X))=>Q3w a n c (cdN X) hn x hb
    simp only [←hSH] at cs
    have Cs:=Qhd cs
    have Cc:=Qhd cc
    have HSM:=Qhd hsm
    have HAL:=Qhd hal
    have HLen:=Qhd hlen1.1
    have HSHl:Hid (SH.length=32):=Qhd (by rw [hSH,List.length_map];exact Q0i _)
    have HSHo:Hid (∀ u∈SH,u.oneCell'=true):=Qhd (by rw [hSH];intro u hu;obtain ⟨y,_,rfl⟩:=List.mem_map.1 hu;rfl)
    have HSH:=Qhd hSH
    clear ihx hXn hX hk1 hx1 hsm hal hlen1 cs cc hSH hx0 hlt hk
    go_wp2_with (first
     |((with_reducible refine Qgl 36 ?_);refine Qlw 70 35 b (off+k*4) Q05 (by rfl) hr ?_)
     |((with_reducible refine Qgs 36 ?_);refine Qsa 70 8 36 wr.heap.size [.int .i64 xk,.slice xpa xpb.length xpc,.slice xva xvb.length xvc,.slice xka xks.length xkc] Q05 (old:=[.int .i64 0,.slice none 0 0,.slice none 0 0,.slice none 0 0]) (Blk.new wr _ _) (by rfl) (by rfl) (by intro u hu;simp at hu;rcases hu with rfl|rfl|rfl|rfl<;>rfl) (Qba wr _) (Nat.le_refl _) ?_;intro w6 y6 b6 _;have F:=F.kept b6;have q0:w6.cell? ⟨wr.heap.size,0,none⟩=some (.int .i64 xk):=y6.cell 0;have q1:w6.cell? ⟨w.heap.size,0,none⟩=some (.int .i64 kd):=F.z1.cell 0)
     |((with_reducible refine Qgl 50 ?_);refine Qla 70 8 wr.heap.size Q05 y6 (by rfl) ?_)
     |(go_at_call 104;refine (Cc.out w6 rv _ (HWr.out.trans (b6.mono HWr.out.size)) (Nat.le_trans hBw F.bt.size) F.zg F.oR (by rw [List.length_append,List.length_cons];have:=HLen.out;omega)).mono ?_;rintro e w7 ⟨cv,rv7,PS,rfl,hc,lc,fc,zg7,o7,m7,t7,p7,bt7⟩;have F:=F.call bt7 zg7 o7 p7 t7;obtain ⟨ca,cc,rfl,_⟩:=hc.form;obtain ⟨qn,hqn⟩:∃ n,n=(cdN X).length:=⟨_,rfl⟩;rw [←hqn] at hc;rw [←hqn];have Hqn:=Qhd hqn;have M7:=Qhd m7;clear hqn m7)
     |(go_at_call 37;refine (Cs.out ca qn cc Hqn.out.symm _ hc).mono ?_;rintro e w8 ⟨rfl,b8⟩;have F:=F.kept b8;have hn9:=Blk.new w8 30 zh;have ls8:=OwnOf.ltT F.oS;have lr8:=OwnOf.ltT F.oR;have lz8:=F.z2.lt)
     |((with_reducible refine Qgs 53 ?_);refine Qsa 30 9 53 w8.heap.size SH Q0l hn9 HSHl.out (by rfl) HSHo.out (Qba w8 _) (Nat.le_refl _) ?_;intro w9 y9 b9 _;have F:=F.kept b9))
    have k3:=fun u:Ext w9=>u.cell ((F.z2.cell 3).trans (show _=some sv from rfl))
    refine Q02 w9 4 (by kernel_rfl) (by kernel_rfl) (Below.refl _ _) ?_;simp only [List.take_succ_cons,List.take_zero,List.take_nil]
    iterate 3 (refine Q01 (by rfl) (fun K hK=>?_);go_simp;refine hK _ ?_;clear hK K)
    refine Q07 57 (OneX (.slice (some ⟨w8.heap.size,0,none⟩) 32 32) (sumB (cdN X))) rfl (of_decide_eq_true rfl) (OneX.mono _ _) (fun wx hwx=>?_) ?_
    ·change Q00 wx [] _ _
     simp only [Q00]
     refine ⟨rfl,?_⟩
     go_simp
     exact ⟨Qba _ _,wx.heap.size,rfl,Row.built (f:=tcell) (size:=1) (fun _=>rfl) wx 25 [(.slice (some ⟨w8.heap.size,0,none⟩) 32 32,sumB (cdN X))] 1 rfl (by unfold maxLen;omega)⟩
    refine Q09 ?_
    intro u2 hb2 v57 h57
    change wpList _ _ _ [_,_,_] _ _
    obtain ⟨g57,rfl,hr57⟩:=h57
    have F:=F.kept hb2
    have hB:Bytes u2 (.slice (some ⟨w8.heap.size,0,none⟩) 32 32) (sumB (cdN X)):=Q1u (by have:=y9.kept hb2;rwa [HSH.out] at this) (Q0i _)
    have N:TxC z sv rv7 u2 (.slice (some ⟨w8.heap.size,0,none⟩) 32 32,sumB (cdN X)):=⟨hB,by rw [show (sumB (cdN X)).length=32 from Q0i _];omega,fun j hj=>by
     simp only [Value.ownBlock,Option.some.injEq] at hj
     subst hj
     exact ⟨lz8,by have h1:=y9.lt;have h2:=hb2.size;omega,fun e=>by have:=ls8 _ e;omega,fun e=>by have:=lr8 _ e;omega⟩⟩
    clear k3 hB
    go_wp2_with (first
     |((with_reducible refine Qgl 58 ?_);refine Q0g (o:=⟨some 58,_,_,_,_,_⟩) (by rfl) (.tmp 55) (.tmp 57) 44 (by rfl) elText (Q0y (ps:=[(Value.slice (some ⟨w8.heap.size,0,none⟩) 32 32,sumB (cdN X))]) (fun q hq=>by rw [List.mem_singleton] at hq;rw [hq];exact N.h)) (by rfl) F.oS (by rfl) hr57 (by have:=F.z2.lt;omega) (by rw [hHSl.out];simp only [List.length_cons,List.length_nil];omega) (by rw [hHSl.out];simp only [List.length_cons,List.length_nil];unfold maxLen;omega) ?_;intro v10 w10 o10 g10 p10;obtain ⟨a10,c10,rfl,_⟩:=o10.form' (k+1) (by rw [List.length_append,hHSl.out];rfl);have y2:=F.z2.grown g10 (F.oS.notT F.z2 (by decide));obtain ⟨x3,hx3⟩:=y2.has 3 (by simp);have hf3:=y2.free 3;have F:=F.grewS g10 o10 p10 (fun q hq=>by rw [List.mem_singleton] at hq;rw [hq];exact N)))
    go_roundw
    case rel=>exact ⟨k+1,_,_,_,_,by omega,by go_num,F,Qhd (by rw [List.map_append,HS.out,HSM.out];rfl),Qhd (by rw [List.map_append,HR.out,HAL.out,M7.out])⟩
    case measure=>simp [intOf];omega
  ·obtain rfl:k=kn:=by omega
   have HSe:=HS.out
   have HRe:=HR.out
   have hSl:sums.length=k:=by
    have:=congrArg List.length HSe
    rw [List.length_map,Qfp kd ks k (by rw [Hkn.out];exact Nat.le_refl _)] at this;exact this
   have hcd:=cdN_K kd pv p vv v kv ks
   have hal:=alN_K kd pv p vv v kv ks
   rw [Hkn.out] at hcd hal
   obtain ⟨sa,sc,rfl,_⟩:=F.oS.form' k hSl
   obtain ⟨CB,hCB⟩:∃ B,B=if shOk kd p v (smK kd ks k)=true then shB kd p v (smK kd ks k) else []:=⟨_,rfl⟩
   have hcd':cdN (.mk kd pv p vv v kv ks)=CB:=by rw [hcd,hCB]
   have HalE:Hid (alN (.mk kd pv p vv v kv ks)=CB::alK kd ks k):=Qhd (by rw [hal,hcd'])
   have HcdE:=Qhd hcd'
   obtain ⟨er',her⟩:∃ x:Int,x=if shOk kd p v (smK kd ks k)=true then 0 else 1:=⟨_,rfl⟩
   have Ci:Hid (∀ x,Below wr.heap.size wr x→Calls Tryz.prog 130 #[.agg #[.int .i64 kd,.slice pa pn pc,.slice va vn vc,.slice sa k sc]] x fun e w'=>∃ cv,e=.returned (.tuple #[cv,.int .i64 er'])∧Bytes w' cv CB∧(∀ j,cv.ownBlock=some j→x.heap.size≤j∧j<w'.heap.size)∧Below x.heap.size x w'∧CB.length≤1000000000):=Qhd fun x hb=>by
    have:=Qkh kd pa va sa pn pc vn vc k sc p v sums Hpn.out Hvn.out hSl x ((Hp.out.below HWr.out).below hb) ((Hv.out.below HWr.out).below hb) ⟨F.oS.row.below hb,fun q hq=>(F.tS q hq).h.below hb⟩ (by omega) hV hK (fun q hq=>smK_le kd ks k _ (by rw [←HSe];exact List.mem_map.2 ⟨q,hq,rfl⟩))
    rw [HSe] at this
    rw [hCB,her];exact this
   obtain ⟨rn,hrn⟩:∃ n,n=(ps++(Value.slice none 0 0,[])::rest).length:=⟨_,rfl⟩
   have hnr:n0<rn:=by rw [hrn,Hn0.out,List.length_append,List.length_cons];omega
   have hnr':(n0:Int)<(rn:Int):=by omega
   obtain ⟨ra,rc,rfl,_⟩:=F.oR.form' rn hrn.symm
   obtain ⟨gR,rfl,hgR,hgl2⟩:=F.oR.lies (by omega)
   have HRe':=Qhd HRe
   have hsz:=F.bt.size
   clear HS HR hcd hal her hCB hSl HSe HRe hrn hcd'
   go_wp2_with (first
    |((with_reducible refine Qgl 62 ?_);refine Qla 134 6 z Q1k F.z2 (by rfl) ?_)
    |(go_at_call 130;refine (Ci.out _ (Below.refl _ _)).mono ?_;rintro e w4' ⟨cv,rfl,hc,fc,b4',lc⟩;have F:=F.kept b4';have cg:w4'.cell? ⟨g,0,none⟩=some (.slice (some ⟨gR,0,none⟩) rn rc):=F.zg.cell 0;obtain ⟨⟨xR,hxR⟩,hfR⟩:=F.oR.has Q66 n0 hnr;obtain ⟨ca,cc,rfl,_⟩:=hc.form))
   go_ret
   have gS:=gsetT w4' gR n0 (.slice ca CB.length cc)
   have hset:(ps++(Value.slice none 0 0,[])::rest).set n0 (Value.slice ca CB.length cc,CB)=ps++(Value.slice ca CB.length cc,CB)::rest:=by
    rw [Hn0.out,List.set_append_right _ _ (Nat.le_refl _),Nat.sub_self];rfl
   have oP:=F.oR.put Q66 n0 (Value.slice ca CB.length cc,CB)
   rw [hset] at oP
   have hgz:gR≠g:=fun e=>F.oR.notT F.zg (by decide) (by rw [e];rfl)
   have hbc:Bytes (w4'.setCell ⟨gR,n0,none⟩ (.slice ca CB.length cc)) (.slice ca CB.length cc) CB:=RowOf.grownT hc gS (fun j hj=>(fc j hj).2) (fun j hj e=>by have:=(fc j hj).1;simp only [Option.some.injEq] at e;omega)
   have hfr:∀ j,(Value.slice ca CB.length cc).ownBlock=some j→w.heap.size≤j∧j<(w4'.setCell ⟨gR,n0,none⟩ (.slice ca CB.length cc)).heap.size∧(Value.slice (some ⟨gR,0,none⟩) rn rc).ownBlock≠some j:=fun j hj=>⟨Nat.le_trans hsz (fc j hj).1,by rw [World.size_setCell];exact (fc j hj).2,fun e=>by simp only [Value.ownBlock,Option.some.injEq] at e;have:=(fc j hj).1;omega⟩
   rw [HcdE.out,HalE.out]
   refine ⟨_,_,(Value.slice ca CB.length cc,CB)::rest,rfl,hbc,lc,hfr,F.zg.other _ (by show gR≠g;exact hgz) _,oP,by rw [List.map_cons,HRe'.out],fun q hq=>?_,F.pv,F.bt.grown gS (fun j hj=>by cases hj;exact .inr (F.pv gR rfl))⟩
   rcases List.mem_cons.1 hq with rfl|hq
   ·exact ⟨hbc,lc,hfr⟩
   ·have t:=F.tR q hq
    have hzl:=F.zl
    exact ⟨RowOf.grownT t.h gS (fun j hj=>(t.b j hj).2.1) (fun j hj=>(t.b j hj).2.2.2),t.l,fun j hj=>⟨by have:=(t.b j hj).1;omega,by rw [World.size_setCell];exact (t.b j hj).2.1,(t.b j hj).2.2.2⟩⟩
theorem Q6q:∀ (n:Nat)(t:Nd),SizeOf.sizeOf t≤n→FnN t→CdC t
 | 0,.mk kd pv p vv v kv ks,h,_=>by simp at h
 | n+1,.mk kd pv p vv v kv ks,h,hF=>by
  obtain ⟨fp,fv,fk,fks⟩:=hF.inv
  intro W0 w g B0 v0 ps hI hW hg hB0 hBw hz ho hln hbk
  obtain ⟨hp,hv,hk,hall⟩:=hI.inv
  simp only [bulkN] at hbk hln
  obtain ⟨pa,pc,rfl,_,_⟩:=hp.form
  obtain ⟨va,vc,rfl,_,_⟩:=hv.form
  obtain ⟨ka,kc,rfl,_,_⟩:=hk.form
  exact Qet kd pa va ka p.length pc v.length vc ks.length kc p v ks rfl rfl rfl W0 w hp hv hk hall g B0 v0 ps hW hg hB0 hBw hz ho (by omega) (by omega) (by omega) (by omega) (by omega) (fun k hk=>Q6q n k (by
   have:=List.sizeOf_lt_of_mem hk
   simp only [Nd.mk.sizeOf_spec] at h
   omega) (fks k hk)) _ _ _
end Go.Proofs.YtbdmkfjgnjfjbaaGreat
