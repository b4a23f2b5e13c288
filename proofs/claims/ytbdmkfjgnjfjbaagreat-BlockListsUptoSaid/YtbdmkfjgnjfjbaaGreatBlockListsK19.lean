/- The reference's treeCodes: roads and forks (not finished). | The reference's treeCodes of any node that counts. | root.codes: what lies there while the kids are -/
import Derived.Test.YtbdmkfjgnjfjbaaGreatBlockListsK18
import Derived.Deep.Cut
set_option linter.unusedSimpArgs false
set_option linter.unusedVariables false
set_option maxHeartbeats 4000000
set_option maxRecDepth 100000
open List (length_append length_cons length_map length_nil map_append map_cons mem_append mem_cons mem_map mem_singleton take_nil take_zero)
open Nat (le_refl le_trans lt_of_lt_of_le zero_le)
namespace Go.Proofs.YtbdmkfjgnjfjbaaGreat
open Go.RowKit
theorem Ql3:∀ (ks:List Nd),∀ l∈smN ks,l.length<=1048576
 | [],l,h=>by rw [smN] at h;simp at h
 | k::ks,l,h=>by
  rw [smN] at h;rcases mem_cons.1 h with rfl|h
  ·split
   ·simp
   rw [show (sumB (cdN k)).length=32 from by unfold sumB;rw [Q1r]];omega
  exact Ql3 ks l h
mutual
theorem Qob:∀ (t:Nd),(alN t).length<=Q15 t
 | .mk kd pv p vv v kv ks=>by
  rw [alN,Q15,length_cons];have:=Qa3 ks;split
  ·simp;omega
  omega
theorem Qa3:∀ (ks:List Nd),(alL ks).length<=Q0v ks
 | []=>by rw [alL,Q0v];simp
 | k::ks=>by
  rw [alL,Q0v,length_append];have h:=Qob k;have y:=Qa3 ks;split
  ·simp;omega
  omega
end
theorem Q7g:∀ (a b:List Nd),Q0v (a++b)=Q0v a+Q0v b
 | [],b=>by rw [List.nil_append,Q0v];omega
 | x::a,b=>by rw [List.cons_append,Q0v,Q0v,Q7g a b];omega
theorem Qbc (ks:List Nd)(k:Nat):Q0v (ks.take k)<=Q0v ks:=by
 have:=Q7g (ks.take k) (ks.drop k);rw [List.take_append_drop] at this;omega
theorem Q6a {ps:List (Value × List UInt8)}{c:List UInt8}{l:List (List UInt8)}(h:ps.map (·.2)=c::l):∃ v ps',ps=(v,c)::ps'/\ps'.map (·.2)=l:=by
 cases ps with
 | nil=>simp at h
 | cons q ps =>
  simp only [map_cons,List.cons.injEq] at h;exact ⟨q.1,ps,by rw [<-h.1],h.2⟩
def OneX (v:Value)(t:List UInt8):Ty:=fun u w=>∃ g,u=.slice (some ⟨g,0,none⟩) 1 1/\Q05 Q0p 1 w u [(v,t)]
theorem OneX.mono (v:Value)(t:List UInt8):Mono (OneX v t):=fun _ _ _ ⟨g,h1,h2⟩ hb=>⟨g,h1,Q05.kept h2 hb⟩
theorem Q96:One Q0p (fun q=>q.1):=fun _=>rfl
theorem Q7e {w:World}{g:Nat}{l:List UInt8}(h:Blk 30 w g (l.map u8v))(y:l.length=32):Q02 w (.slice (some ⟨g,0,none⟩) 32 32) l :=
 Blk.row h l 32 32 (fun _=>rfl) y (fun j u z=>by rw [<-z,Qtq.map]) (le_refl _) (by unfold maxLen;omega)
theorem Qoy (kd:Int)(bd:kd=2∨kd=3)(M S ka:Option Addr)(I O J U E kc:Nat)(p v:List UInt8)(ks:List Nd)(bN:p.length=I)(bR:v.length=J)(bJ:ks.length=E)(w:World)(hp:Q02 w (.slice M I O) p)(hv:Q02 w (.slice S J U) v)(D:Q05 Q04 4 w (.slice ka E kc) ks)(hP:I<=1048576)(hV:J<=1048576)(hK:E<=1048576)
  (hks:∀ k∈ks,IsNd w k) (hBk:Q0v ks<=10000000000) (ih:∀ k∈ks,k.kd≠0->∀ u,Below w.heap.size w u->Calls Tryz.prog 109 #[.agg (Q04 k).toArray] u (Q71 (alN k) u)) (pv vv kv:Value) :
  Calls Tryz.prog 109 #[.agg #[.int .i64 kd,.slice M I O,.slice S J U,.slice ka E kc]] w (Q71 (alN (.mk kd pv p vv v kv ks)) w):=by
 obtain ⟨w2,aq⟩:=Qe ((w.alloc (.cells #[.int .i64 kd,.slice M I O,.slice S J U,.slice ka E kc] 70)).alloc (.cells #[.int .i64 0,.slice none 0 0,.slice none 0 0,.slice none 0 0] 134));have z1:Blk 70 w2 w.heap.size [.int .i64 kd,.slice M I O,.slice S J U,.slice ka E kc]:=by rw [aq];exact (D01 w _ _).alloc _
 have z2:Blk 134 w2 (w.heap.size+1) [.int .i64 0,.slice none 0 0,.slice none 0 0,.slice none 0 0]:=by
  have:=D01 (w.alloc (.cells #[.int .i64 kd,.slice M I O,.slice S J U,.slice ka E kc] 70)) 134 [.int .i64 0,.slice none 0 0,.slice none 0 0,.slice none 0 0];simp only [World.size_alloc] at this;rw [aq];exact this
 have bE:Below w.heap.size w w2:=by rw [aq];exact (Qba _ _).alloc (by simp) _
 have c0:=z1.cell 0;have c1:=z1.cell 1;have c2:=z1.cell 2;have c3:=z1.cell 3;have cH:=Qhd aq;have cz:=Qhd bE;have Hk:=Qhd D;have cB:=Qhd hks;have IH:=Qhd ih;have az:=Qhd bJ;have Hp:=Qhd hp;have Hv:=Qhd hv;have cD:=Qhd bN;have cG:=Qhd bR;have br:=Qhd hBk;have n1:(kd==1)=false:=by rcases bd with rfl|rfl<;>rfl
 have n2:(kd==2)=true∨((kd==2)=false/\(kd==3)=true):=by rcases bd with rfl|rfl<;>simp
 clear aq bE D hks ih bJ hp hv bN bR bd hBk;rcases n2 with n2|⟨n2,n3⟩
 all_goals
  go_enter Tryz.func109,Tryz.ntmps109
  go_wp2_with (first
   |(rw [<-cH.out];have c0:w2.cell? ⟨w.heap.size,0,none⟩=some (.int .i64 kd):=c0;have c1:w2.cell? ⟨w.heap.size,1,none⟩=some (.slice M I O):=c1;have c2:w2.cell? ⟨w.heap.size,2,none⟩=some (.slice S J U):=c2;have c3:w2.cell? ⟨w.heap.size,3,none⟩=some (.slice ka E kc):=c3)
   |((with_reducible refine Qgs 31 ?_);refine Qsa 134 3 31 (w.heap.size+1) [.int .i64 kd,.slice M I O,.slice S J U,.slice none 0 0] Q0a z2 (by rfl) (by rfl) (by intro u G;simp at G;rcases G with rfl|rfl|rfl|rfl<;>rfl) cz.out (by omega) ?_;intro w3 y3 bF g3;have x1:=z1.grown g3 (by simp);have d3:w3.cell? ⟨w.heap.size,3,none⟩=some (.slice ka E kc):=x1.cell 3))
  have F:TcW w [.int .i64 kd,.slice M I O,.slice S J U,.slice ka E kc] kd (.slice M I O) (.slice S J U) (.slice none 0 0) (.slice none 0 0) [] [] w3:=⟨bF,x1,y3,Q08.nil Q0p 1 _ _ _,Q08.nil Q0p 1 _ _ _,fun k D=>by simp [Value.ownBlock] at D,fun q z=>absurd z (by simp),fun q z=>absurd z (by simp)⟩;clear x1 y3 d3 z1 z2 c0 c1 c2 c3 bF g3
  try simp only [Act.put]
  go_loopw [4,35] (fun rv ix wr=>∃ (k:Nat) (sv:Value) (ae aa:List (Value × List UInt8)),k<=E/\ix=.int .i64 (k:Int)/\TcW w [.int .i64 kd,.slice M I O,.slice S J U,.slice ka E kc] kd (.slice M I O) (.slice S J U) sv rv ae aa wr/\Hid (ae.map (·.2)=smN (ks.take k))/\Hid (aa.map (·.2)=alL (ks.take k))) (fun _ ix _=>E - (intOf ix).toNat)
  case atStart=>exact ⟨0,_,_,_,zero_le _,rfl,F,Qhd (by rw [take_zero,smN];rfl),Qhd (by rw [take_zero,alL];rfl)⟩
  case round =>
   clear F;obtain ⟨k,sv,ae,aa,D,rfl,F,HS,HR⟩:=hrel;by_cases hlt:k<E
   ·have dn:(k:Int)<(E:Int):=by omega
    have aK:k<ks.length:=by rw [az.out];exact hlt
    obtain ⟨b,off,rfl,hr⟩:=Q05.range Q0b (Hk.out.below F.hb) k aK;obtain ⟨x,hx⟩:∃ x,ks[k]=x:=⟨_,rfl⟩;have bg:x∈ks:=by rw [<-hx];exact List.getElem_mem aK
    have HT:Hid (ks.take (k+1)=ks.take k++[x]):=Qhd (by rw [List.take_add_one,List.getElem?_eq_getElem aK,hx];rfl);rw [hx] at hr;have bV:=Qhd (IH.out x bg);obtain ⟨xk,xp,au,xv,av,d',ar⟩:=x;change wr.rangeAt b (off+k*4) [.int .i64 xk,xp,xv,d'] at hr;obtain ⟨i1,i2,i3,_⟩:=(cB.out _ bg).inv;obtain ⟨aR,aS,rfl,_⟩:=i1.form;obtain ⟨aT,aU,rfl,_⟩:=i2.form;obtain ⟨aP,aQ,rfl,_⟩:=i3.form;have bu:ae.length=k:=by
     have:=congrArg List.length HS.out;rw [length_map,Qbo,List.length_take,az.out] at this;omega
    have ac:=Qhd bu;clear hx bg aK i1 i2 i3 bu;by_cases hx0:xk=0
    ·subst hx0
     go_wp2_with (first
      |((with_reducible refine Qgl 38 ?_);refine Qlw 70 37 b (off+k*4) Q07 (by rfl) hr ?_)
      |((with_reducible refine Qgs 38 ?_);refine Qsa 70 6 38 wr.heap.size [.int .i64 0,.slice aR au.length aS,.slice aT av.length aU,.slice aP ar.length aQ] Q07 (old:=[.int .i64 0,.slice none 0 0,.slice none 0 0,.slice none 0 0]) (D01 wr _ _) (by rfl) (by rfl) (by intro u G;simp at G;rcases G with rfl|rfl|rfl|rfl<;>rfl) (Qba wr _) (le_refl _) ?_;intro w4 y6 b4 _;have F:=F.kept b4;have q0:w4.cell? ⟨wr.heap.size,0,none⟩=some (.int .i64 0):=y6.cell 0;have d3:w4.cell? ⟨w.heap.size+1,3,none⟩=some sv:=F.z2.cell 3)
      |((with_reducible refine Qgl 44 ?_);refine Q0o (o:=⟨some 44,_,_,_,_,_⟩) (by rfl) 44 1 [(0,.const (.slice none 0 0))] (by rfl) Q1i [(.slice none 0 0,[])] [.slice none 0 0] (by rfl) (by rfl) (by rfl) (by omega) (by omega) ?_;intro w5 _ r5 Z;have F:=F.kept Z)
      |((with_reducible refine Qgl 45 ?_);refine Q0t (o:=⟨some 45,_,_,_,_,_⟩) (by rfl) (.tmp 43) (.tmp 44) 44 (by rfl) Q1i (by intro u G;simp [Q0p] at G;subst G;rfl) (by rfl) F.oS (by rfl) r5 (by have:=F.z2.lt;omega) (by rw [ac.out];simp only [length_cons,length_nil];omega) (by rw [ac.out];simp only [length_cons,length_nil];unfold maxLen;omega) ?_;intro v6 V o6 g6 p6;obtain ⟨a6,c6,rfl,_⟩:=o6.form' (k+1) (by rw [length_append,ac.out];rfl);have y2:=F.z2.grown g6 (F.oS.notT F.z2 (by decide));obtain ⟨x3,cT⟩:=y2.has 3 (by simp);have cP:=y2.free 3;have F:=F.grewS g6 o6 p6 (fun q z=>by rw [mem_singleton] at z;subst z;exact ⟨Q05.nil b8 1 _,zero_le _,fun k D=>by simp [Value.ownBlock] at D⟩)))
     go_roundw
     case rel=>exact ⟨k+1,_,_,aa,by omega,by go_num,F,Qhd (by rw [map_append,HS.out,HT.out,Q6g];rfl),Qhd (by rw [HR.out,HT.out,Q70];simp [Nd.kd])⟩
     case measure=>simp [intOf];omega
    have dr:(xk==0)=false:=by rw [beq_eq_false_iff_ne];exact hx0
    obtain ⟨X,hX⟩:=Qe (Nd.mk xk (.slice aR au.length aS) au (.slice aT av.length aU) av (.slice aP ar.length aQ) ar);have ba:X.kd=xk:=by rw [hX];rfl
    have cJ:Hid (∀ u,Below w.heap.size w u->Calls Tryz.prog 109 #[.agg #[.int .i64 xk,.slice aR au.length aS,.slice aT av.length aU,.slice aP ar.length aQ]] u (Q71 (alN X) u)):=Qhd fun u G=>by rw [hX];exact bV.out hx0 u G
    obtain ⟨al,ao⟩:=Q7q X;have bO:smN (ks.take (k+1))=smN (ks.take k)++[sumB (cdN X)]:=by rw [HT.out,Q6g,<-hX,if_neg (by rw [ba];exact hx0)]
    have bb:alL (ks.take (k+1))=alL (ks.take k)++alN X:=by rw [HT.out,Q70,<-hX,if_neg (by rw [ba];exact hx0)]
    have bK:aa.length+(alN X).length<=10000000000:=by
     have h1:=Qa3 (ks.take (k+1));have h2:=Qbc ks (k+1);have h3:=congrArg List.length HR.out;have h4:=br.out;rw [length_map] at h3;rw [bb,length_append] at h1;omega
    obtain ⟨SH,am⟩:=Qe ((sumB (cdN X)).map u8v);have cs:=fun (a:Option Addr) (n c:Nat) (hn:(cdN X).length=n) (x:World) (hb:Q02 x (.slice a n c) (cdN X)) (hl:n+64<=140737488355328)=>Q81 a n c (cdN X) hn x hb hl;simp only [<-am] at cs;have Cs:=Qhd cs;have cw:=Qhd bO;have cp:=Qhd bb;have cx:=Qhd ao;have bs:=Qhd bK;have ct:Hid (SH.length=32):=Qhd (by rw [am,length_map];exact Q1r _);have cu:Hid (∀ u∈SH,u.oneCell'=true):=Qhd (by rw [am];intro u G;obtain ⟨y,_,rfl⟩:=mem_map.1 G;rfl);have cr:=Qhd am;clear bV hX ba bO bb bK cs am ao hx0 hlt D
    go_wp2_with (first
     |((with_reducible refine Qgl 38 ?_);refine Qlw 70 37 b (off+k*4) Q07 (by rfl) hr ?_)
     |((with_reducible refine Qgs 38 ?_);refine Qsa 70 6 38 wr.heap.size [.int .i64 xk,.slice aR au.length aS,.slice aT av.length aU,.slice aP ar.length aQ] Q07 (old:=[.int .i64 0,.slice none 0 0,.slice none 0 0,.slice none 0 0]) (D01 wr _ _) (by rfl) (by rfl) (by intro u G;simp at G;rcases G with rfl|rfl|rfl|rfl<;>rfl) (Qba wr _) (le_refl _) ?_;intro w4 y6 b4 _;have F:=F.kept b4;have q0:w4.cell? ⟨wr.heap.size,0,none⟩=some (.int .i64 xk):=y6.cell 0)
     |((with_reducible refine Qgl 47 ?_);refine Qla 70 6 wr.heap.size Q07 y6 (by rfl) ?_)
     |(go_at_call 109;refine (cJ.out w4 F.hb).mono ?_;rintro e w5 ⟨v5,du,rfl,H,t5,m5,Z⟩;obtain ⟨qv,bl,rfl,m6⟩:=Q6a (m5.trans cx.out);obtain ⟨n5,bL⟩:=Qe (bl.length+1);obtain ⟨a5,c5,rfl,_⟩:=H.form' n5 (by rw [bL];rfl);have dk:(0:Int)<(n5:Int):=(by omega);obtain ⟨g5,rfl,bI,_⟩:=H.lies (by omega);have k5:=H.cellAt Q96 0 _ rfl;have T:∀ q∈(qv,cdN X)::bl,TxG w sv u4 w5 q:=fun q z=>⟨(t5 q z).1,(t5 q z).2.1,fun j L=>⟨le_trans F.z2.lt ((t5 q z).2.2 j L).1,((t5 q z).2.2 j L).2.1,fun e=>by have h1:=Q08.ltT F.oS j e;have h2:=((t5 q z).2.2 j L).1;omega,fun e=>by have h1:=Q08.ltT F.oR j e;have h2:=((t5 q z).2.2 j L).1;omega⟩⟩;have s5:∀ j,sv.ownBlock=some j->j<g5:=fun j L=>lt_of_lt_of_le (Q08.ltT F.oS j L) bI;have z5:=lt_of_lt_of_le F.z2.lt bI;have F:=F.kept Z;obtain ⟨q1,q2,q3⟩:=t5 _ List.mem_cons_self;dsimp only at k5 q1 q2 q3;obtain ⟨qa,qc,rfl,_⟩:=q1.form;obtain ⟨PS,bC⟩:=Qe ((Value.slice qa (cdN X).length qc,cdN X)::bl);rw [<-bC] at T H m5;clear bC;obtain ⟨qn,be⟩:=Qe ((cdN X).length);have M5:=Qhd m5;clear m6 m5 bL t5;rw [<-be] at k5 q1 q2 q3;have cE:=Qhd be;clear be)
     |(go_at_call 41;refine (Cs.out qa qn qc cE.out.symm _ q1 (by omega)).mono ?_;rintro e V ⟨rfl,b6⟩;have F:=F.kept b6;have H:=H.kept b6;have cQ:=D01 V 30 zh;have cX:=Q08.ltT F.oS;have cW:=Q08.ltT F.oR;have cY:=F.z2.lt)
     |((with_reducible refine Qgs 52 ?_);refine Qsa 30 8 52 V.heap.size SH Q0g cQ ct.out (by rfl) cu.out (Qba V _) (le_refl _) ?_;intro w7 y8 b7 _;have F:=F.kept b7;have H:=H.kept b7))
    have T:∀ q∈PS,TxG w sv u4 w7 q:=fun q z=>((T q z).kept b6).kept b7;have k3:=fun u:Ext w7=>u.cell ((F.z2.cell 3).trans (show _=some sv from rfl));refine Q03 w7 4 (by kernel_rfl) (by kernel_rfl) (Below.refl _ _) ?_;simp only [List.take_succ_cons,take_zero,take_nil]
    iterate 3 (refine Q06 (by rfl) (fun K hK=>?_);go_simp;refine hK _ ?_;clear hK K)
    refine Q0e 56 (OneX (.slice (some ⟨V.heap.size,0,none⟩) 32 32) (sumB (cdN X))) rfl (of_decide_eq_true rfl) (OneX.mono _ _) (fun w8 dq=>?_) ?_
    ·change Q00 w8 [] _ _;simp only [Q00];refine ⟨rfl,?_⟩;go_simp;exact ⟨Qba _ _,w8.heap.size,rfl,D02 (f:=Q0p) (size:=1) (fun _=>rfl) w8 25 [(.slice (some ⟨V.heap.size,0,none⟩) 32 32,sumB (cdN X))] 1 rfl (by unfold maxLen;omega)⟩
    refine Q0i ?_;intro u2 ap dz cN;change wpList _ _ _ [_,_,_] _ _;obtain ⟨dj,rfl,cR⟩:=cN;have F:=F.kept ap;have H:=H.kept ap;have hB:Q02 u2 (.slice (some ⟨V.heap.size,0,none⟩) 32 32) (sumB (cdN X)):=Q7e (by have:=y8.kept ap;rwa [cr.out] at this) (Q1r _);have T:∀ q∈PS,TxG w sv u4 u2 q:=fun q z=>(T q z).kept ap;have N:TxG w sv u4 u2 (.slice (some ⟨V.heap.size,0,none⟩) 32 32,sumB (cdN X)):=⟨hB,by rw [show (sumB (cdN X)).length=32 from Q1r _];omega,fun j L=>by
     simp only [Value.ownBlock,Option.some.injEq] at L;subst L;exact ⟨cY,by have h1:=y8.lt;have h2:=ap.size;omega,fun e=>by have:=cX _ e;omega,fun e=>by have:=cW _ e;omega⟩⟩
    clear k3 hB;have bD:PS.length=(alN X).length:=by have:=congrArg List.length M5.out;rwa [length_map] at this
    have bt:=Qhd bD;have ds:=F.z2.lt;clear bD
    go_wp2_with (first
     |((with_reducible refine Qgl 57 ?_);refine Q0t (o:=⟨some 57,_,_,_,_,_⟩) (by rfl) (.tmp 54) (.tmp 56) 44 (by rfl) Q1i (Q1h (ps:=[(Value.slice (some ⟨V.heap.size,0,none⟩) 32 32,sumB (cdN X))]) (fun q z=>by rw [mem_singleton] at z;rw [z];exact N.h)) (by rfl) F.oS (by rfl) cR (by have:=F.z2.lt;omega) (by rw [ac.out];simp only [length_cons,length_nil];omega) (by rw [ac.out];simp only [length_cons,length_nil];unfold maxLen;omega) ?_;intro v9 w9 o9 g9 p9;obtain ⟨a9,c9,rfl,_⟩:=o9.form' (k+1) (by rw [length_append,ac.out];rfl);have y2:=F.z2.grown g9 (F.oS.notT F.z2 (by decide));obtain ⟨x3,cT⟩:=y2.has 3 (by simp);have cP:=y2.free 3;have T:∀ q∈PS,TxG w (.slice a9 (k+1) c9) u4 (w9.setCell ⟨w.heap.size+1,3,none⟩ (.slice a9 (k+1) c9)) q:=fun q z=>((T q z).grewS g9 p9).set 3 _;have H:=(H.grown g9 (fun j L e=>by simp only [Value.ownBlock,Option.some.injEq] at e;have:=s5 j L;omega)).grown (Qg4 w9 (w.heap.size+1) 3 (.slice a9 (k+1) c9)) (fun j L e=>by simp only [Value.ownBlock,Option.some.injEq] at e L;omega);have F:=F.grewS g9 o9 p9 (fun q z=>by rw [mem_singleton] at z;rw [z];exact N))
     |((with_reducible refine Qgl 61 ?_);refine Q0t (o:=⟨some 61,_,_,_,_,_⟩) (by rfl) (.tmp 59) (.tmp 60) 44 (by rfl) Q1i (Q1h (fun q z=>(T q z).h)) (by rfl) F.oR (by rfl) H.row (by have:=F.z2.lt;omega) (by rw [bt.out];have:=bs.out;omega) (by rw [bt.out];have:=bs.out;unfold maxLen;omega) ?_;intro dx dB d0 cL d1;have F:=F.grewR cL d0 d1 T))
    go_roundw
    case rel=>exact ⟨k+1,_,_,_,by omega,by go_num,F,Qhd (by rw [map_append,HS.out,cw.out];rfl),Qhd (by rw [map_append,HR.out,cp.out,M5.out])⟩
    case measure=>simp [intOf];omega
   obtain rfl:k=E:=by omega
   have bc:¬ kd=1:=fun e=>by rw [e] at n1;simp at n1
   have ai:=HS.out;have ax:=HR.out;rw [List.take_of_length_le (by rw [az.out];exact le_refl _)] at ai ax;have b':ae.length=k:=by
    have:=congrArg List.length ai;rw [length_map,Qbo,az.out] at this;exact this
   have bG:cdN (.mk kd pv p vv v kv ks)=if shOk kd p v (smN ks)=true then shB kd p v (smN ks) else []:=by rw [cdN,if_neg bc]
   have ao:alN (.mk kd pv p vv v kv ks)=cdN (.mk kd pv p vv v kv ks)::alL ks:=by rw [alN,if_neg bc]
   obtain ⟨sa,sc,rfl,_⟩:=F.oS.form' k b';obtain ⟨W,aH⟩:=Qe (if shOk kd p v (smN ks)=true then shB kd p v (smN ks) else []);have cy:Hid (alN (.mk kd pv p vv v kv ks)=W::alL ks):=Qhd (by rw [ao,bG,aH]);obtain ⟨cK,bH⟩:∃ x:Int,x=if shOk kd p v (smN ks)=true then 0 else 1:=⟨_,rfl⟩
   have Ci:Hid (∀ x,Below wr.heap.size wr x->Calls Tryz.prog 136 #[.agg #[.int .i64 kd,.slice M I O,.slice S J U,.slice sa k sc]] x fun e w'=>∃ cv,e=.returned (.tuple #[cv,.int .i64 cK])/\Q02 w' cv W/\(∀ j,cv.ownBlock=some j->x.heap.size<=j/\j<w'.heap.size)/\Below x.heap.size x w'/\W.length<=1000000000):=Qhd fun x hb=>by
    have:=Q9i kd M S sa I O J U k sc p v ae cD.out cG.out b' x ((Hp.out.below F.hb).below hb) ((Hv.out.below F.hb).below hb) ⟨F.oS.row.below hb,fun q z=>(F.tS q z).h.below hb⟩ (by omega) hV hK (fun q z=>Ql3 ks _ (by rw [<-ai];exact mem_map.2 ⟨q,z,rfl⟩));rw [ai] at this;rw [aH,bH];exact this
   have HB:=Qhd aH;have F0:=F.hb;have cq:=Qhd ax;obtain ⟨rn,bf⟩:=Qe (aa.length);obtain ⟨ra,rc,rfl,_⟩:=F.oR.form' rn bf.symm;have dp:rn<=10000000000:=by
    have h1:=Qa3 ks;have h2:=br.out;have h3:=congrArg List.length ax;rw [length_map] at h3;omega
   have bv:=Qhd bf;clear HS HR bG ao bH aH b' bc ai ax bf
   go_wp2_with (first
    |((with_reducible refine Qgl 64 ?_);refine Qla 134 3 (w.heap.size+1) Q0a F.z2 (by rfl) ?_)
    |(go_at_call 136;refine (Ci.out _ (Below.refl _ _)).mono ?_;rintro e w4 ⟨cv,rfl,hc,fc,b4,lc⟩;obtain ⟨ca,cc,rfl,_⟩:=hc.form;have F:=F.kept b4;have bi:∀ q∈aa,∀ k,q.1.ownBlock=some k->k<w4.heap.size:=fun q z k D=>((F.tR q z).b k D).2.1;have aF:∀ k,(Value.slice ca W.length cc).ownBlock=some k->w.heap.size<=k/\k<w4.heap.size:=fun k D=>⟨le_trans F0.size (fc k D).1,(fc k D).2⟩)
    |((with_reducible refine Qgl 69 ?_);refine Q0o (o:=⟨some 69,_,_,_,_,_⟩) (by rfl) 44 1 [(0,.tmp 68)] (by rfl) Q1i [(.slice ca W.length cc,W)] [.slice ca W.length cc] (by rfl) (by rfl) (by rfl) (by omega) (by omega) ?_;intro w5 y5 _ Z;have cS:=F.hb.size;have H:=Blk.own (f:=Q0p) (size:=1) (l:=[(Value.slice ca W.length cc,W)]) (B:=w.heap.size) y5 1 (fun _=>rfl) rfl cS (by unfold maxLen;omega);have F:=F.kept Z;have hc:=hc.kept Z)
    |((with_reducible refine Qgl 71 ?_);refine Q0t (o:=⟨some 71,_,_,_,_,_⟩) (by rfl) (.tmp 69) (.tmp 70) 44 (by rfl) Q1i (Q1h (fun q z=>(F.tR q z).h)) (by rfl) H (by rfl) F.oR.row F.hb.size (by rw [<-bv.out];simp only [length_cons,length_nil];omega) (by rw [<-bv.out];simp only [length_cons,length_nil];unfold maxLen;omega) ?_;intro v6 V o6 g6 p6))
   go_ret;refine ⟨v6,_,rfl,o6,fun q z=>?_,by rw [map_append,cq.out,cy.out];rfl,F.hb.grown g6 F.hb.size (fun k D=>by simp only [Value.ownBlock,Option.some.injEq] at D;omega)⟩;have bX:∀ k,k<w4.heap.size->v6.ownBlock≠some k:=fun k D e=>by
    rcases p6 k e with h|h
    ·simp only [Value.ownBlock,Option.some.injEq] at h;omega
    have:=Z.size;omega
   rcases mem_append.1 z with z|z
   ·rw [mem_singleton] at z;subst z;exact ⟨Q05.offT hc g6 (fun x hx=>Nat.ne_of_lt (aF x hx).2),lc,fun k D=>⟨(aF k D).1,lt_of_lt_of_le (aF k D).2 (le_trans Z.size g6.size),bX k (aF k D).2⟩⟩
   have t:=F.tR q z;exact ⟨Q05.offT t.h g6 (fun x hx=>Nat.ne_of_lt (bi q z x hx)),t.l,fun k D=>⟨le_trans (by omega) (t.b k D).1,lt_of_lt_of_le (bi q z k D) (le_trans Z.size g6.size),bX k (bi q z k D)⟩⟩
theorem Qku:∀ (n:Nat)(t:Nd),SizeOf.sizeOf t<=n->OkN t->FnN t->Q15 t<=10000000000->∀ w,IsNd w t->Calls Tryz.prog 109 #[.agg (Q04 t).toArray] w (Q71 (alN t) w)
 | 0,.mk kd pv p vv v kv ks,h,_,_,_,_,_=>by simp at h
 | n+1,.mk kd pv p vv v kv ks,h,ho,hF,hb,w,hI=>by
  obtain ⟨V,W,U,M⟩:=hF.inv;have S:∀ k∈ks,SizeOf.sizeOf k<=n:=by
   intro k y;have:=List.sizeOf_lt_of_mem y;simp only [Nd.mk.sizeOf_spec] at h;omega
  obtain ⟨z,D,y,L⟩:=hI.inv;simp only [Q15] at hb;have O:=fun k (y:k∈ks)=>Q1u y;cases ho with
  | leaf =>
   obtain ⟨H,I,rfl,_,_⟩:=z.form;obtain ⟨J,K,rfl,_,_⟩:=D.form;obtain ⟨E,G,rfl,_,_⟩:=y.form;exact Qrn H J E p.length I v.length K ks.length G p v ks _ _ _ rfl rfl w z D (by omega) (by omega)
  | inner _ _ _ _ _ _ _ hkd hks =>
   obtain ⟨H,I,rfl,_,_⟩:=z.form;obtain ⟨J,K,rfl,_,_⟩:=D.form;obtain ⟨E,G,rfl,_,_⟩:=y.form;exact Qoy kd hkd H J E p.length I v.length K ks.length G p v ks rfl rfl rfl w z D y (by omega) (by omega) (by omega) L (by omega) (fun k y N u T=>Qku n k (S k y) (hks k y N) (M k y) (by have:=O k y;omega) u ((L k y).kept T)) _ _ _
structure TxC (z:Nat)(kv rv:Value)(u:World)(q:Value × List UInt8):Prop where
 h:Q02 u q.1 q.2
 l:q.2.length<=1000000000
 b:∀ k,q.1.ownBlock=some k->z<k/\k<u.heap.size/\kv.ownBlock≠some k/\rv.ownBlock≠some k
theorem TxC.kept {z:Nat}{E G:Value}{u u':World}{q:Value × List UInt8}(h:TxC z E G u q)(D:Below u.heap.size u u'):TxC z E G u' q :=
 ⟨h.h.kept D,h.l,fun k y=>⟨(h.b k y).1,lt_of_lt_of_le (h.b k y).2.1 D.size,(h.b k y).2.2⟩⟩
theorem TxC.grewS {z:Nat}{D G H:Value}{u u':World}{q:Value × List UInt8}(h:TxC z D H u q)(E:u.grownBy u' D.ownBlock)(I:∀ k,G.ownBlock=some k->D.ownBlock=some k∨u.heap.size<=k):TxC z G H u' q :=
 ⟨Q05.grownT h.h E (fun k y=>(h.b k y).2.1) (fun k y=>(h.b k y).2.2.1),h.l,fun k y=>⟨(h.b k y).1,lt_of_lt_of_le (h.b k y).2.1 E.size,fun e=>(I k e).elim (h.b k y).2.2.1 (fun J=>by have:=(h.b k y).2.1;omega),(h.b k y).2.2.2⟩⟩
theorem TxC.but {z g:Nat}{G D H:Value}{u u':World}{q:Value × List UInt8}(h:TxC z G D u q)(E:But2 g D u u')(L:g<=z)(I:∀ k,H.ownBlock=some k->D.ownBlock=some k∨u.heap.size<=k):TxC z G H u' q :=
 ⟨Q05.but h.h E (fun e=>by have:=(h.b _ e).1;omega) (fun x J=>(h.b x J).2.2.2),h.l,fun k y=>⟨(h.b k y).1,lt_of_lt_of_le (h.b k y).2.1 E.size,(h.b k y).2.2.1,fun e=>(I k e).elim (h.b k y).2.2.2 (fun K=>by have:=(h.b k y).2.1;omega)⟩⟩
theorem TxC.set {z:Nat}{D E:Value}{u:World}{q:Value × List UInt8}(h:TxC z D E u q)(i:Nat)(v:Value):TxC z D E (u.setCell ⟨z,i,none⟩ v) q :=
 ⟨Q05.grownT h.h (Qg4 u _ i v) (fun k y=>(h.b k y).2.1) (fun k y e=>by have:=(h.b k y).1;simp only [Option.some.injEq] at e;omega),h.l,fun k y=>by have:=h.b k y;simpa only [World.size_setCell] using this⟩
structure CdW (w:World)(N4:List Value)(kd:Int)(P V:Value)(g B0 z:Nat)(v0:Value)(ps:List (Value × List UInt8))(kv rv:Value)(sums rest:List (Value × List UInt8))(u:World):Prop where
 bt:But2 g v0 w u
 pv:∀ k,rv.ownBlock=some k->v0.ownBlock=some k∨w.heap.size<=k
 gl:g<w.heap.size
 zl:w.heap.size<z
 z1:Blk 70 u w.heap.size N4
 z2:Blk 134 u z [.int .i64 kd,P,V,kv]
 zg:Blk 44 u g [rv]
 oS:Q08 Q0p 1 25 u (z+1) kv sums
 oR:Q08 Q0p 1 25 u B0 rv (ps++(.slice none 0 0,[])::rest)
 ne:∀ k,kv.ownBlock=some k->rv.ownBlock≠some k
 tS:∀ q∈sums,TxC z kv rv u q
 tR:∀ q∈rest,TxC z kv rv u q
def Qf2 (C:List UInt8)(A:List (List UInt8))(g B0:Nat)(v:Value)(ps:List (Value × List UInt8))(w:World)(e:Ending)(w':World):Prop :=
 ∃ cv v' ps',e=.returned cv/\Q02 w' cv C/\C.length<=1000000000/\(∀ k,cv.ownBlock=some k->w.heap.size<=k/\k<w'.heap.size/\v'.ownBlock≠some k)/\Blk 44 w' g [v']/\Q08 Q0p 1 25 w' B0 v' (ps++ps')/\ps'.map (·.2)=A /\
  (∀ q∈ps',Q02 w' q.1 q.2/\q.2.length<=1000000000/\∀ k,q.1.ownBlock=some k->w.heap.size<=k/\k<w'.heap.size/\v'.ownBlock≠some k)/\(∀ k,v'.ownBlock=some k->v.ownBlock=some k∨w.heap.size<=k)/\But2 g v w w'
section
variable {w:World} {N4:List Value} {kd:Int} {P V kv kv' v0 rv rv':Value} {g B0 z:Nat} {ps sums rest sums' rest':List (Value × List UInt8)} {u u':World}
theorem CdW.kept (h:CdW w N4 kd P V g B0 z v0 ps kv rv sums rest u)(y:Below u.heap.size u u'):CdW w N4 kd P V g B0 z v0 ps kv rv sums rest u' :=
 ⟨h.bt.kept y,h.pv,h.gl,h.zl,h.z1.kept y,h.z2.kept y,h.zg.kept y,h.oS.kept y,h.oR.kept y,h.ne,fun q D=>(h.tS q D).kept y,fun q D=>(h.tR q D).kept y⟩
theorem CdW.grewS (h:CdW w N4 kd P V g B0 z v0 ps kv rv sums rest u)(D:u.grownBy u' kv.ownBlock)(K:Q08 Q0p 1 25 u' (z+1) kv' (sums++sums'))(G:∀ k,kv'.ownBlock=some k->kv.ownBlock=some k∨u.heap.size<=k)(N:∀ q∈sums',TxC z kv rv u q) :
  CdW w N4 kd P V g B0 z v0 ps kv' rv (sums++sums') rest (u'.setCell ⟨z,3,none⟩ kv'):=by
 have W:=h.zl;have U:=h.gl;have O:=h.z1.grown D (h.oS.notT h.z1 (by decide));have I:=h.z2.grown D (h.oS.notT h.z2 (by decide));have T:=h.zg.grown D (h.oS.notT h.zg (by decide));have L:=h.oR.grown D (fun k y e=>h.ne k y e);have M:=h.bt.grown D (fun k y=>.inr (.inr (by have:=Q08.lt h.oS k y;omega)));have H:=Qg4 u' z 3 kv';have S:=I.set 3 kv';refine ⟨M.grown H (fun k y=>.inr (.inr (by cases y;omega))),h.pv,h.gl,h.zl,O.other _ (by show z≠w.heap.size;omega) _,S,T.other _ (by show z≠g;omega) _,K.grown H (fun k y=>by cases y;exact K.notT I (by decide)),L.grown H (fun k y=>by cases y;exact L.notT I (by decide)),fun k y e=>(G k y).elim (fun J=>h.ne k J e) (fun J=>by have:=Q08.ltT h.oR k e;omega),fun q E=>?_,fun q E=>((h.tR q E).grewS D G).set 3 kv'⟩;rcases mem_append.1 E with E|E
 ·exact ((h.tS q E).grewS D G).set 3 kv'
 exact ((N q E).grewS D G).set 3 kv'
theorem CdW.call (h:CdW w N4 kd P V g B0 z v0 ps kv rv sums rest u)(E:But2 g rv u u')(K:Blk 44 u' g [rv'])(J:Q08 Q0p 1 25 u' B0 rv' ((ps++(.slice none 0 0,[])::rest)++rest'))(G:∀ k,rv'.ownBlock=some k->rv.ownBlock=some k∨u.heap.size<=k)
  (hn:∀ q∈rest',Q02 u' q.1 q.2/\q.2.length<=1000000000/\∀ k,q.1.ownBlock=some k->u.heap.size<=k/\k<u'.heap.size/\rv'.ownBlock≠some k):CdW w N4 kd P V g B0 z v0 ps kv rv' sums (rest++rest') u':=by
 have T:=h.zl;have O:=h.gl;have S:=h.z2.lt;refine ⟨h.bt.trans h.pv E,fun k y=>(G k y).elim (h.pv k) (fun I=>.inr (le_trans h.bt.size I)),h.gl,h.zl,h.z1.but E (by omega) (h.oR.notT h.z1 (by decide)),h.z2.but E (by omega) (h.oR.notT h.z2 (by decide)),K,h.oS.but E (fun e=>by have:=Q08.lt h.oS _ e;omega) (h.ne),by rw [List.append_assoc] at J;exact J,
  fun k y e=>(G k e).elim (h.ne k y) (fun I=>by have:=Q08.ltT h.oS k y;omega),fun q D=>(h.tS q D).but E (by omega) G,fun q D=>?_⟩
 rcases mem_append.1 D with D|D
 ·exact (h.tR q D).but E (by omega) G
 obtain ⟨L,M,H⟩:=hn q D;exact ⟨L,M,fun k y=>⟨by have:=(H k y).1;omega,(H k y).2.1,fun e=>by have I:=Q08.ltT h.oS k e;have N:=(H k y).1;omega,(H k y).2.2⟩⟩
end
def smK (kd:Int)(ks:List Nd)(k:Nat):List (List UInt8):=if kd=1 then List.replicate k [] else smN (ks.take k)
def alK (kd:Int)(ks:List Nd)(k:Nat):List (List UInt8):=if kd=1 then [] else alL (ks.take k)
theorem Qun (kd:Int)(z:Value)(p:List UInt8)(D:Value)(v:List UInt8)(y:Value)(ks:List Nd):cdN (.mk kd z p D v y ks)=if shOk kd p v (smK kd ks ks.length)=true then shB kd p v (smK kd ks ks.length) else []:=by
 rw [cdN,smK,List.take_length];by_cases h:kd=1
 ·subst h;rw [if_pos rfl,if_pos rfl,Qld p v [] (List.replicate ks.length []),Qp6 p v [] (List.replicate ks.length [])]
 rw [if_neg h,if_neg h]
theorem Qur (kd:Int)(y:Value)(p:List UInt8)(z:Value)(v:List UInt8)(h:Value)(ks:List Nd):alN (.mk kd y p z v h ks)=cdN (.mk kd y p z v h ks)::alK kd ks ks.length:=by
 rw [alN,alK,List.take_length]
theorem Qte (kd:Int)(ks:List Nd)(k:Nat):∀ l∈smK kd ks k,l.length<=1048576:=by
 intro l h;unfold smK at h;split at h
 ·rw [List.eq_of_mem_replicate h];simp
 exact Ql3 _ l h
theorem Ql4 (kd:Int)(ks:List Nd)(k:Nat)(h:k<=ks.length):(smK kd ks k).length=k:=by
 unfold smK;split
 ·simp
 rw [Qbo,List.length_take];omega
def CdC (t:Nd):Prop:=∀ (W0 w:World) (g B0:Nat) (v:Value) (ps:List (Value × List UInt8)),IsNd W0 t->Below W0.heap.size W0 w->W0.heap.size<=g->W0.heap.size<=B0->B0<=w.heap.size->Blk 44 w g [v]->Q08 Q0p 1 25 w B0 v ps->ps.length+Q15 t<=20000000000->Q15 t<=10000000000 ->
 Calls Tryz.prog 104 #[.agg (Q04 t).toArray,.pointer (some ⟨g,0,none⟩)] w (Qf2 (cdN t) (alN t) g B0 v ps w)
theorem Qk3 (kd:Int)(U W ka:Option Addr)(M V O Z L kc:Nat)(p v:List UInt8)(ks:List Nd)(c4:p.length=M)(c7:v.length=O)(c0:ks.length=L)(T w:World)(hp:Q02 T (.slice U M V) p)(hv:Q02 T (.slice W O Z) v)(I:Q05 Q04 4 T (.slice ka L kc) ks)
  (hks:∀ k∈ks,IsNd T k) (g B0:Nat) (v0:Value) (ps:List (Value × List UInt8)) (hW:Below T.heap.size T w) (hg0:T.heap.size<=g) (hB0:T.heap.size<=B0) (hBw:B0<=w.heap.size) (hz:Blk 44 w g [v0]) (ho:Q08 Q0p 1 25 w B0 v0 ps) (hln:ps.length+1+Q0v ks<=20000000000) (hBk:Q0v ks<=10000000000) (hP:M<=1048576) (hV:O<=1048576) (hK:L<=1048576)
  (ih:∀ k∈ks,CdC k) (pv vv kv:Value) :
  Calls Tryz.prog 104 #[.agg #[.int .i64 kd,.slice U M V,.slice W O Z,.slice ka L kc],.pointer (some ⟨g,0,none⟩)] w (Qf2 (cdN (.mk kd pv p vv v kv ks)) (alN (.mk kd pv p vv v kv ks)) g B0 v0 ps w):=by
 obtain ⟨w1,aZ⟩:=Qe (w.alloc (.cells #[.int .i64 kd,.slice U M V,.slice W O Z,.slice ka L kc] 70));have z1:Blk 70 w1 w.heap.size [.int .i64 kd,.slice U M V,.slice W O Z,.slice ka L kc]:=by rw [aZ];exact D01 w _ _
 have aV:Below w.heap.size w w1:=by rw [aZ];exact Qba _ _
 have bJ:=hz.kept aV;have o1:=ho.kept aV;have da:=hz.lt;obtain ⟨E,bv⟩:=Qe (ps.length);obtain ⟨a0,k0,rfl,_⟩:=ho.form' E bv.symm;have cg:=bJ.cell 0;have cU:=Qhd aZ;have be:=Qhd aV;have Hk:=Qhd I;have cN:=Qhd hks;have IH:=Qhd ih;have bf:=Qhd c0;have Hp:=Qhd hp;have Hv:=Qhd hv;have cQ:=Qhd c4;have cT:=Qhd c7;have HW:=Qhd hW;have bg:=Qhd hln;have bh:=Qhd bv;have Ho:=Qhd ho;have cE:=Qhd hBk;clear aZ aV I hks ih c0 hp hv c4 c7 hW hln bv ho hz hBk;go_enter Tryz.func104,Tryz.ntmps104;go_upto_region 3 with (first
  |(rw [<-cU.out];have cg:w1.cell? ⟨g,0,none⟩=some (.slice a0 E k0):=cg)
  |((with_reducible refine Qgl 20 ?_);refine Q0o (o:=⟨some 20,_,_,_,_,_⟩) (by rfl) 44 1 [(0,.const (.slice none 0 0))] (by rfl) Q1i [(.slice none 0 0,[])] [.slice none 0 0] (by rfl) (by rfl) (by rfl) (by omega) (by omega) ?_;intro w2 _ r2 b2;have bK:=bJ.kept b2;have o2:=o1.kept b2)
  |((with_reducible refine Qgl 21 ?_);refine Q0t (o:=⟨some 21,_,_,_,_,_⟩) (by rfl) (.tmp 19) (.tmp 20) 44 (by rfl) Q1i (by intro u J;simp [Q0p] at J;subst J;rfl) (by rfl) o2 (by rfl) r2 (by have:=b2.size;have:=be.out.size;omega) (by have:=bg.out;simp only [length_cons,length_nil];omega) (by have:=bg.out;simp only [length_cons,length_nil];unfold maxLen;omega) ?_;intro v3 w3 o3 g3 p3;obtain ⟨a3,c3,rfl,_⟩:=o3.form' (E+1) (by rw [length_append,bh.out];rfl);have yg:=bK.grown g3 (o2.notT bK (by decide));obtain ⟨x3,bx⟩:=yg.has 0 (by simp);have bs:=yg.free 0))
 obtain ⟨w4,b0⟩:=Qe (w3.setCell ⟨g,0,none⟩ (.slice a3 (E+1) c3));rw [<-b0];have g4:=Qg4 w3 g 0 (.slice a3 (E+1) c3);have z3:=(z1.kept b2).grown g3 (o2.notT (z1.kept b2) (by decide));rw [<-b0] at g4;have bO:But2 g (.slice a0 E k0) w w4:=((((But2.refl g (.slice a0 E k0) w).kept be.out).kept b2).grown g3 (fun k I=>.inr (.inl I))).grown g4 (fun k I=>.inl (by cases I;rfl));have cl:∀ k,(Value.slice a3 (E+1) c3).ownBlock=some k->(Value.slice a0 E k0).ownBlock=some k∨w.heap.size<=k:=fun k I=>(p3 k I).imp_right (fun h=>le_trans (le_trans be.out.size b2.size) h);have z4:Blk 70 w4 w.heap.size [.int .i64 kd,.slice U M V,.slice W O Z,.slice ka L kc]:=z3.grown g4 (by simp;omega);have cz:Blk 44 w4 g [.slice a3 (E+1) c3]:=by rw [b0];exact yg.set 0 _
 have o4:=o3.grown g4 (fun k I=>by cases I;exact o3.notT yg (by decide));have cA:w.heap.size<w4.heap.size:=z4.lt;have d0:w4.cell? ⟨w.heap.size,0,none⟩=some (.int .i64 kd):=z4.cell 0;have d1:w4.cell? ⟨w.heap.size,1,none⟩=some (.slice U M V):=z4.cell 1;have d2:w4.cell? ⟨w.heap.size,2,none⟩=some (.slice W O Z):=z4.cell 2;clear b0 g4 z3 yg bx bs o3 p3 g3 bK o2 r2 b2 cg bJ o1 z1
 go_wp2_with (first
  |((with_reducible refine Qgs 29 ?_);refine Qsa 134 6 29 w4.heap.size [.int .i64 kd,.slice U M V,.slice W O Z,.slice none 0 0] Q0a (old:=[.int .i64 0,.slice none 0 0,.slice none 0 0,.slice none 0 0]) (D01 w4 _ _) (by rfl) (by rfl) (by intro u J;simp at J;rcases J with rfl|rfl|rfl|rfl<;>rfl) (Qba w4 _) (le_refl _) ?_;intro w5 z5 b5 _;have y5:=z4.kept b5;have d3:w5.cell? ⟨w.heap.size,3,none⟩=some (.slice ka L kc):=y5.cell 3))
 have F:CdW w [.int .i64 kd,.slice U M V,.slice W O Z,.slice ka L kc] kd (.slice U M V) (.slice W O Z) g B0 w4.heap.size (.slice a0 E k0) ps (.slice none 0 0) (.slice a3 (E+1) c3) [] [] w5 :=
  ⟨bO.kept b5,cl,da,cA,y5,z5,cz.kept b5,Q08.nil Q0p 1 _ _ _,o4.kept b5,fun k I=>by simp [Value.ownBlock] at I,fun q G=>absurd G (by simp),fun q G=>absurd G (by simp)⟩
 obtain ⟨z,hz⟩:=Qe (w4.heap.size);rw [<-hz] at F;rw [<-hz];clear hz bO cl z4 cz o4 cA d0 d1 d2 d3 y5 z5 b5
 try simp only [Act.put]
 go_loopw [33] (fun ix wr=>∃ (k:Nat) (sv rv:Value) (ap a6:List (Value × List UInt8)),k<=L/\ix=.int .i64 (k:Int)/\CdW w [.int .i64 kd,.slice U M V,.slice W O Z,.slice ka L kc] kd (.slice U M V) (.slice W O Z) g B0 z (.slice a0 E k0) ps sv rv ap a6 wr/\Hid (ap.map (·.2)=smK kd ks k)/\Hid (a6.map (·.2)=alK kd ks k)) (fun ix _=>L - (intOf ix).toNat)
 case atStart=>exact ⟨0,_,_,_,_,zero_le _,rfl,F,Qhd (by unfold smK;rw [take_zero,smN];simp),Qhd (by unfold alK;rw [take_zero,alL];simp)⟩
 case round =>
  clear F;obtain ⟨k,sv,rv,ap,a6,I,rfl,F,HS,HR⟩:=hrel;have bW:Below T.heap.size T wr:=HW.out.trans (F.bt.below HW.out.size hg0 (fun j D=>le_trans hB0 (Q08.lt Ho.out j D)));have aw:=Qhd bW;clear bW;by_cases hlt:k<L
  ·have dL:(k:Int)<(L:Int):=by omega
   have aW:k<ks.length:=by rw [bf.out];exact hlt
   obtain ⟨b,off,rfl,hr⟩:=Q05.range Q0b (Hk.out.below aw.out) k aW;obtain ⟨x,hx⟩:∃ x,ks[k]=x:=⟨_,rfl⟩;have bz:x∈ks:=by rw [<-hx];exact List.getElem_mem aW
   have HT:Hid (ks.take (k+1)=ks.take k++[x]):=Qhd (by rw [List.take_add_one,List.getElem?_eq_getElem aW,hx];rfl);rw [hx] at hr;have bA:=Qhd (IH.out x bz);have bo:=Qhd (cN.out x bz);obtain ⟨xk,xp,ag,xv,ah,dy,af⟩:=x;change wr.rangeAt b (off+k*4) [.int .i64 xk,xp,xv,dy] at hr;obtain ⟨i1,i2,i3,_⟩:=bo.out.inv;obtain ⟨aK,aL,rfl,_⟩:=i1.form;obtain ⟨aM,aN,rfl,_⟩:=i2.form;obtain ⟨aI,aJ,rfl,_⟩:=i3.form;have bM:ap.length=k:=by
    have:=congrArg List.length HS.out;rw [length_map,Ql4 kd ks k (by omega)] at this;exact this
   have ak:=Qhd bM;clear hx bz aW i1 i2 i3 bM;by_cases hx0:kd=1∨xk=0
   ·have n2:(kd==1)=true∨((kd==1)=false/\(xk==0)=true):=by
     by_cases h:kd=1
     ·left;rw [h];rfl
     right;exact ⟨by rw [beq_eq_false_iff_ne];exact h,by rw [beq_iff_eq];exact hx0.resolve_left h⟩
    have bd:Hid (smK kd ks (k+1)=smK kd ks k++[[]]):=Qhd (by
     unfold smK;by_cases h:kd=1
     ·rw [if_pos h,if_pos h,List.replicate_succ']
     rw [if_neg h,if_neg h,HT.out,Q6g,if_pos (by exact hx0.resolve_left h)])
    have bc:Hid (alK kd ks (k+1)=alK kd ks k):=Qhd (by
     unfold alK;by_cases h:kd=1
     ·rw [if_pos h,if_pos h]
     rw [if_neg h,if_neg h,HT.out,Q70,if_pos (by exact hx0.resolve_left h),List.append_nil])
    clear hx0 bA;rcases n2 with n2|⟨n2,n3⟩
    all_goals
     go_wp2_with (first
      |((with_reducible refine Qgl 36 ?_);refine Qlw 70 35 b (off+k*4) Q07 (by rfl) hr ?_)
      |((with_reducible refine Qgs 36 ?_);refine Qsa 70 8 36 wr.heap.size [.int .i64 xk,.slice aK ag.length aL,.slice aM ah.length aN,.slice aI af.length aJ] Q07 (old:=[.int .i64 0,.slice none 0 0,.slice none 0 0,.slice none 0 0]) (D01 wr _ _) (by rfl) (by rfl) (by intro u J;simp at J;rcases J with rfl|rfl|rfl|rfl<;>rfl) (Qba wr _) (le_refl _) ?_;intro w6 y6 b6 _;have F:=F.kept b6;have q0:w6.cell? ⟨wr.heap.size,0,none⟩=some (.int .i64 xk):=y6.cell 0;have q1:w6.cell? ⟨w.heap.size,0,none⟩=some (.int .i64 kd):=F.z1.cell 0;have d3:w6.cell? ⟨z,3,none⟩=some sv:=F.z2.cell 3)
      |((with_reducible refine Qgl 47 ?_);refine Q0o (o:=⟨some 47,_,_,_,_,_⟩) (by rfl) 44 1 [(0,.const (.slice none 0 0))] (by rfl) Q1i [(.slice none 0 0,[])] [.slice none 0 0] (by rfl) (by rfl) (by rfl) (by omega) (by omega) ?_;intro w7 _ r7 b7;have F:=F.kept b7)
      |((with_reducible refine Qgl 48 ?_);refine Q0t (o:=⟨some 48,_,_,_,_,_⟩) (by rfl) (.tmp 46) (.tmp 47) 44 (by rfl) Q1i (by intro u J;simp [Q0p] at J;subst J;rfl) (by rfl) F.oS (by rfl) r7 (by have:=F.z2.lt;omega) (by rw [ak.out];simp only [length_cons,length_nil];omega) (by rw [ak.out];simp only [length_cons,length_nil];unfold maxLen;omega) ?_;intro v8 w8 o8 g8 p8;obtain ⟨a8,c8,rfl,_⟩:=o8.form' (k+1) (by rw [length_append,ak.out];rfl);have y2:=F.z2.grown g8 (F.oS.notT F.z2 (by decide));obtain ⟨x3,bx⟩:=y2.has 3 (by simp);have bs:=y2.free 3;have F:=F.grewS g8 o8 p8 (fun q G=>by rw [mem_singleton] at G;subst G;exact ⟨Q05.nil b8 1 _,zero_le _,fun k I=>by simp [Value.ownBlock] at I⟩)))
     go_roundw
     case rel=>exact ⟨k+1,_,_,_,a6,by omega,by go_num,F,Qhd (by rw [map_append,HS.out,bd.out];rfl),Qhd (by rw [HR.out,bc.out])⟩
     case measure=>simp [intOf];omega
   have ac:¬ kd=1:=fun e=>hx0 (.inl e);have b3:¬ xk=0:=fun e=>hx0 (.inr e);have n1:(kd==1)=false:=by rw [beq_eq_false_iff_ne];exact ac
   have n3:(xk==0)=false:=by rw [beq_eq_false_iff_ne];exact b3
   obtain ⟨X,hX⟩:=Qe (Nd.mk xk (.slice aK ag.length aL) ag (.slice aM ah.length aN) ah (.slice aI af.length aJ) af);have c5:smK kd ks (k+1)=smK kd ks k++[sumB (cdN X)]:=by
    unfold smK;rw [if_neg ac,if_neg ac,HT.out,Q6g,<-hX,if_neg (by rw [hX];exact b3)]
   have al:alK kd ks (k+1)=alK kd ks k++alN X:=by
    unfold alK;rw [if_neg ac,if_neg ac,HT.out,Q70,<-hX,if_neg (by rw [hX];exact b3)]
   have bu:ps.length+1+a6.length+Q15 X<=20000000000/\Q15 X<=10000000000:=by
    have h1:=Qa3 (ks.take k);have h2:=Qbc ks (k+1);have h3:=congrArg List.length HR.out;have h4:=bg.out;have h5:=cE.out;have h6:=Q7g (ks.take k) [Nd.mk xk (.slice aK ag.length aL) ag (.slice aM ah.length aN) ah (.slice aI af.length aJ) af];rw [<-HT.out,<-hX,show Q0v [X]=Q15 X from by rw [Q0v,Q0v];omega] at h6;rw [length_map] at h3;unfold alK at h3;rw [if_neg ac] at h3;omega
   have S:∀ (u:World) (aG:Value) (aE:List (Value × List UInt8)),Below T.heap.size T u->B0<=u.heap.size->Blk 44 u g [aG]->Q08 Q0p 1 25 u B0 aG aE->aE.length+Q15 X<=20000000000->Calls Tryz.prog 104 #[.agg #[.int .i64 xk,.slice aK ag.length aL,.slice aM ah.length aN,.slice aI af.length aJ],.pointer (some ⟨g,0,none⟩)] u (Qf2 (cdN X) (alN X) g B0 aG aE u):=by
    intro u aG aE h1 h2 h3 h4 h5;have:=bA.out T u g B0 aG aE bo.out h1 hg0 hB0 h2 h3 h4 (by rw [<-hX];exact h5) (by rw [<-hX];exact bu.2);rw [<-hX] at this;rw [hX] at this |-;exact this
   obtain ⟨SH,aD⟩:=Qe ((sumB (cdN X)).map u8v);have cs:=fun (a:Option Addr) (n c:Nat) (hn:(cdN X).length=n) (x:World) (hb:Q02 x (.slice a n c) (cdN X))=>Qbl a n c (cdN X) hn x hb;simp only [<-aD] at cs;have Cs:=Qhd cs;have Cc:=Qhd S;have bd:=Qhd c5;have bc:=Qhd al;have cF:=Qhd bu.1;have cI:Hid (SH.length=32):=Qhd (by rw [aD,length_map];exact Q1r _);have cJ:Hid (∀ u∈SH,u.oneCell'=true):=Qhd (by rw [aD];intro u J;obtain ⟨y,_,rfl⟩:=mem_map.1 J;rfl);have cH:=Qhd aD;clear bA bo hX ac b3 c5 al bu cs S aD hx0 hlt I
   go_wp2_with (first
    |((with_reducible refine Qgl 36 ?_);refine Qlw 70 35 b (off+k*4) Q07 (by rfl) hr ?_)
    |((with_reducible refine Qgs 36 ?_);refine Qsa 70 8 36 wr.heap.size [.int .i64 xk,.slice aK ag.length aL,.slice aM ah.length aN,.slice aI af.length aJ] Q07 (old:=[.int .i64 0,.slice none 0 0,.slice none 0 0,.slice none 0 0]) (D01 wr _ _) (by rfl) (by rfl) (by intro u J;simp at J;rcases J with rfl|rfl|rfl|rfl<;>rfl) (Qba wr _) (le_refl _) ?_;intro w6 y6 b6 _;have F:=F.kept b6;have q0:w6.cell? ⟨wr.heap.size,0,none⟩=some (.int .i64 xk):=y6.cell 0;have q1:w6.cell? ⟨w.heap.size,0,none⟩=some (.int .i64 kd):=F.z1.cell 0)
    |((with_reducible refine Qgl 50 ?_);refine Qla 70 8 wr.heap.size Q07 y6 (by rfl) ?_)
    |(go_at_call 104;refine (Cc.out w6 rv _ (aw.out.trans (b6.mono aw.out.size)) (le_trans hBw F.bt.size) F.zg F.oR (by rw [length_append,length_cons];have:=cF.out;omega)).mono ?_;rintro e w7 ⟨cv,dv,PS,rfl,hc,lc,fc,dB,o7,m7,t7,p7,d4⟩;have F:=F.call d4 dB o7 p7 t7;obtain ⟨ca,S,rfl,_⟩:=hc.form;obtain ⟨qn,aX⟩:=Qe ((cdN X).length);rw [<-aX] at hc;rw [<-aX];have cR:=Qhd aX;have M7:=Qhd m7;clear aX m7)
    |(go_at_call 37;refine (Cs.out ca qn S cR.out.symm _ hc).mono ?_;rintro e w8 ⟨rfl,b8⟩;have F:=F.kept b8;have dc:=D01 w8 30 zh;have dj:=Q08.ltT F.oS;have di:=Q08.ltT F.oR;have dk:=F.z2.lt)
    |((with_reducible refine Qgs 53 ?_);refine Qsa 30 9 53 w8.heap.size SH Q0g dc cI.out (by rfl) cJ.out (Qba w8 _) (le_refl _) ?_;intro w9 y9 b9 _;have F:=F.kept b9))
   have k3:=fun u:Ext w9=>u.cell ((F.z2.cell 3).trans (show _=some sv from rfl));refine Q03 w9 4 (by kernel_rfl) (by kernel_rfl) (Below.refl _ _) ?_;simp only [List.take_succ_cons,take_zero,take_nil]
   iterate 3 (refine Q06 (by rfl) (fun K hK=>?_);go_simp;refine hK _ ?_;clear hK K)
   refine Q0e 57 (OneX (.slice (some ⟨w8.heap.size,0,none⟩) 32 32) (sumB (cdN X))) rfl (of_decide_eq_true rfl) (OneX.mono _ _) (fun wx dN=>?_) ?_
   ·change Q00 wx [] _ _;simp only [Q00];refine ⟨rfl,?_⟩;go_simp;exact ⟨Qba _ _,wx.heap.size,rfl,D02 (f:=Q0p) (size:=1) (fun _=>rfl) wx 25 [(.slice (some ⟨w8.heap.size,0,none⟩) 32 32,sumB (cdN X))] 1 rfl (by unfold maxLen;omega)⟩
   refine Q0i ?_;intro u2 bp dU d9;change wpList _ _ _ [_,_,_] _ _;obtain ⟨dH,rfl,de⟩:=d9;have F:=F.kept bp;have hB:Q02 u2 (.slice (some ⟨w8.heap.size,0,none⟩) 32 32) (sumB (cdN X)):=Q7e (by have:=y9.kept bp;rwa [cH.out] at this) (Q1r _);have N:TxC z sv dv u2 (.slice (some ⟨w8.heap.size,0,none⟩) 32 32,sumB (cdN X)):=⟨hB,by rw [show (sumB (cdN X)).length=32 from Q1r _];omega,fun j D=>by
    simp only [Value.ownBlock,Option.some.injEq] at D;subst D;exact ⟨dk,by have h1:=y9.lt;have h2:=bp.size;omega,fun e=>by have:=dj _ e;omega,fun e=>by have:=di _ e;omega⟩⟩
   clear k3 hB
   go_wp2_with (first
    |((with_reducible refine Qgl 58 ?_);refine Q0t (o:=⟨some 58,_,_,_,_,_⟩) (by rfl) (.tmp 55) (.tmp 57) 44 (by rfl) Q1i (Q1h (ps:=[(Value.slice (some ⟨w8.heap.size,0,none⟩) 32 32,sumB (cdN X))]) (fun q G=>by rw [mem_singleton] at G;rw [G];exact N.h)) (by rfl) F.oS (by rfl) de (by have:=F.z2.lt;omega) (by rw [ak.out];simp only [length_cons,length_nil];omega) (by rw [ak.out];simp only [length_cons,length_nil];unfold maxLen;omega) ?_;intro dS dW cf bR dn;obtain ⟨dD,dF,rfl,_⟩:=cf.form' (k+1) (by rw [length_append,ak.out];rfl);have y2:=F.z2.grown bR (F.oS.notT F.z2 (by decide));obtain ⟨x3,bx⟩:=y2.has 3 (by simp);have bs:=y2.free 3;have F:=F.grewS bR cf dn (fun q G=>by rw [mem_singleton] at G;rw [G];exact N)))
   go_roundw
   case rel=>exact ⟨k+1,_,_,_,_,by omega,by go_num,F,Qhd (by rw [map_append,HS.out,bd.out];rfl),Qhd (by rw [map_append,HR.out,bc.out,M7.out])⟩
   case measure=>simp [intOf];omega
  obtain rfl:k=L:=by omega
  have aQ:=HS.out;have bL:=HR.out;have bn:ap.length=k:=by
   have:=congrArg List.length aQ;rw [length_map,Ql4 kd ks k (by rw [bf.out];exact le_refl _)] at this;exact this
  have bq:=Qun kd pv p vv v kv ks;have al:=Qur kd pv p vv v kv ks;rw [bf.out] at bq al;obtain ⟨sa,sc,rfl,_⟩:=F.oS.form' k bn;obtain ⟨H,bm⟩:=Qe (if shOk kd p v (smK kd ks k)=true then shB kd p v (smK kd ks k) else []);have br:cdN (.mk kd pv p vv v kv ks)=H:=by rw [bq,bm]
  have cK:Hid (alN (.mk kd pv p vv v kv ks)=H::alK kd ks k):=Qhd (by rw [al,br]);have cL:=Qhd br;obtain ⟨d8,bY⟩:∃ x:Int,x=if shOk kd p v (smK kd ks k)=true then 0 else 1:=⟨_,rfl⟩
  have Ci:Hid (∀ x,Below wr.heap.size wr x->Calls Tryz.prog 130 #[.agg #[.int .i64 kd,.slice U M V,.slice W O Z,.slice sa k sc]] x fun e w'=>∃ cv,e=.returned (.tuple #[cv,.int .i64 d8])/\Q02 w' cv H/\(∀ j,cv.ownBlock=some j->x.heap.size<=j/\j<w'.heap.size)/\Below x.heap.size x w'/\H.length<=1000000000):=Qhd fun x hb=>by
   have:=Qqg kd U W sa M V O Z k sc p v ap cQ.out cT.out bn x ((Hp.out.below aw.out).below hb) ((Hv.out.below aw.out).below hb) ⟨F.oS.row.below hb,fun q G=>(F.tS q G).h.below hb⟩ (by omega) hV hK (fun q G=>Qte kd ks k _ (by rw [<-aQ];exact mem_map.2 ⟨q,G,rfl⟩));rw [aQ] at this;rw [bm,bY];exact this
  obtain ⟨rn,bw⟩:=Qe ((ps++(Value.slice none 0 0,[])::a6).length);have dd:E<rn:=by rw [bw,bh.out,length_append,length_cons];omega
  have dM:(E:Int)<(rn:Int):=by omega
  obtain ⟨ra,rc,rfl,_⟩:=F.oR.form' rn bw.symm;obtain ⟨gR,rfl,dJ,dK⟩:=F.oR.lies (by omega);have cG:=Qhd bL;have dg:=F.bt.size;clear HS HR bq al bY bm bn aQ bL bw br
  go_wp2_with (first
   |((with_reducible refine Qgl 62 ?_);refine Qla 134 6 z Q0a F.z2 (by rfl) ?_)
   |(go_at_call 130;refine (Ci.out _ (Below.refl _ _)).mono ?_;rintro e ba ⟨cv,rfl,hc,fc,cX,lc⟩;have F:=F.kept cX;have cg:ba.cell? ⟨g,0,none⟩=some (.slice (some ⟨gR,0,none⟩) rn rc):=F.zg.cell 0;obtain ⟨⟨xR,dO⟩,dI⟩:=F.oR.has Q96 E dd;obtain ⟨ca,S,rfl,_⟩:=hc.form))
  go_ret;have gS:=Qg4 ba gR E (.slice ca H.length S);have df:(ps++(Value.slice none 0 0,[])::a6).set E (Value.slice ca H.length S,H)=ps++(Value.slice ca H.length S,H)::a6:=by
   rw [bh.out,List.set_append_right _ _ (le_refl _),Nat.sub_self];rfl
  have oP:=F.oR.put Q96 E (Value.slice ca H.length S,H);rw [df] at oP;have db:gR≠g:=fun e=>F.oR.notT F.zg (by decide) (by rw [e];rfl);have bX:Q02 (ba.setCell ⟨gR,E,none⟩ (.slice ca H.length S)) (.slice ca H.length S) H:=Q05.grownT hc gS (fun j D=>(fc j D).2) (fun j D e=>by have:=(fc j D).1;simp only [Option.some.injEq] at e;omega);have bZ:∀ j,(Value.slice ca H.length S).ownBlock=some j->w.heap.size<=j/\j<(ba.setCell ⟨gR,E,none⟩ (.slice ca H.length S)).heap.size/\(Value.slice (some ⟨gR,0,none⟩) rn rc).ownBlock≠some j:=fun j D=>⟨le_trans dg (fc j D).1,by rw [World.size_setCell];exact (fc j D).2,fun e=>by simp only [Value.ownBlock,Option.some.injEq] at e;have:=(fc j D).1;omega⟩;rw [cL.out,cK.out];refine ⟨_,_,(Value.slice ca H.length S,H)::a6,rfl,bX,lc,bZ,F.zg.other _ (by show gR≠g;exact db) _,oP,by rw [map_cons,cG.out],fun q G=>?_,F.pv,F.bt.grown gS (fun j D=>by cases D;exact .inr (F.pv gR rfl))⟩;rcases mem_cons.1 G with rfl|G
  ·exact ⟨bX,lc,bZ⟩
  have t:=F.tR q G;have dP:=F.zl;exact ⟨Q05.grownT t.h gS (fun j D=>(t.b j D).2.1) (fun j D=>(t.b j D).2.2.2),t.l,fun j D=>⟨by have:=(t.b j D).1;omega,by rw [World.size_setCell];exact (t.b j D).2.1,(t.b j D).2.2.2⟩⟩
theorem Q9w:∀ (n:Nat)(t:Nd),SizeOf.sizeOf t<=n->FnN t->CdC t
 | 0,.mk kd pv p vv v kv ks,h,_=>by simp at h
 | n+1,.mk kd pv p vv v kv ks,h,hF=>by
  obtain ⟨fp,fv,fk,H⟩:=hF.inv;intro G w g E v0 ps K L O I J U T S N;obtain ⟨z,D,y,M⟩:=K.inv;simp only [Q15] at N S;obtain ⟨Z,pc,rfl,_,_⟩:=z.form;obtain ⟨va,vc,rfl,_,_⟩:=D.form;obtain ⟨V,W,rfl,_,_⟩:=y.form;exact Qk3 kd Z va V p.length pc v.length vc ks.length W p v ks rfl rfl rfl G w z D y M g E v0 ps L O I J U T (by omega) (by omega) (by omega) (by omega) (by omega) (fun k y=>Q9w n k (by
   have:=List.sizeOf_lt_of_mem y;simp only [Nd.mk.sizeOf_spec] at h;omega) (H k y)) _ _ _
end Go.Proofs.YtbdmkfjgnjfjbaaGreat
