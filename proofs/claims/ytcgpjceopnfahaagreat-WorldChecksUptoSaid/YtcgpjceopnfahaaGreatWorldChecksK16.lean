/- The reference's treeCodes: roads and forks (not finished). | The reference's treeCodes of any node that counts. | root.codes: what lies there while the kids are -/
import Derived.Test.YtcgpjceopnfahaaGreatWorldChecksK15
import Derived.Deep.Cut
set_option linter.unusedSimpArgs false
set_option linter.unusedVariables false
set_option maxHeartbeats 4000000
set_option maxRecDepth 100000
namespace Go.Proofs.YtcgpjceopnfahaaGreat
open Go.RowKit
theorem smN_le:∀ (ks:List Nd),∀ l∈smN ks,l.length≤1048576
 | [],l,h=>by rw [smN] at h;simp at h
 | k::ks,l,h=>by
  rw [smN] at h
  rcases List.mem_cons.1 h with rfl|h
  ·split
   ·simp
   ·rw [show (sumB (cdN k)).length=32 from by unfold sumB;rw [outB_len]];omega
  ·exact smN_le ks l h
mutual
theorem alN_len:∀ (t:Nd),(alN t).length≤bulkN t
 | .mk kd pv p vv v kv ks=>by
  rw [alN,bulkN,List.length_cons]
  have:=alL_len ks
  split
  ·simp;omega
  ·omega
theorem alL_len:∀ (ks:List Nd),(alL ks).length≤bulkNL ks
 | []=>by rw [alL,bulkNL];simp
 | k::ks=>by
  rw [alL,bulkNL,List.length_append]
  have h1:=alN_len k
  have h2:=alL_len ks
  split
  ·simp;omega
  ·omega
end
theorem bulkNL_app:∀ (a b:List Nd),bulkNL (a++b)=bulkNL a+bulkNL b
 | [],b=>by rw [List.nil_append,bulkNL];omega
 | x::a,b=>by rw [List.cons_append,bulkNL,bulkNL,bulkNL_app a b];omega
theorem bulkNL_pre (ks:List Nd)(k:Nat):bulkNL (ks.take k)≤bulkNL ks:=by
 have:=bulkNL_app (ks.take k) (ks.drop k)
 rw [List.take_append_drop] at this;omega
theorem cons_of {ps:List (Value × List UInt8)}{c:List UInt8}{l:List (List UInt8)}(h:ps.map (·.2)=c::l):∃ v ps',ps=(v,c)::ps'∧ps'.map (·.2)=l:=by
 cases ps with
 | nil=>simp at h
 | cons q ps =>
  simp only [List.map_cons,List.cons.injEq] at h
  exact ⟨q.1,ps,by rw [←h.1],h.2⟩
def OneX (v:Value)(t:List UInt8):Ty:=fun u w=>∃ g,u=.slice (some ⟨g,0,none⟩) 1 1∧RowOf tcell 1 w u [(v,t)]
theorem OneX.mono (v:Value)(t:List UInt8):Mono (OneX v t):=fun _ _ _ ⟨g,h1,h2⟩ hb=>⟨g,h1,RowOf.kept h2 hb⟩
theorem one_tcell:One tcell (fun q=>q.1):=fun _=>rfl
theorem hash_bytes {w:World}{g:Nat}{l:List UInt8}(h:Blk 30 w g (l.map u8v))(hl:l.length=32):Bytes w (.slice (some ⟨g,0,none⟩) 32 32) l :=
 Blk.row h l 32 32 (fun _=>rfl) hl (fun j u hu=>by rw [←hu,one_u8.map]) (Nat.le_refl _) (by unfold maxLen;omega)
structure TxC (z:Nat)(kv rv:Value)(u:World)(q:Value × List UInt8):Prop where
 h:Bytes u q.1 q.2
 l:q.2.length≤1000000000
 b:∀ k,q.1.ownBlock=some k→z<k∧k<u.heap.size∧kv.ownBlock≠some k∧rv.ownBlock≠some k
theorem TxC.kept {z:Nat}{kv rv:Value}{u u':World}{q:Value × List UInt8}(h:TxC z kv rv u q)(hb:Below u.heap.size u u'):TxC z kv rv u' q :=
 ⟨h.h.kept hb,h.l,fun k hk=>⟨(h.b k hk).1,Nat.lt_of_lt_of_le (h.b k hk).2.1 hb.size,(h.b k hk).2.2⟩⟩
theorem TxC.grewS {z:Nat}{kv kv' rv:Value}{u u':World}{q:Value × List UInt8}(h:TxC z kv rv u q)(hg:u.grownBy u' kv.ownBlock)(hp:∀ k,kv'.ownBlock=some k→kv.ownBlock=some k∨u.heap.size≤k):TxC z kv' rv u' q :=
 ⟨RowOf.grownT h.h hg (fun k hk=>(h.b k hk).2.1) (fun k hk=>(h.b k hk).2.2.1),h.l,fun k hk=>⟨(h.b k hk).1,Nat.lt_of_lt_of_le (h.b k hk).2.1 hg.size,fun e=>(hp k e).elim (h.b k hk).2.2.1 (fun h1=>by have:=(h.b k hk).2.1;omega),(h.b k hk).2.2.2⟩⟩
theorem TxC.but {z g:Nat}{kv rv rv':Value}{u u':World}{q:Value × List UInt8}(h:TxC z kv rv u q)(hb:But2 g rv u u')(hg:g≤z)(hp:∀ k,rv'.ownBlock=some k→rv.ownBlock=some k∨u.heap.size≤k):TxC z kv rv' u' q :=
 ⟨RowOf.but h.h hb (fun e=>by have:=(h.b _ e).1;omega) (fun x hx=>(h.b x hx).2.2.2),h.l,fun k hk=>⟨(h.b k hk).1,Nat.lt_of_lt_of_le (h.b k hk).2.1 hb.size,(h.b k hk).2.2.1,fun e=>(hp k e).elim (h.b k hk).2.2.2 (fun h1=>by have:=(h.b k hk).2.1;omega)⟩⟩
theorem TxC.set {z:Nat}{kv rv:Value}{u:World}{q:Value × List UInt8}(h:TxC z kv rv u q)(i:Nat)(v:Value):TxC z kv rv (u.setCell ⟨z,i,none⟩ v) q :=
 ⟨RowOf.grownT h.h (gsetT u _ i v) (fun k hk=>(h.b k hk).2.1) (fun k hk e=>by have:=(h.b k hk).1;simp only [Option.some.injEq] at e;omega),h.l,fun k hk=>by have:=h.b k hk;simpa only [World.size_setCell] using this⟩
structure CdW (w:World)(N4:List Value)(kd:Int)(P V:Value)(g B0 z:Nat)(v0:Value)(ps:List (Value × List UInt8))(kv rv:Value)(sums rest:List (Value × List UInt8))(u:World):Prop where
 bt:But2 g v0 w u
 pv:∀ k,rv.ownBlock=some k→v0.ownBlock=some k∨w.heap.size≤k
 gl:g<w.heap.size
 zl:w.heap.size<z
 z1:Blk 70 u w.heap.size N4
 z2:Blk 133 u z [.int .i64 kd,P,V,kv]
 zg:Blk 44 u g [rv]
 oS:OwnOf tcell 1 25 u (z+1) kv sums
 oR:OwnOf tcell 1 25 u B0 rv (ps++(.slice none 0 0,[])::rest)
 ne:∀ k,kv.ownBlock=some k→rv.ownBlock≠some k
 tS:∀ q∈sums,TxC z kv rv u q
 tR:∀ q∈rest,TxC z kv rv u q
def CdPost (C:List UInt8)(A:List (List UInt8))(g B0:Nat)(v:Value)(ps:List (Value × List UInt8))(w:World)(e:Ending)(w':World):Prop :=
 ∃ cv v' ps',e=.returned cv∧Bytes w' cv C∧C.length≤1000000000∧(∀ k,cv.ownBlock=some k→w.heap.size≤k∧k<w'.heap.size∧v'.ownBlock≠some k)∧Blk 44 w' g [v']∧OwnOf tcell 1 25 w' B0 v' (ps++ps')∧ps'.map (·.2)=A ∧
  (∀ q∈ps',Bytes w' q.1 q.2∧q.2.length≤1000000000∧∀ k,q.1.ownBlock=some k→w.heap.size≤k∧k<w'.heap.size∧v'.ownBlock≠some k)∧(∀ k,v'.ownBlock=some k→v.ownBlock=some k∨w.heap.size≤k)∧But2 g v w w'
section
variable {w:World} {N4:List Value} {kd:Int} {P V kv kv' v0 rv rv':Value} {g B0 z:Nat} {ps sums rest sums' rest':List (Value × List UInt8)} {u u':World}
theorem CdW.kept (h:CdW w N4 kd P V g B0 z v0 ps kv rv sums rest u)(hb:Below u.heap.size u u'):CdW w N4 kd P V g B0 z v0 ps kv rv sums rest u' :=
 ⟨h.bt.kept hb,h.pv,h.gl,h.zl,h.z1.kept hb,h.z2.kept hb,h.zg.kept hb,h.oS.kept hb,h.oR.kept hb,h.ne,fun q hq=>(h.tS q hq).kept hb,fun q hq=>(h.tR q hq).kept hb⟩
theorem CdW.grewS (h:CdW w N4 kd P V g B0 z v0 ps kv rv sums rest u)(hg:u.grownBy u' kv.ownBlock)(ho:OwnOf tcell 1 25 u' (z+1) kv' (sums++sums'))(hp:∀ k,kv'.ownBlock=some k→kv.ownBlock=some k∨u.heap.size≤k)(hn:∀ q∈sums',TxC z kv rv u q) :
  CdW w N4 kd P V g B0 z v0 ps kv' rv (sums++sums') rest (u'.setCell ⟨z,3,none⟩ kv'):=by
 have hzl:=h.zl
 have hgl:=h.gl
 have y1:=h.z1.grown hg (h.oS.notT h.z1 (by decide))
 have y2:=h.z2.grown hg (h.oS.notT h.z2 (by decide))
 have yg:=h.zg.grown hg (h.oS.notT h.zg (by decide))
 have oR:=h.oR.grown hg (fun k hk e=>h.ne k hk e)
 have hb:=h.bt.grown hg (fun k hk=>.inr (.inr (by have:=OwnOf.lt h.oS k hk;omega)))
 have g2:=gsetT u' z 3 kv'
 have y3:=y2.set 3 kv'
 refine ⟨hb.grown g2 (fun k hk=>.inr (.inr (by cases hk;omega))),h.pv,h.gl,h.zl,y1.other _ (by show z≠w.heap.size;omega) _,y3,yg.other _ (by show z≠g;omega) _,ho.grown g2 (fun k hk=>by cases hk;exact ho.notT y2 (by decide)),oR.grown g2 (fun k hk=>by cases hk;exact oR.notT y2 (by decide)),fun k hk e=>(hp k hk).elim (fun h1=>h.ne k h1 e) (fun h1=>by have:=OwnOf.ltT h.oR k e;omega),fun q hq=>?_,fun q hq=>((h.tR q hq).grewS hg hp).set 3 kv'⟩
 rcases List.mem_append.1 hq with hq|hq
 ·exact ((h.tS q hq).grewS hg hp).set 3 kv'
 ·exact ((hn q hq).grewS hg hp).set 3 kv'
theorem CdW.call (h:CdW w N4 kd P V g B0 z v0 ps kv rv sums rest u)(hb:But2 g rv u u')(hz:Blk 44 u' g [rv'])(ho:OwnOf tcell 1 25 u' B0 rv' ((ps++(.slice none 0 0,[])::rest)++rest'))(hp:∀ k,rv'.ownBlock=some k→rv.ownBlock=some k∨u.heap.size≤k)
  (hn:∀ q∈rest',Bytes u' q.1 q.2∧q.2.length≤1000000000∧∀ k,q.1.ownBlock=some k→u.heap.size≤k∧k<u'.heap.size∧rv'.ownBlock≠some k):CdW w N4 kd P V g B0 z v0 ps kv rv' sums (rest++rest') u':=by
 have hzl:=h.zl
 have hgl:=h.gl
 have hz2:=h.z2.lt
 refine ⟨h.bt.trans h.pv hb,fun k hk=>(hp k hk).elim (h.pv k) (fun h1=>.inr (Nat.le_trans h.bt.size h1)),h.gl,h.zl,h.z1.but hb (by omega) (h.oR.notT h.z1 (by decide)),h.z2.but hb (by omega) (h.oR.notT h.z2 (by decide)),hz,h.oS.but hb (fun e=>by have:=OwnOf.lt h.oS _ e;omega) (h.ne),by rw [List.append_assoc] at ho;exact ho,
  fun k hk e=>(hp k e).elim (h.ne k hk) (fun h1=>by have:=OwnOf.ltT h.oS k hk;omega),fun q hq=>(h.tS q hq).but hb (by omega) hp,fun q hq=>?_⟩
 rcases List.mem_append.1 hq with hq|hq
 ·exact (h.tR q hq).but hb (by omega) hp
 ·obtain ⟨k1,k2,k3⟩:=hn q hq
  exact ⟨k1,k2,fun k hk=>⟨by have:=(k3 k hk).1;omega,(k3 k hk).2.1,fun e=>by have h1:=OwnOf.ltT h.oS k e;have h2:=(k3 k hk).1;omega,(k3 k hk).2.2⟩⟩
end
def smK (kd:Int)(ks:List Nd)(k:Nat):List (List UInt8):=if kd=1 then List.replicate k [] else smN (ks.take k)
def alK (kd:Int)(ks:List Nd)(k:Nat):List (List UInt8):=if kd=1 then [] else alL (ks.take k)
theorem cdN_K (kd:Int)(pv:Value)(p:List UInt8)(vv:Value)(v:List UInt8)(kv:Value)(ks:List Nd):cdN (.mk kd pv p vv v kv ks)=if shOk kd p v (smK kd ks ks.length)=true then shB kd p v (smK kd ks ks.length) else []:=by
 rw [cdN,smK,List.take_length]
 by_cases h:kd=1
 ·subst h
  rw [if_pos rfl,if_pos rfl,shOk_leaf p v [] (List.replicate ks.length []),shB_leaf p v [] (List.replicate ks.length [])]
 ·rw [if_neg h,if_neg h]
theorem alN_K (kd:Int)(pv:Value)(p:List UInt8)(vv:Value)(v:List UInt8)(kv:Value)(ks:List Nd):alN (.mk kd pv p vv v kv ks)=cdN (.mk kd pv p vv v kv ks)::alK kd ks ks.length:=by
 rw [alN,alK,List.take_length]
theorem smK_le (kd:Int)(ks:List Nd)(k:Nat):∀ l∈smK kd ks k,l.length≤1048576:=by
 intro l h
 unfold smK at h
 split at h
 ·rw [List.eq_of_mem_replicate h];simp
 ·exact smN_le _ l h
theorem smK_len (kd:Int)(ks:List Nd)(k:Nat)(hk:k≤ks.length):(smK kd ks k).length=k:=by
 unfold smK
 split
 ·simp
 ·rw [smN_len,List.length_take];omega
def CdC (t:Nd):Prop:=∀ (W0 w:World) (g B0:Nat) (v:Value) (ps:List (Value × List UInt8)),IsNd W0 t→Below W0.heap.size W0 w→W0.heap.size≤g→W0.heap.size≤B0→B0≤w.heap.size→Blk 44 w g [v]→OwnOf tcell 1 25 w B0 v ps→ps.length+bulkN t≤20000000000→bulkN t≤10000000000 →
 Calls Tryz.prog 104 #[.agg (ndcells t).toArray,.pointer (some ⟨g,0,none⟩)] w (CdPost (cdN t) (alN t) g B0 v ps w)
theorem codes_step (kd:Int)(pa va ka:Option Addr)(pn pc vn vc kn kc:Nat)(p v:List UInt8)(ks:List Nd)(hpn:p.length=pn)(hvn:v.length=vn)(hkn:ks.length=kn)(W0 w:World)(hp:Bytes W0 (.slice pa pn pc) p)(hv:Bytes W0 (.slice va vn vc) v)(hk:RowOf ndcells 4 W0 (.slice ka kn kc) ks)
  (hks:∀ k∈ks,IsNd W0 k) (g B0:Nat) (v0:Value) (ps:List (Value × List UInt8)) (hW:Below W0.heap.size W0 w) (hg0:W0.heap.size≤g) (hB0:W0.heap.size≤B0) (hBw:B0≤w.heap.size) (hz:Blk 44 w g [v0]) (ho:OwnOf tcell 1 25 w B0 v0 ps) (hln:ps.length+1+bulkNL ks≤20000000000) (hBk:bulkNL ks≤10000000000) (hP:pn≤1048576) (hV:vn≤1048576) (hK:kn≤1048576)
  (ih:∀ k∈ks,CdC k) (pv vv kv:Value) :
  Calls Tryz.prog 104 #[.agg #[.int .i64 kd,.slice pa pn pc,.slice va vn vc,.slice ka kn kc],.pointer (some ⟨g,0,none⟩)] w (CdPost (cdN (.mk kd pv p vv v kv ks)) (alN (.mk kd pv p vv v kv ks)) g B0 v0 ps w):=by
 obtain ⟨w1,hw1⟩:∃ w1,w1=w.alloc (.cells #[.int .i64 kd,.slice pa pn pc,.slice va vn vc,.slice ka kn kc] 70):=⟨_,rfl⟩
 have z1:Blk 70 w1 w.heap.size [.int .i64 kd,.slice pa pn pc,.slice va vn vc,.slice ka kn kc]:=by rw [hw1];exact Blk.new w _ _
 have hbel:Below w.heap.size w w1:=by rw [hw1];exact (Below.refl _ _).alloc (Nat.le_refl _) _
 have zg1:=hz.kept hbel
 have o1:=ho.kept hbel
 have hgl:=hz.lt
 obtain ⟨n0,hn0⟩:∃ n,n=ps.length:=⟨_,rfl⟩
 obtain ⟨a0,k0,rfl,_⟩:=ho.form' n0 hn0.symm
 have cg:=zg1.cell 0
 have Hw1:=Lib.hid hw1
 have Hbel:=Lib.hid hbel
 have Hk:=Lib.hid hk
 have Hks:=Lib.hid hks
 have IH:=Lib.hid ih
 have Hkn:=Lib.hid hkn
 have Hp:=Lib.hid hp
 have Hv:=Lib.hid hv
 have Hpn:=Lib.hid hpn
 have Hvn:=Lib.hid hvn
 have HW:=Lib.hid hW
 have Hln:=Lib.hid hln
 have Hn0:=Lib.hid hn0
 have Ho:=Lib.hid ho
 have HBk:=Lib.hid hBk
 clear hw1 hbel hk hks ih hkn hp hv hpn hvn hW hln hn0 ho hz hBk
 go_enter Tryz.func104,Tryz.ntmps104
 go_upto_region 3 with (first
  |(rw [←Hw1.out];have cg:w1.cell? ⟨g,0,none⟩=some (.slice a0 n0 k0):=cg)
  |((with_reducible show wpList _ _ _ (⟨some 20,_,_,_,_,_⟩::_) _ _);refine wpList_buildW (o:=⟨some 20,_,_,_,_,_⟩) (by rfl) 44 1 [(0,.const (.slice none 0 0))] (by rfl) elText [(.slice none 0 0,[])] [.slice none 0 0] (by rfl) (by rfl) (by rfl) (by omega) (by omega) ?_;intro w2 _ r2 b2;have zg2:=zg1.kept b2;have o2:=o1.kept b2)
  |((with_reducible show wpList _ _ _ (⟨some 21,_,_,_,_,_⟩::_) _ _);refine wpList_appB (o:=⟨some 21,_,_,_,_,_⟩) (by rfl) (.tmp 19) (.tmp 20) 44 (by rfl) elText (by intro u hu;simp [tcell] at hu;subst hu;rfl) (by rfl) o2 (by rfl) r2 (by have:=b2.size;have:=Hbel.out.size;omega) (by have:=Hln.out;simp only [List.length_cons,List.length_nil];omega) (by have:=Hln.out;simp only [List.length_cons,List.length_nil];unfold maxLen;omega) ?_;intro v3 w3 o3 g3 p3;obtain ⟨a3,c3,rfl,_⟩:=o3.form' (n0+1) (by rw [List.length_append,Hn0.out];rfl);have yg:=zg2.grown g3 (o2.notT zg2 (by decide));obtain ⟨x3,hx3⟩:=yg.has 0 (by simp);have hf3:=yg.free 0))
 obtain ⟨w4,hw4⟩:∃ x,x=w3.setCell ⟨g,0,none⟩ (.slice a3 (n0+1) c3):=⟨_,rfl⟩
 rw [←hw4]
 have g4:=gsetT w3 g 0 (.slice a3 (n0+1) c3)
 have z3:=(z1.kept b2).grown g3 (o2.notT (z1.kept b2) (by decide))
 rw [←hw4] at g4
 have bt4:But2 g (.slice a0 n0 k0) w w4:=((((But2.refl g (.slice a0 n0 k0) w).kept Hbel.out).kept b2).grown g3 (fun k hk=>.inr (.inl hk))).grown g4 (fun k hk=>.inl (by cases hk;rfl))
 have pv4:∀ k,(Value.slice a3 (n0+1) c3).ownBlock=some k→(Value.slice a0 n0 k0).ownBlock=some k∨w.heap.size≤k:=fun k hk=>(p3 k hk).imp_right (fun h=>Nat.le_trans (Nat.le_trans Hbel.out.size b2.size) h)
 have z4:Blk 70 w4 w.heap.size [.int .i64 kd,.slice pa pn pc,.slice va vn vc,.slice ka kn kc]:=z3.grown g4 (by simp;omega)
 have zg4:Blk 44 w4 g [.slice a3 (n0+1) c3]:=by rw [hw4];exact yg.set 0 _
 have o4:=o3.grown g4 (fun k hk=>by cases hk;exact o3.notT yg (by decide))
 have zl4:w.heap.size<w4.heap.size:=z4.lt
 have d0:w4.cell? ⟨w.heap.size,0,none⟩=some (.int .i64 kd):=z4.cell 0
 have d1:w4.cell? ⟨w.heap.size,1,none⟩=some (.slice pa pn pc):=z4.cell 1
 have d2:w4.cell? ⟨w.heap.size,2,none⟩=some (.slice va vn vc):=z4.cell 2
 clear hw4 g4 z3 yg hx3 hf3 o3 p3 g3 zg2 o2 r2 b2 cg zg1 o1 z1
 go_wp2_with (first
  |((with_reducible show wpList _ _ _ (⟨none,.store _ _ (.tmp 29),_,_,_,_⟩::_) _ _);refine wpList_storeA (o:=⟨none,_,_,_,_,_⟩) (by rfl) 133 (.tmp 6) (.tmp 29) (by rfl) w4.heap.size [.int .i64 kd,.slice pa pn pc,.slice va vn vc,.slice none 0 0] (by rfl) (by rfl) aggShape (old:=[.int .i64 0,.slice none 0 0,.slice none 0 0,.slice none 0 0]) (Blk.new w4 _ _) (by rfl) (by rfl) (by intro u hu;simp at hu;rcases hu with rfl|rfl|rfl|rfl<;>rfl) ((Below.refl w4.heap.size w4).alloc (Nat.le_refl _) _) (Nat.le_refl _) ?_;intro w5 z5 b5 _;have y5:=z4.kept b5;have d3:w5.cell? ⟨w.heap.size,3,none⟩=some (.slice ka kn kc):=y5.cell 3))
 have F:CdW w [.int .i64 kd,.slice pa pn pc,.slice va vn vc,.slice ka kn kc] kd (.slice pa pn pc) (.slice va vn vc) g B0 w4.heap.size (.slice a0 n0 k0) ps (.slice none 0 0) (.slice a3 (n0+1) c3) [] [] w5 :=
  ⟨bt4.kept b5,pv4,hgl,zl4,y5,z5,zg4.kept b5,OwnOf.nil tcell 1 _ _ _,o4.kept b5,fun k hk=>by simp [Value.ownBlock] at hk,fun q hq=>absurd hq (by simp),fun q hq=>absurd hq (by simp)⟩
 obtain ⟨z,hz⟩:∃ z,z=w4.heap.size:=⟨_,rfl⟩
 rw [←hz] at F
 rw [←hz]
 clear hz bt4 pv4 z4 zg4 o4 zl4 d0 d1 d2 d3 y5 z5 b5
 try simp only [Act.put]
 go_loopw [33] (fun ix wr=>∃ (k:Nat) (sv rv:Value) (sums rest:List (Value × List UInt8)),k≤kn∧ix=.int .i64 (k:Int)∧CdW w [.int .i64 kd,.slice pa pn pc,.slice va vn vc,.slice ka kn kc] kd (.slice pa pn pc) (.slice va vn vc) g B0 z (.slice a0 n0 k0) ps sv rv sums rest wr∧Hid (sums.map (·.2)=smK kd ks k)∧Hid (rest.map (·.2)=alK kd ks k)) (fun ix _=>kn - (intOf ix).toNat)
 case atStart=>exact ⟨0,_,_,_,_,Nat.zero_le _,rfl,F,Lib.hid (by unfold smK;rw [List.take_zero,smN];simp),Lib.hid (by unfold alK;rw [List.take_zero,alL];simp)⟩
 case round =>
  clear F
  obtain ⟨k,sv,rv,sums,rest,hk,rfl,F,HS,HR⟩:=hrel
  have hWr:Below W0.heap.size W0 wr:=HW.out.trans (F.bt.below HW.out.size hg0 (fun j hj=>Nat.le_trans hB0 (OwnOf.lt Ho.out j hj)))
  have HWr:=Lib.hid hWr
  clear hWr
  by_cases hlt:k<kn
  ·have hki:(k:Int)<(kn:Int):=by omega
   have hlk:k<ks.length:=by rw [Hkn.out];exact hlt
   obtain ⟨b,off,rfl,hr⟩:=RowOf.range ndcells_len (Hk.out.below HWr.out) k hlk
   obtain ⟨x,hx⟩:∃ x,ks[k]=x:=⟨_,rfl⟩
   have hxm:x∈ks:=by rw [←hx];exact List.getElem_mem hlk
   have HT:Hid (ks.take (k+1)=ks.take k++[x]):=Lib.hid (by rw [List.take_add_one,List.getElem?_eq_getElem hlk,hx];rfl)
   rw [hx] at hr
   have ihx:=Lib.hid (IH.out x hxm)
   have hXn:=Lib.hid (Hks.out x hxm)
   obtain ⟨xk,xp,xpb,xv,xvb,xkv,xks⟩:=x
   change wr.rangeAt b (off+k*4) [.int .i64 xk,xp,xv,xkv] at hr
   obtain ⟨i1,i2,i3,_⟩:=hXn.out.inv
   obtain ⟨xpa,xpc,rfl,_⟩:=i1.form
   obtain ⟨xva,xvc,rfl,_⟩:=i2.form
   obtain ⟨xka,xkc,rfl,_⟩:=i3.form
   have HSl:sums.length=k:=by
    have:=congrArg List.length HS.out
    rw [List.length_map,smK_len kd ks k (by omega)] at this;exact this
   have hHSl:=Lib.hid HSl
   clear hx hxm hlk i1 i2 i3 HSl
   by_cases hx0:kd=1∨xk=0
   ·have n2:(kd==1)=true∨((kd==1)=false∧(xk==0)=true):=by
     by_cases h:kd=1
     ·left;rw [h];rfl
     ·right;exact ⟨by rw [beq_eq_false_iff_ne];exact h,by rw [beq_iff_eq];exact hx0.resolve_left h⟩
    have HSM:Hid (smK kd ks (k+1)=smK kd ks k++[[]]):=Lib.hid (by
     unfold smK
     by_cases h:kd=1
     ·rw [if_pos h,if_pos h,List.replicate_succ']
     ·rw [if_neg h,if_neg h,HT.out,smN_snoc,if_pos (by exact hx0.resolve_left h)])
    have HAL:Hid (alK kd ks (k+1)=alK kd ks k):=Lib.hid (by
     unfold alK
     by_cases h:kd=1
     ·rw [if_pos h,if_pos h]
     ·rw [if_neg h,if_neg h,HT.out,alL_snoc,if_pos (by exact hx0.resolve_left h),List.append_nil])
    clear hx0 ihx
    rcases n2 with n2|⟨n2,n3⟩
    all_goals
     go_wp2_with (first
      |((with_reducible show wpList _ _ _ (⟨some 36,_,_,_,_,_⟩::_) _ _);refine wpList_loadW (o:=⟨some 36,_,_,_,_,_⟩) 70 (.tmp 35) (by rfl) b (off+k*4) (by rfl) aggNode (by rfl) hr (by rfl) ?_)
      |((with_reducible show wpList _ _ _ (⟨none,.store _ _ (.tmp 36),_,_,_,_⟩::_) _ _);refine wpList_storeA (o:=⟨none,_,_,_,_,_⟩) (by rfl) 70 (.tmp 8) (.tmp 36) (by rfl) wr.heap.size [.int .i64 xk,.slice xpa xpb.length xpc,.slice xva xvb.length xvc,.slice xka xks.length xkc] (by rfl) (by rfl) aggNode (old:=[.int .i64 0,.slice none 0 0,.slice none 0 0,.slice none 0 0]) (Blk.new wr _ _) (by rfl) (by rfl) (by intro u hu;simp at hu;rcases hu with rfl|rfl|rfl|rfl<;>rfl) ((Below.refl wr.heap.size wr).alloc (Nat.le_refl _) _) (Nat.le_refl _) ?_;intro w6 y6 b6 _;have F:=F.kept b6;have q0:w6.cell? ⟨wr.heap.size,0,none⟩=some (.int .i64 xk):=y6.cell 0;have q1:w6.cell? ⟨w.heap.size,0,none⟩=some (.int .i64 kd):=F.z1.cell 0;have d3:w6.cell? ⟨z,3,none⟩=some sv:=F.z2.cell 3)
      |((with_reducible show wpList _ _ _ (⟨some 47,_,_,_,_,_⟩::_) _ _);refine wpList_buildW (o:=⟨some 47,_,_,_,_,_⟩) (by rfl) 44 1 [(0,.const (.slice none 0 0))] (by rfl) elText [(.slice none 0 0,[])] [.slice none 0 0] (by rfl) (by rfl) (by rfl) (by omega) (by omega) ?_;intro w7 _ r7 b7;have F:=F.kept b7)
      |((with_reducible show wpList _ _ _ (⟨some 48,_,_,_,_,_⟩::_) _ _);refine wpList_appB (o:=⟨some 48,_,_,_,_,_⟩) (by rfl) (.tmp 46) (.tmp 47) 44 (by rfl) elText (by intro u hu;simp [tcell] at hu;subst hu;rfl) (by rfl) F.oS (by rfl) r7 (by have:=F.z2.lt;omega) (by rw [hHSl.out];simp only [List.length_cons,List.length_nil];omega) (by rw [hHSl.out];simp only [List.length_cons,List.length_nil];unfold maxLen;omega) ?_;intro v8 w8 o8 g8 p8;obtain ⟨a8,c8,rfl,_⟩:=o8.form' (k+1) (by rw [List.length_append,hHSl.out];rfl);have y2:=F.z2.grown g8 (F.oS.notT F.z2 (by decide));obtain ⟨x3,hx3⟩:=y2.has 3 (by simp);have hf3:=y2.free 3;have F:=F.grewS g8 o8 p8 (fun q hq=>by rw [List.mem_singleton] at hq;subst hq;exact ⟨RowOf.nil b8 1 _,Nat.zero_le _,fun k hk=>by simp [Value.ownBlock] at hk⟩)))
     go_roundw
     case rel=>exact ⟨k+1,_,_,_,rest,by omega,by go_num,F,Lib.hid (by rw [List.map_append,HS.out,HSM.out];rfl),Lib.hid (by rw [HR.out,HAL.out])⟩
     case measure=>simp [intOf];omega
   ·have hk1:¬ kd=1:=fun e=>hx0 (.inl e)
    have hx1:¬ xk=0:=fun e=>hx0 (.inr e)
    have n1:(kd==1)=false:=by rw [beq_eq_false_iff_ne];exact hk1
    have n3:(xk==0)=false:=by rw [beq_eq_false_iff_ne];exact hx1
    obtain ⟨X,hX⟩:∃ X,X=Nd.mk xk (.slice xpa xpb.length xpc) xpb (.slice xva xvb.length xvc) xvb (.slice xka xks.length xkc) xks:=⟨_,rfl⟩
    have hsm:smK kd ks (k+1)=smK kd ks k++[sumB (cdN X)]:=by
     unfold smK;rw [if_neg hk1,if_neg hk1,HT.out,smN_snoc,←hX,if_neg (by rw [hX];exact hx1)]
    have hal:alK kd ks (k+1)=alK kd ks k++alN X:=by
     unfold alK;rw [if_neg hk1,if_neg hk1,HT.out,alL_snoc,←hX,if_neg (by rw [hX];exact hx1)]
    have hlen1:ps.length+1+rest.length+bulkN X≤20000000000∧bulkN X≤10000000000:=by
     have h1:=alL_len (ks.take k)
     have h2:=bulkNL_pre ks (k+1)
     have h3:=congrArg List.length HR.out
     have h4:=Hln.out
     have h5:=HBk.out
     have h6:=bulkNL_app (ks.take k) [Nd.mk xk (.slice xpa xpb.length xpc) xpb (.slice xva xvb.length xvc) xvb (.slice xka xks.length xkc) xks]
     rw [←HT.out,←hX,show bulkNL [X]=bulkN X from by rw [bulkNL,bulkNL];omega] at h6
     rw [List.length_map] at h3
     unfold alK at h3
     rw [if_neg hk1] at h3
     omega
    have cc:∀ (u:World) (rv':Value) (ps':List (Value × List UInt8)),Below W0.heap.size W0 u→B0≤u.heap.size→Blk 44 u g [rv']→OwnOf tcell 1 25 u B0 rv' ps'→ps'.length+bulkN X≤20000000000→Calls Tryz.prog 104 #[.agg #[.int .i64 xk,.slice xpa xpb.length xpc,.slice xva xvb.length xvc,.slice xka xks.length xkc],.pointer (some ⟨g,0,none⟩)] u (CdPost (cdN X) (alN X) g B0 rv' ps' u):=by
     intro u rv' ps' h1 h2 h3 h4 h5
     have:=ihx.out W0 u g B0 rv' ps' hXn.out h1 hg0 hB0 h2 h3 h4 (by rw [←hX];exact h5) (by rw [←hX];exact hlen1.2)
     rw [←hX] at this
     rw [hX] at this ⊢
     exact this
    obtain ⟨SH,hSH⟩:∃ SH,SH=(sumB (cdN X)).map u8v:=⟨_,rfl⟩
    have cs:=fun (a:Option Addr) (n c:Nat) (hn:(cdN X).length=n) (x:World) (hb:Bytes x (.slice a n c) (cdN X))=>sum_any a n c (cdN X) hn x hb
    simp only [←hSH] at cs
    have Cs:=Lib.hid cs
    have Cc:=Lib.hid cc
    have HSM:=Lib.hid hsm
    have HAL:=Lib.hid hal
    have HLen:=Lib.hid hlen1.1
    have HSHl:Hid (SH.length=32):=Lib.hid (by rw [hSH,List.length_map];exact outB_len _)
    have HSHo:Hid (∀ u∈SH,u.oneCell'=true):=Lib.hid (by rw [hSH];intro u hu;obtain ⟨y,_,rfl⟩:=List.mem_map.1 hu;rfl)
    have HSH:=Lib.hid hSH
    clear ihx hXn hX hk1 hx1 hsm hal hlen1 cs cc hSH hx0 hlt hk
    go_wp2_with (first
     |((with_reducible show wpList _ _ _ (⟨some 36,_,_,_,_,_⟩::_) _ _);refine wpList_loadW (o:=⟨some 36,_,_,_,_,_⟩) 70 (.tmp 35) (by rfl) b (off+k*4) (by rfl) aggNode (by rfl) hr (by rfl) ?_)
     |((with_reducible show wpList _ _ _ (⟨none,.store _ _ (.tmp 36),_,_,_,_⟩::_) _ _);refine wpList_storeA (o:=⟨none,_,_,_,_,_⟩) (by rfl) 70 (.tmp 8) (.tmp 36) (by rfl) wr.heap.size [.int .i64 xk,.slice xpa xpb.length xpc,.slice xva xvb.length xvc,.slice xka xks.length xkc] (by rfl) (by rfl) aggNode (old:=[.int .i64 0,.slice none 0 0,.slice none 0 0,.slice none 0 0]) (Blk.new wr _ _) (by rfl) (by rfl) (by intro u hu;simp at hu;rcases hu with rfl|rfl|rfl|rfl<;>rfl) ((Below.refl wr.heap.size wr).alloc (Nat.le_refl _) _) (Nat.le_refl _) ?_;intro w6 y6 b6 _;have F:=F.kept b6;have q0:w6.cell? ⟨wr.heap.size,0,none⟩=some (.int .i64 xk):=y6.cell 0;have q1:w6.cell? ⟨w.heap.size,0,none⟩=some (.int .i64 kd):=F.z1.cell 0)
     |((with_reducible show wpList _ _ _ (⟨some 50,_,_,_,_,_⟩::_) _ _);refine wpList_loadA (o:=⟨some 50,_,_,_,_,_⟩) (by rfl) 70 (.tmp 8) (by rfl) wr.heap.size (by rfl) aggNode y6 (by rfl) ?_)
     |(go_at_call 104;refine (Cc.out w6 rv _ (HWr.out.trans (b6.mono HWr.out.size)) (Nat.le_trans hBw F.bt.size) F.zg F.oR (by rw [List.length_append,List.length_cons];have:=HLen.out;omega)).mono ?_;rintro e w7 ⟨cv,rv7,PS,rfl,hc,lc,fc,zg7,o7,m7,t7,p7,bt7⟩;have F:=F.call bt7 zg7 o7 p7 t7;obtain ⟨ca,cc,rfl,_⟩:=hc.form;obtain ⟨qn,hqn⟩:∃ n,n=(cdN X).length:=⟨_,rfl⟩;rw [←hqn] at hc;rw [←hqn];have Hqn:=Lib.hid hqn;have M7:=Lib.hid m7;clear hqn m7)
     |(go_at_call 37;refine (Cs.out ca qn cc Hqn.out.symm _ hc).mono ?_;rintro e w8 ⟨rfl,b8⟩;have F:=F.kept b8;have hn9:=Blk.new w8 30 zh;have ls8:=OwnOf.ltT F.oS;have lr8:=OwnOf.ltT F.oR;have lz8:=F.z2.lt)
     |((with_reducible show wpList _ _ _ (⟨none,.store _ _ (.tmp 53),_,_,_,_⟩::_) _ _);refine wpList_storeA (o:=⟨none,_,_,_,_,_⟩) (by rfl) 30 (.tmp 9) (.tmp 53) (by rfl) w8.heap.size SH (by rfl) (by rfl) aggHash' hn9 HSHl.out (by rfl) HSHo.out ((Below.refl w8.heap.size w8).alloc (Nat.le_refl _) _) (Nat.le_refl _) ?_;intro w9 y9 b9 _;have F:=F.kept b9))
    have k3:=fun u:Ext w9=>u.cell ((F.z2.cell 3).trans (show _=some sv from rfl))
    refine wp_region_typed w9 4 (by kernel_rfl) (by kernel_rfl) (Below.refl _ _) ?_;simp only [List.take_succ_cons,List.take_zero,List.take_nil]
    iterate 3 (refine wpX_step (by rfl) (fun K hK=>?_);go_simp;first|(refine hK _ ?_;clear hK K)|(apply Exists.intro;refine ⟨fun _=>?_,hK _ ?_⟩;fail;clear hK K))
    refine wpX_rel 57 (OneX (.slice (some ⟨w8.heap.size,0,none⟩) 32 32) (sumB (cdN X))) rfl (of_decide_eq_true rfl) (OneX.mono _ _) (fun wx hwx=>?_) ?_
    ·change forallRel wx [] _ _
     simp only [forallRel]
     refine ⟨rfl,?_⟩
     go_simp
     exact ⟨(Below.refl _ _).alloc (Nat.le_refl _) _,wx.heap.size,rfl,Row.built (f:=tcell) (size:=1) (fun _=>rfl) wx 25 [(.slice (some ⟨w8.heap.size,0,none⟩) 32 32,sumB (cdN X))] 1 rfl (by unfold maxLen;omega)⟩
    refine wpX_nil ?_
    intro u2 hb2 v57 h57
    change wpList _ _ _ [_,_,_] _ _
    obtain ⟨g57,rfl,hr57⟩:=h57
    have F:=F.kept hb2
    have hB:Bytes u2 (.slice (some ⟨w8.heap.size,0,none⟩) 32 32) (sumB (cdN X)):=hash_bytes (by have:=y9.kept hb2;rwa [HSH.out] at this) (outB_len _)
    have N:TxC z sv rv7 u2 (.slice (some ⟨w8.heap.size,0,none⟩) 32 32,sumB (cdN X)):=⟨hB,by rw [show (sumB (cdN X)).length=32 from outB_len _];omega,fun j hj=>by
     simp only [Value.ownBlock,Option.some.injEq] at hj
     subst hj
     exact ⟨lz8,by have h1:=y9.lt;have h2:=hb2.size;omega,fun e=>by have:=ls8 _ e;omega,fun e=>by have:=lr8 _ e;omega⟩⟩
    clear k3 hB
    go_wp2_with (first
     |((with_reducible show wpList _ _ _ (⟨some 58,_,_,_,_,_⟩::_) _ _);refine wpList_appB (o:=⟨some 58,_,_,_,_,_⟩) (by rfl) (.tmp 55) (.tmp 57) 44 (by rfl) elText (texts_one (ps:=[(Value.slice (some ⟨w8.heap.size,0,none⟩) 32 32,sumB (cdN X))]) (fun q hq=>by rw [List.mem_singleton] at hq;rw [hq];exact N.h)) (by rfl) F.oS (by rfl) hr57 (by have:=F.z2.lt;omega) (by rw [hHSl.out];simp only [List.length_cons,List.length_nil];omega) (by rw [hHSl.out];simp only [List.length_cons,List.length_nil];unfold maxLen;omega) ?_;intro v10 w10 o10 g10 p10;obtain ⟨a10,c10,rfl,_⟩:=o10.form' (k+1) (by rw [List.length_append,hHSl.out];rfl);have y2:=F.z2.grown g10 (F.oS.notT F.z2 (by decide));obtain ⟨x3,hx3⟩:=y2.has 3 (by simp);have hf3:=y2.free 3;have F:=F.grewS g10 o10 p10 (fun q hq=>by rw [List.mem_singleton] at hq;rw [hq];exact N)))
    go_roundw
    case rel=>exact ⟨k+1,_,_,_,_,by omega,by go_num,F,Lib.hid (by rw [List.map_append,HS.out,HSM.out];rfl),Lib.hid (by rw [List.map_append,HR.out,HAL.out,M7.out])⟩
    case measure=>simp [intOf];omega
  ·obtain rfl:k=kn:=by omega
   have HSe:=HS.out
   have HRe:=HR.out
   have hSl:sums.length=k:=by
    have:=congrArg List.length HSe
    rw [List.length_map,smK_len kd ks k (by rw [Hkn.out];exact Nat.le_refl _)] at this;exact this
   have hcd:=cdN_K kd pv p vv v kv ks
   have hal:=alN_K kd pv p vv v kv ks
   rw [Hkn.out] at hcd hal
   obtain ⟨sa,sc,rfl,_⟩:=F.oS.form' k hSl
   obtain ⟨CB,hCB⟩:∃ B,B=if shOk kd p v (smK kd ks k)=true then shB kd p v (smK kd ks k) else []:=⟨_,rfl⟩
   have hcd':cdN (.mk kd pv p vv v kv ks)=CB:=by rw [hcd,hCB]
   have HalE:Hid (alN (.mk kd pv p vv v kv ks)=CB::alK kd ks k):=Lib.hid (by rw [hal,hcd'])
   have HcdE:=Lib.hid hcd'
   obtain ⟨er',her⟩:∃ x:Int,x=if shOk kd p v (smK kd ks k)=true then 0 else 1:=⟨_,rfl⟩
   have Ci:Hid (∀ x,Below wr.heap.size wr x→Calls Tryz.prog 130 #[.agg #[.int .i64 kd,.slice pa pn pc,.slice va vn vc,.slice sa k sc]] x fun e w'=>∃ cv,e=.returned (.tuple #[cv,.int .i64 er'])∧Bytes w' cv CB∧(∀ j,cv.ownBlock=some j→x.heap.size≤j∧j<w'.heap.size)∧Below x.heap.size x w'∧CB.length≤1000000000):=Lib.hid fun x hb=>by
    have:=code_own kd pa va sa pn pc vn vc k sc p v sums Hpn.out Hvn.out hSl x ((Hp.out.below HWr.out).below hb) ((Hv.out.below HWr.out).below hb) ⟨F.oS.row.below hb,fun q hq=>(F.tS q hq).h.below hb⟩ (by omega) hV hK (fun q hq=>smK_le kd ks k _ (by rw [←HSe];exact List.mem_map.2 ⟨q,hq,rfl⟩))
    rw [HSe] at this
    rw [hCB,her];exact this
   obtain ⟨rn,hrn⟩:∃ n,n=(ps++(Value.slice none 0 0,[])::rest).length:=⟨_,rfl⟩
   have hnr:n0<rn:=by rw [hrn,Hn0.out,List.length_append,List.length_cons];omega
   have hnr':(n0:Int)<(rn:Int):=by omega
   obtain ⟨ra,rc,rfl,_⟩:=F.oR.form' rn hrn.symm
   obtain ⟨gR,rfl,hgR,hgl2⟩:=F.oR.lies (by omega)
   have HRe':=Lib.hid HRe
   have hsz:=F.bt.size
   clear HS HR hcd hal her hCB hSl HSe HRe hrn hcd'
   go_wp2_with (first
    |((with_reducible show wpList _ _ _ (⟨some 62,_,_,_,_,_⟩::_) _ _);refine wpList_loadA (o:=⟨some 62,_,_,_,_,_⟩) (by rfl) 133 (.tmp 6) (by rfl) z (by rfl) aggShape F.z2 (by rfl) ?_)
    |(go_at_call 130;refine (Ci.out _ (Below.refl _ _)).mono ?_;rintro e w4' ⟨cv,rfl,hc,fc,b4',lc⟩;have F:=F.kept b4';have cg:w4'.cell? ⟨g,0,none⟩=some (.slice (some ⟨gR,0,none⟩) rn rc):=F.zg.cell 0;obtain ⟨⟨xR,hxR⟩,hfR⟩:=F.oR.has one_tcell n0 hnr;obtain ⟨ca,cc,rfl,_⟩:=hc.form))
   go_ret
   have gS:=gsetT w4' gR n0 (.slice ca CB.length cc)
   have hset:(ps++(Value.slice none 0 0,[])::rest).set n0 (Value.slice ca CB.length cc,CB)=ps++(Value.slice ca CB.length cc,CB)::rest:=by
    rw [Hn0.out,List.set_append_right _ _ (Nat.le_refl _),Nat.sub_self];rfl
   have oP:=F.oR.put one_tcell n0 (Value.slice ca CB.length cc,CB)
   rw [hset] at oP
   have hgz:gR≠g:=fun e=>F.oR.notT F.zg (by decide) (by rw [e];rfl)
   have hbc:Bytes (w4'.setCell ⟨gR,n0,none⟩ (.slice ca CB.length cc)) (.slice ca CB.length cc) CB:=RowOf.grownT hc gS (fun j hj=>(fc j hj).2) (fun j hj e=>by have:=(fc j hj).1;simp only [Option.some.injEq] at e;omega)
   have hfr:∀ j,(Value.slice ca CB.length cc).ownBlock=some j→w.heap.size≤j∧j<(w4'.setCell ⟨gR,n0,none⟩ (.slice ca CB.length cc)).heap.size∧(Value.slice (some ⟨gR,0,none⟩) rn rc).ownBlock≠some j:=fun j hj=>⟨Nat.le_trans hsz (fc j hj).1,by rw [World.size_setCell];exact (fc j hj).2,fun e=>by simp only [Value.ownBlock,Option.some.injEq] at e;have:=(fc j hj).1;omega⟩
   rw [HcdE.out,HalE.out]
   refine ⟨_,_,(Value.slice ca CB.length cc,CB)::rest,rfl,hbc,lc,hfr,F.zg.other _ (by show gR≠g;exact hgz) _,oP,by rw [List.map_cons,HRe'.out],fun q hq=>?_,F.pv,F.bt.grown gS (fun j hj=>by cases hj;exact .inr (F.pv gR rfl))⟩
   rcases List.mem_cons.1 hq with rfl|hq
   ·exact ⟨hbc,lc,hfr⟩
   ·have t:=F.tR q hq
    have hzl:=F.zl
    exact ⟨RowOf.grownT t.h gS (fun j hj=>(t.b j hj).2.1) (fun j hj=>(t.b j hj).2.2.2),t.l,fun j hj=>⟨by have:=(t.b j hj).1;omega,by rw [World.size_setCell];exact (t.b j hj).2.1,(t.b j hj).2.2.2⟩⟩
theorem codes_any:∀ (n:Nat)(t:Nd),SizeOf.sizeOf t≤n→FnN t→CdC t
 | 0,.mk kd pv p vv v kv ks,h,_=>by simp at h
 | n+1,.mk kd pv p vv v kv ks,h,hF=>by
  obtain ⟨fp,fv,fk,fks⟩:=hF.inv
  intro W0 w g B0 v0 ps hI hW hg hB0 hBw hz ho hln hbk
  obtain ⟨hp,hv,hk,hall⟩:=hI.inv
  simp only [bulkN] at hbk hln
  obtain ⟨pa,pc,rfl,_,_⟩:=hp.form
  obtain ⟨va,vc,rfl,_,_⟩:=hv.form
  obtain ⟨ka,kc,rfl,_,_⟩:=hk.form
  exact codes_step kd pa va ka p.length pc v.length vc ks.length kc p v ks rfl rfl rfl W0 w hp hv hk hall g B0 v0 ps hW hg hB0 hBw hz ho (by omega) (by omega) (by omega) (by omega) (by omega) (fun k hk=>codes_any n k (by
   have:=List.sizeOf_lt_of_mem hk
   simp only [Nd.mk.sizeOf_spec] at h
   omega) (fks k hk)) _ _ _
end Go.Proofs.YtcgpjceopnfahaaGreat
