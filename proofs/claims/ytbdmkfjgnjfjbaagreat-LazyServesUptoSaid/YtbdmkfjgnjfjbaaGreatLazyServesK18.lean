/- Building a tree of pairs: plain Lean, and pairs in a world. | tree.Of. | The reference's GOf. -/
import Derived.Test.YtbdmkfjgnjfjbaaGreatLazyServesK10
import Derived.Test.YtbdmkfjgnjfjbaaGreatLazyServesK16
import Derived.Test.YtbdmkfjgnjfjbaaGreatLazyServesK17
set_option linter.unusedSimpArgs false
set_option linter.unusedVariables false
set_option maxHeartbeats 4000000
set_option maxRecDepth 100000
namespace Go.Proofs.YtbdmkfjgnjfjbaaGreat
open Go.RowKit
structure Kvp where
 kv:Value
 k:List UInt8
 vv:Value
 v:List UInt8
def kvc (p:Kvp):List Value:=[p.kv,p.vv]
theorem Q8p (p:Kvp):(kvc p).length=2:=rfl
theorem Q6z:Agg Tryz.prog 107 2:=⟨_,Tryz.underlying107,rfl,by kernel_rfl⟩
def IsKv (w:World)(p:Kvp):Prop:=Bytes w p.kv p.k∧Bytes w p.vv p.v
theorem IsKv.kept {w w':World}{p:Kvp}(h:IsKv w p)(hb:Below w.heap.size w w'):IsKv w' p:=⟨h.1.below hb,h.2.below hb⟩
def fineK (p:Kvp):Prop:=p.k.length≤32∧p.v.length≤1024
def trB (ps:List Kvp):Pn:=ps.foldl (fun T p=>putQ T (Q0d p.k) p.v) nP
def rlB (ps:List Kvp):List Rt:=ps.foldl (fun l p=>rputP l (Q0d p.k) p.v) []
def bldE:List Kvp→Int
 | []=>0
 | p::ps=>if 32<p.k.length then 3 else if 1024<p.v.length then 2 else bldE ps
def bldP (ps:List Kvp):Pn × Int:=if bldE ps=0 then (trB ps,0) else (nP,bldE ps)
theorem Qiz (ps:List Kvp)(i:Nat)(hi:i<ps.length):trB (ps.take (i+1))=putQ (trB (ps.take i)) (Q0d ps[i].k) ps[i].v:=by
 unfold trB
 rw [List.take_succ_eq_append_getElem hi,List.foldl_append];rfl
theorem Qjy (ps:List Kvp)(i:Nat)(hi:i<ps.length):rlB (ps.take (i+1))=rputP (rlB (ps.take i)) (Q0d ps[i].k) ps[i].v:=by
 unfold rlB
 rw [List.take_succ_eq_append_getElem hi,List.foldl_append];rfl
theorem Q6w:∀ (ps:List Kvp)(i:Nat),(∀ p∈ps.take i,fineK p)→bldE ps=bldE (ps.drop i)
 | ps,0,_=>rfl
 | [],i+1,_=>rfl
 | p::ps,i+1,h=>by
  have h1:=h p List.mem_cons_self
  have h2:=Q6w ps i (fun q hq=>h q (List.mem_cons_of_mem _ hq))
  unfold fineK at h1
  show (if 32<p.k.length then (3:Int) else if 1024<p.v.length then 2 else bldE ps)=bldE (ps.drop i)
  rw [if_neg (by omega),if_neg (by omega),h2]
theorem Qie (ps:List Kvp)(i:Nat)(hi:i<ps.length)(h:∀ p∈ps.take i,fineK p):bldE ps=if 32<ps[i].k.length then 3 else if 1024<ps[i].v.length then 2 else bldE (ps.drop (i+1)):=by
 rw [Q6w ps i h,List.drop_eq_getElem_cons hi];rfl
theorem Qdp (ps:List Kvp)(h:∀ p∈ps,fineK p):bldE ps=0:=by
 rw [Q6w ps ps.length (by rw [List.take_length];exact h),List.drop_length];rfl
theorem Q7t:∀ (ps:List Kvp)(l:List Rt)(T:Pn),Grows l T→Ord l→(∀ r∈l,r.1.length≤64∧r.2.length≤1024)→(∀ p∈ps,fineK p) →
  Grows (ps.foldl (fun l p=>rputP l (Q0d p.k) p.v) l) (ps.foldl (fun T p=>putQ T (Q0d p.k) p.v) T)∧Ord (ps.foldl (fun l p=>rputP l (Q0d p.k) p.v) l)∧(∀ r∈ps.foldl (fun l p=>rputP l (Q0d p.k) p.v) l,r.1.length≤64∧r.2.length≤1024)∧(ps.foldl (fun l p=>rputP l (Q0d p.k) p.v) l).length≤l.length+ps.length
 | [],l,T,h1,h2,h3,_=>⟨h1,h2,h3,by simp⟩
 | p::ps,l,T,h1,h2,h3,h4=>by
  have hp:=h4 p List.mem_cons_self
  have hhl:=Q6f p.k
  have h5:(rputP l (Q0d p.k) p.v).length≤l.length+1:=by
   unfold rputP
   split
   ·exact Nat.le_succ_of_le (List.length_filter_le _ _)
   ·rw [(Q5h _ _).length_eq,List.length_cons]
    exact Nat.succ_le_succ (List.length_filter_le _ _)
  have:=Q7t ps (rputP l (Q0d p.k) p.v) (putQ T (Q0d p.k) p.v) (Q9v h1 _ _ (Q56 _)) (Qcz h2 _ _) (fun r hr=>by
   rcases Qco hr with hr|rfl
   ·exact h3 r hr
   ·unfold fineK at hp
    exact ⟨by show (Q0d p.k).length≤64;omega,hp.2⟩) (fun q hq=>h4 q (List.mem_cons_of_mem _ hq))
  refine ⟨this.1,this.2.1,this.2.2.1,?_⟩
  have h6:=this.2.2.2
  simp only [List.foldl_cons,List.length_cons]
  omega
theorem Q42 (ps:List Kvp)(h:∀ p∈ps,fineK p):Grows (rlB ps) (trB ps)∧Ord (rlB ps)∧(∀ r∈rlB ps,r.1.length≤64∧r.2.length≤1024)∧(rlB ps).length≤ps.length:=by
 have:=Q7t ps [] nP .none List.Pairwise.nil (fun r hr=>by simp at hr) h
 refine ⟨this.1,this.2.1,this.2.2.1,?_⟩
 have h6:=this.2.2.2
 simpa [rlB] using h6
def PnOwn (R:Pn × Int)(w:World)(e:Ending)(w':World):Prop:=∃ y:Nd,e=.returned (.tuple #[.agg (Q03 y).toArray,.int .i64 R.2])∧OwnNd w' w.heap.size y∧erN y=R.1∧Below w.heap.size w w'
theorem pn_of {ps:List Kvp}{T:Pn}{E:Int}{w:World}(h:bldP ps=(T,E))(y:Nd)(u:World)(hy:OwnNd u w.heap.size y)(he:erN y=T)(hb:Below w.heap.size w u):PnOwn (bldP ps) w (.returned (.tuple #[.agg (Q03 y).toArray,.int .i64 E])) u:=by
 rw [h];exact ⟨y,rfl,hy,he,hb⟩
theorem of_own (a:Option Addr)(n c:Nat)(ps:List Kvp)(hn:ps.length=n)(hN:n≤1048576)(w:World)(h:RowOf kvc 2 w (.slice a n c) ps)(hk:∀ p∈ps,IsKv w p) :
  Calls Tryz.prog 76 #[.slice a n c] w (PnOwn (bldP ps) w):=by
 obtain ⟨w1,hw1⟩:∃ w1,w1=w.alloc (.cells (Q03 zN).toArray 70):=⟨_,rfl⟩
 have hz:Blk 70 w1 w.heap.size (Q03 zN):=by rw [hw1];exact Blk.new w _ _
 have hbel:Below w.heap.size w w1:=by rw [hw1];exact Qba _ _
 have hwe:w1=w.alloc (.cells #[.int .i64 0,.slice none 0 0,.slice none 0 0,.slice none 0 0] 70):=by rw [hw1];rfl
 have Hwe:=Qhd hwe
 have hone:∀ u∈Q03 zN,u.oneCell'=true:=by intro u hu;simp [zcells] at hu;rcases hu with rfl|rfl<;>rfl
 have hzl:(Q03 zN).length=4:=rfl
 have hbw:w.heap.size<w1.heap.size:=by rw [hw1];simp
 have Hn:=Qhd hn
 have H:=Qhd (h.below hbel)
 have Hk:Hid (∀ p∈ps,IsKv w1 p):=Qhd (fun p hp=>(hk p hp).kept hbel)
 clear hw1 hwe h hk hn
 go_enter Tryz.func76,Tryz.ntmps76
 go_wp2_with fail
 rw [show w.alloc (.cells #[.int .i64 0,.slice none 0 0,.slice none 0 0,.slice none 0 0] 70)=w1 from Hwe.out.symm]
 go_loopw [4,9] (fun nx ix wr=>∃ (i:Nat) (t:Nd),i≤n∧ix=.int .i64 (i:Int)∧nx=nv t∧IsNv wr t∧clN t=trB (ps.take i)∧(∀ p∈ps.take i,fineK p)∧Below w1.heap.size w1 wr) (fun _ ix _=>n - (intOf ix).toNat)
 case atStart=>exact ⟨0,nilN,by omega,rfl,rfl,IsNv.nil _,rfl,by simp,Below.refl _ _⟩
 case round =>
  obtain ⟨i,t,hii,rfl,hnv,hit,hct,hfi,hbr⟩:=hrel
  obtain ⟨wo,rfl⟩:∃ x,x=wr:=⟨wr,rfl⟩
  have HNV:=Qhd hnv
  clear hnv
  have bb1:=Below.then hbel hbr
  have zz:=hz.kept hbr
  have hgr:=Q42 (ps.take i) hfi
  rw [←hct] at hgr
  by_cases hlt:i<n
  ·have hki:(i:Int)<(n:Int):=by omega
   have hil:i<ps.length:=by rw [Hn.out];exact hlt
   obtain ⟨b1,o1,rfl,r1⟩:=RowOf.range Q8p (H.out.below hbr) i hil
   obtain ⟨kb,vb⟩:=(Hk.out _ (List.getElem_mem hil)).kept hbr
   have hE:=Qie ps i hil hfi
   have hst:=Qiz ps i hil
   have hfs:fineK ps[i]→∀ p∈ps.take (i+1),fineK p:=fun hf p hp=>by
    rw [List.take_succ_eq_append_getElem hil] at hp
    rcases List.mem_append.1 hp with hp|hp
    ·exact hfi p hp
    ·rw [List.mem_singleton] at hp;rw [hp];exact hf
   obtain ⟨p,hp⟩:∃ p,p=ps[i]:=⟨_,rfl⟩
   rw [←hp] at r1 kb vb hE hst hfs
   obtain ⟨kv,key,vv,v⟩:=p
   dsimp only at kb vb hE hst
   obtain ⟨ka,kc,rfl,_⟩:=kb.form
   obtain ⟨va,vc,rfl,_⟩:=vb.form
   obtain ⟨kn,hkn⟩:∃ m,m=key.length:=⟨_,rfl⟩
   obtain ⟨vn,hvn⟩:∃ m,m=v.length:=⟨_,rfl⟩
   rw [←hkn] at kb hE r1
   rw [←hvn] at vb hE r1
   have hr2:wo.rangeAt b1 (o1+i*2) [.slice ka kn kc,.slice va vn vc]:=r1
   have hwi:IntKind.i64.wrap ((i:Int)+1)=((i+1:Nat):Int):=by rw [IntWalk.i64_in _ (by omega)];omega
   obtain ⟨w2,hw2⟩:∃ w2,w2=wo.alloc (.cells #[.slice ka kn kc,.slice va vn vc] 107):=⟨_,rfl⟩
   have zp:Blk 107 w2 wo.heap.size [.slice ka kn kc,.slice va vn vc]:=by rw [hw2];exact Blk.new wo _ _
   have b2:Below wo.heap.size wo w2:=by rw [hw2];exact Qba _ _
   have bb2:=Below.then bb1 b2
   have zz2:=zz.kept b2
   have Hr2:=Qhd hr2
   have HE:=Qhd hE
   have Hst:=Qhd hst
   have Hct:=Qhd hct
   have Hfs:=Qhd hfs
   have Hw2:=Qhd hw2
   have Hkn:=Qhd hkn
   have Hvn:=Qhd hvn
   clear r1 hr2 hE hst hw2 hp hlt hil hct hfi hfs hkn hvn
   by_cases h32:32<kn
   ·have hRf:bldP ps=(nP,3):=by
     unfold bldP;rw [HE.out,if_pos h32];rfl
    have Hpost:=Qhd (pn_of (w:=w) hRf)
    have h32i:(32:Int)<(kn:Int):=by omega
    clear h32 hRf kb vb hgr hit
    go_wp2_with (first
     |(refine Qlw 107 11 b1 (o1+i*2) Q6z (by rfl) Hr2.out ?_)
     |((with_reducible refine Qgs 18 ?_);rw [←Hw2.out];refine Qsa 70 2 18 w.heap.size (Q03 zN) Q05 zz2 hzl hzl hone bb2 (Nat.le_refl _) ?_;intro w4 h4 b4 g4))
    exact bodyPost_ret (v:=.tuple #[.agg (Q03 zN).toArray,.int .i64 3]) (Q04 rfl _ _ w.heap.size Q05 h4 hzl rfl rfl) rfl (Hpost.out zN w4 (OwnNd.zero w4 _) rfl b4)
   ·have h32i:¬ (32:Int)<(kn:Int):=by omega
    by_cases hv24:1024<vn
    ·have hRf:bldP ps=(nP,2):=by
      unfold bldP;rw [HE.out,if_neg h32,if_pos hv24];rfl
     have Hpost:=Qhd (pn_of (w:=w) hRf)
     have hvi:(1024:Int)<(vn:Int):=by omega
     clear h32 hRf hv24 kb vb hgr hit
     go_wp2_with (first
      |(refine Qlw 107 11 b1 (o1+i*2) Q6z (by rfl) Hr2.out ?_)
      |((with_reducible refine Qgs 24 ?_);rw [←Hw2.out];refine Qsa 70 2 24 w.heap.size (Q03 zN) Q05 zz2 hzl hzl hone bb2 (Nat.le_refl _) ?_;intro w4 h4 b4 g4))
     exact bodyPost_ret (v:=.tuple #[.agg (Q03 zN).toArray,.int .i64 2]) (Q04 rfl _ _ w.heap.size Q05 h4 hzl rfl rfl) rfl (Hpost.out zN w4 (OwnNd.zero w4 _) rfl b4)
    ·have hvi:¬ (1024:Int)<(vn:Int):=by omega
     have hhl:=Q6f key
     have cH:=fun (u:World) (hu:Below w2.heap.size w2 u)=>Q7j ka kc key u (by rw [←Hkn.out];exact (kb.below b2).below hu) (by have:=Hkn.out;omega)
     rw [←Hkn.out] at cH
     have cP:=fun (u:World) (hu:Below w2.heap.size w2 u) (qa:Option Addr) (qn qc:Nat) (hq:Bytes u (.slice qa qn qc) (Q0d key))=>Qgc (SizeOf.sizeOf t) t (Nat.le_refl _) _ hgr.1 (fun r hr=>by have:=(hgr.2.2.1 r hr).1;omega) qa va qn qc vn vc (Q0d key) v u hq.fits.1.symm Hvn.out.symm (by have:=hq.fits.1;have:=Hkn.out;omega) (Q56 key) ((hit.kept b2).kept hu) hq ((vb.below b2).below hu)
     have hT:putQ (clN t) (Q0d key) v=trB (ps.take (i+1)):=by rw [Hst.out,Hct.out]
     rw [hT] at cP
     have hff:=Hfs.out ⟨by show key.length≤32;have:=Hkn.out;omega,by show v.length≤1024;have:=Hvn.out;omega⟩
     rw [←HNV.out] at cP
     have CH:=Qhd cH
     have CP:=Qhd cP
     have Hff:=Qhd hff
     have Hkb:=Qhd kb
     clear h32 hv24 cH cP hT hff kb vb hgr hit
     have k0:=fun u:Ext w2=>u.cell ((zp.cell 0).trans (show _=some (Value.slice ka kn kc) from rfl))
     have k1:=fun u:Ext w2=>u.cell ((zp.cell 1).trans (show _=some (Value.slice va vn vc) from rfl))
     go_wp2_with (refine Qlw 107 11 b1 (o1+i*2) Q6z (by rfl) Hr2.out ?_)
     rw [show wo.alloc (.cells #[.slice ka kn kc,.slice va vn vc] 107)=w2 from Hw2.out.symm]
     refine Q02 w2 7 (by kernel_rfl) (by kernel_rfl) (Below.refl _ _) ?_;simp only [List.take_succ_cons,List.take_zero,List.take_nil]
     iterate 3 (refine Q01 (by rfl) (fun K hK=>?_);go_simp;refine hK _ ?_;clear hK K)
     refine Q07 28 (SlG (Q0d key)) rfl (of_decide_eq_true rfl) (SlG.mono _) (fun w6 hw6=>?_) ?_
     ·simp only [relOf,List.filter_nil,Q00]
      refine ⟨rfl,?_⟩
      go_simp
      refine (CH.out w6 hw6).mono ?_
      rintro e w7 ⟨v7,rfl,o7,b7⟩
      obtain ⟨a7,c7,rfl,_⟩:=o7.form
      exact ⟨_,rfl,⟨_,_,_,rfl,o7.row⟩,b7⟩
     iterate 2 (refine Q01 (by rfl) (fun K hK=>?_);go_simp;refine hK _ ?_;clear hK K)
     refine Q07 31 (NvT (trB (ps.take (i+1)))) rfl (of_decide_eq_true rfl) (NvT.mono _) (fun w6 hw6=>?_) ?_
     ·change Q00 w6 [(28,_)] _ _
      rintro v28 ⟨a28,n28,c28,rfl,h28⟩
      simp only [Q00]
      refine ⟨rfl,?_⟩
      go_simp
      refine (CP.out w6 hw6 a28 n28 c28 h28).mono ?_
      rintro e w7 ⟨t7,rfl,b7,i7,c7⟩
      exact ⟨_,rfl,⟨t7,rfl,i7,c7⟩,b7⟩
     refine Q09 ?_
     intro u5 hu5 v28 _ v31 h31
     change wpList _ _ _ [_] _ _
     simp only [Act.put,Qzs]
     obtain ⟨t7,rfl,i7,c7⟩:=h31
     obtain ⟨V7,hV7⟩:∃ V,V=nv t7:=⟨_,rfl⟩
     rw [←hV7]
     have HV7:=Qhd hV7
     have bb5:=Below.then hbr (Below.then b2 hu5)
     clear hV7 k0 k1
     go_wp2_with fail
     go_roundw
     case rel=>exact ⟨i+1,t7,by omega,by go_num,HV7.out,i7,c7,Hff.out,bb5⟩
     case measure=>simp [intOf];omega
  ·obtain rfl:n=i:=by omega
   have htk:ps.take n=ps:=by rw [←Hn.out,List.take_length]
   rw [htk] at hct hfi hgr
   have hE0:=Qdp ps hfi
   have hRf:bldP ps=(trB ps,0):=by unfold bldP;rw [if_pos hE0]
   have Hpost:=Qhd (pn_of (w:=w) hRf)
   have cS:=(Qcj (SizeOf.sizeOf t) t (Nat.le_refl _) _ hgr.1 (fun r hr=>by have:=hgr.2.2.1 r hr;omega)).1 wo hit
   rw [hct,←HNV.out] at cS
   have CS:=Qhd cS
   clear cS hgr hit hct hfi hE0 hRf hlt
   go_wp2_with (first
    |(go_at_call 106;(with_reducible refine CS.out.mono ?_);rintro e w6 ⟨y,rfl,oy,ey,b6⟩;have bb6:=Below.then bb1 b6;have zz6:=zz.kept b6;have hone2:=oy.is.one;have hlen:=Q06 y)
    |((with_reducible refine Qgs 34 ?_);refine Qsa 70 2 34 w.heap.size (Q03 y) Q05 zz6 hlen hzl hone2 bb6 (Nat.le_refl _) ?_;intro w7 h7 b7 g7))
   have hs5:w.heap.size<wo.heap.size:=zz.lt
   exact bodyPost_ret (v:=.tuple #[.agg (Q03 y).toArray,.int .i64 0]) (Q04 rfl _ _ w.heap.size Q05 h7 hlen rfl rfl) rfl (Hpost.out y w7 ((oy.off g7 hs5).lower bb1.size) ey b7)
theorem Qhy (a:Option Addr)(n c:Nat)(ps:List Kvp)(hn:ps.length=n)(hN:n≤1048576)(w:World)(h:RowOf kvc 2 w (.slice a n c) ps)(hk:∀ p∈ps,IsKv w p) :
  Calls Tryz.prog 81 #[.slice a n c] w (PnOwn (bldP ps) w):=by
 obtain ⟨w1,hw1⟩:∃ w1,w1=w.alloc (.cells (Q03 zN).toArray 70):=⟨_,rfl⟩
 have hz:Blk 70 w1 w.heap.size (Q03 zN):=by rw [hw1];exact Blk.new w _ _
 have hbel:Below w.heap.size w w1:=by rw [hw1];exact Qba _ _
 have hwe:w1=w.alloc (.cells #[.int .i64 0,.slice none 0 0,.slice none 0 0,.slice none 0 0] 70):=by rw [hw1];rfl
 have Hwe:=Qhd hwe
 have hone:∀ u∈Q03 zN,u.oneCell'=true:=by intro u hu;simp [zcells] at hu;rcases hu with rfl|rfl<;>rfl
 have hzl:(Q03 zN).length=4:=rfl
 have Hn:=Qhd hn
 have H:=Qhd (h.below hbel)
 have Hk:Hid (∀ p∈ps,IsKv w1 p):=Qhd (fun p hp=>(hk p hp).kept hbel)
 clear hw1 hwe h hk hn
 go_enter Tryz.func81,Tryz.ntmps81
 go_wp2_with fail
 rw [show w.alloc (.cells #[.int .i64 0,.slice none 0 0,.slice none 0 0,.slice none 0 0] 70)=w1 from Hwe.out.symm]
 go_loopw [4,10] (fun lx ix wr=>∃ (i:Nat) (la:Option Addr) (ln lc:Nat),i≤n∧ix=.int .i64 (i:Int)∧lx=.slice la ln lc∧RowOf rcells 2 wr (.slice la ln lc) (rlB (ps.take i))∧(∀ p∈ps.take i,fineK p)∧Below w1.heap.size w1 wr) (fun _ ix _=>n - (intOf ix).toNat)
 case atStart=>exact ⟨0,none,0,0,by omega,rfl,rfl,RowOf.nil rcells 2 _,by simp,Below.refl _ _⟩
 case round =>
  obtain ⟨i,la,ln,lc,hii,rfl,rfl,hrow,hfi,hbr⟩:=hrel
  obtain ⟨wo,rfl⟩:∃ x,x=wr:=⟨wr,rfl⟩
  have bb1:=Below.then hbel hbr
  have zz:=hz.kept hbr
  have hgr:=Q42 (ps.take i) hfi
  have hlls:(rlB (ps.take i)).length≤1048576:=by have:=hgr.2.2.2;rw [List.length_take] at this;omega
  by_cases hlt:i<n
  ·have hki:(i:Int)<(n:Int):=by omega
   have hil:i<ps.length:=by rw [Hn.out];exact hlt
   obtain ⟨b1,o1,rfl,r1⟩:=RowOf.range Q8p (H.out.below hbr) i hil
   obtain ⟨kb,vb⟩:=(Hk.out _ (List.getElem_mem hil)).kept hbr
   have hE:=Qie ps i hil hfi
   have hst:=Qjy ps i hil
   have hfs:fineK ps[i]→∀ p∈ps.take (i+1),fineK p:=fun hf p hp=>by
    rw [List.take_succ_eq_append_getElem hil] at hp
    rcases List.mem_append.1 hp with hp|hp
    ·exact hfi p hp
    ·rw [List.mem_singleton] at hp;rw [hp];exact hf
   obtain ⟨p,hp⟩:∃ p,p=ps[i]:=⟨_,rfl⟩
   rw [←hp] at r1 kb vb hE hst hfs
   obtain ⟨kv,key,vv,v⟩:=p
   dsimp only at kb vb hE hst
   obtain ⟨ka,kc,rfl,_⟩:=kb.form
   obtain ⟨va,vc,rfl,_⟩:=vb.form
   obtain ⟨kn,hkn⟩:∃ m,m=key.length:=⟨_,rfl⟩
   obtain ⟨vn,hvn⟩:∃ m,m=v.length:=⟨_,rfl⟩
   rw [←hkn] at kb hE r1
   rw [←hvn] at vb hE r1
   have hr2:wo.rangeAt b1 (o1+i*2) [.slice ka kn kc,.slice va vn vc]:=r1
   have hwi:IntKind.i64.wrap ((i:Int)+1)=((i+1:Nat):Int):=by rw [IntWalk.i64_in _ (by omega)];omega
   obtain ⟨w2,hw2⟩:∃ w2,w2=wo.alloc (.cells #[.slice ka kn kc,.slice va vn vc] 107):=⟨_,rfl⟩
   have b2:Below wo.heap.size wo w2:=by rw [hw2];exact Qba _ _
   have bb2:=Below.then bb1 b2
   have zz2:=zz.kept b2
   have hpe:=Q9x ka va kn kc vn vc
   have Hr2:=Qhd hr2
   have Hst:=Qhd hst
   have Hfs:=Qhd hfs
   have Hw2:=Qhd hw2
   have Hkn:=Qhd hkn
   have Hvn:=Qhd hvn
   clear r1 hr2 hst hw2 hp hlt hil hfi hfs hkn hvn
   by_cases h32:32<kn∨1024<vn
   ·obtain ⟨E,hEE⟩:∃ E,E=putE kn vn:=⟨_,rfl⟩
    have hEn:¬ E=0:=by
     rw [hEE];unfold putE
     split
     ·omega
     ·rw [if_pos (by omega)];omega
    have hRf:bldP ps=(nP,E):=by
     have:bldE ps=E:=by
      rw [hE,hEE]
      unfold putE
      by_cases h:32<kn
      ·rw [if_pos h,if_pos h]
      ·rw [if_neg h,if_neg h,if_pos (by omega),if_pos (by omega)]
     unfold bldP;rw [this,if_neg hEn]
    rw [←hEE] at hpe
    have Hpe:=Qhd hpe
    have hEz:(E==0)=false:=beq_eq_false_iff_ne.2 hEn
    have Hpost:=Qhd (pn_of (w:=w) hRf)
    clear h32 hRf kb vb hgr hE hEE hpe hrow
    go_wp2_with (first
     |(refine Qlw 107 12 b1 (o1+i*2) Q6z (by rfl) Hr2.out ?_)
     |(go_at_call 110;(with_reducible refine (Hpe.out _).mono ?_);rintro e w3 ⟨rfl,rfl⟩)
     |((with_reducible refine Qgs 21 ?_);rw [←Hw2.out];refine Qsa 70 2 21 w.heap.size (Q03 zN) Q05 zz2 hzl hzl hone bb2 (Nat.le_refl _) ?_;intro w4 h4 b4 g4))
    exact bodyPost_ret (v:=.tuple #[.agg (Q03 zN).toArray,.int .i64 E]) (Q04 rfl _ _ w.heap.size Q05 h4 hzl rfl rfl) rfl (Hpost.out zN w4 (OwnNd.zero w4 _) rfl b4)
   ·have hEz:putE kn vn=0:=by unfold putE;rw [if_neg (by omega),if_neg (by omega)]
    rw [hEz] at hpe
    have Hpe:=Qhd hpe
    have cP:=fun (u:World) (hu:Below wo.heap.size wo u)=>Q9s la ka va ln lc kn kc vn vc (rlB (ps.take i)) key v hrow.fits.1.symm (by have:=hrow.fits.1;omega) hgr.2.1 Hkn.out.symm (by omega) Hvn.out.symm u (hrow.below hu) (kb.below hu) (vb.below hu)
    rw [←Hst.out] at cP
    have hff:=Hfs.out ⟨by show key.length≤32;have:=Hkn.out;omega,by show v.length≤1024;have:=Hvn.out;omega⟩
    have CP:=Qhd cP
    have Hff:=Qhd hff
    clear h32 cP hff kb vb hgr hpe hE hEz hrow hlls
    go_wp2_with (first
     |(refine Qlw 107 12 b1 (o1+i*2) Q6z (by rfl) Hr2.out ?_)
     |(go_at_call 110;(with_reducible refine (Hpe.out _).mono ?_);rintro e w3 ⟨rfl,rfl⟩)
     |(go_at_call 111;rw [←Hw2.out];(with_reducible refine (CP.out _ b2).mono ?_);rintro e w5 ⟨a5,n5,c5,rfl,h5,b5⟩;have bb5:=Below.then hbr (Below.then b2 b5)))
    go_roundw
    case rel=>exact ⟨i+1,a5,n5,c5,by omega,by go_num,rfl,h5,Hff.out,bb5⟩
    case measure=>simp [intOf];omega
  ·obtain rfl:n=i:=by omega
   have htk:ps.take n=ps:=by rw [←Hn.out,List.take_length]
   rw [htk] at hrow hfi hgr hlls
   have hE0:=Qdp ps hfi
   have hRf:bldP ps=(trB ps,0):=by unfold bldP;rw [if_pos hE0]
   have Hpost:=Qhd (pn_of (w:=w) hRf)
   have hLe:=hrow.fits.1
   have cS:=Q4i 65 (rlB ps) la ln lc wo hLe.symm (by omega) (fun r hr=>by have:=hgr.2.2.1 r hr;omega) (ord_ok 65 _ hgr.2.1 (fun r hr=>by have:=(hgr.2.2.1 r hr).1;omega)) hrow
   rw [Qhv hgr.1 65 (fun r hr=>by have:=(hgr.2.2.1 r hr).1;omega)] at cS
   have CS:=Qhd cS
   clear cS hgr hfi hE0 hRf hlt hrow hLe hlls
   go_wp2_with (first
    |(go_at_call 112;(with_reducible refine CS.out.mono ?_);rintro e w6 ⟨y,rfl,oy,ey,b6⟩;have bb6:=Below.then bb1 b6;have zz6:=zz.kept b6;have hone2:=oy.is.one;have hlen:=Q06 y)
    |((with_reducible refine Qgs 31 ?_);refine Qsa 70 2 31 w.heap.size (Q03 y) Q05 zz6 hlen hzl hone2 bb6 (Nat.le_refl _) ?_;intro w7 h7 b7 g7))
   have hs5:w.heap.size<wo.heap.size:=zz.lt
   exact bodyPost_ret (v:=.tuple #[.agg (Q03 y).toArray,.int .i64 0]) (Q04 rfl _ _ w.heap.size Q05 h7 hlen rfl rfl) rfl (Hpost.out y w7 ((oy.off g7 hs5).lower bb1.size) ey b7)
end Go.Proofs.YtbdmkfjgnjfjbaaGreat
