/- Shapes as data: what they are written as; root.sum. | root.item of a leaf. | root.item of a road; of nothing; of no kind. | root.forkItem. | root.item, root.Cod -/
import Derived.Test.YtbdmkfjgnjfjbaaGreatLazyServesK22
import Derived.Test.YtbdmkfjgnjfjbaaGreatLazyServesK01
import Derived.Test.YtbdmkfjgnjfjbaaGreatLazyServesK04
set_option linter.unusedSimpArgs false
set_option linter.unusedVariables false
set_option maxHeartbeats 4000000
set_option maxRecDepth 100000
namespace Go.Proofs.YtbdmkfjgnjfjbaaGreat
open Go.RowKit
def sumOk (n:Nat)(lack:Bool):Bool:=decide (n=32) || (lack && decide (n=0))
def manyB (v:List UInt8)(ks:List (List UInt8)):Nat:=min v.length 1+(ks.map fun k=>min k.length 1).sum
def shOk (k:Int)(p v:List UInt8)(ks:List (List UInt8)):Bool :=
 if k=0 then true
 else if k=1 then !wrongB p&&decide (1≤v.length)&&decide (v.length≤1024)
 else if k=2 then !wrongB p&&decide (1≤p.length)&&decide (ks.length=1)&&decide ((ks[0]?.getD []).length=32)
 else if k=3 then decide (ks.length=16)&&decide (v.length≤1024)&&(ks.all fun t=>sumOk t.length true)&&decide (2≤manyB v ks)
 else false
def shB (k:Int)(p v:List UInt8)(ks:List (List UInt8)):List UInt8 :=
 if k=0 then textB []
 else if k=1 then lsB [joinR (tagL p true),v]
 else if k=2 then lsB [joinR (tagL p false),ks[0]?.getD []]
 else lsB (ks++[v])
def Q1l (ok:Bool)(B:List UInt8)(w:World)(e:Ending)(w':World):Prop :=
 ∃ (l:Bool) (ta:Option Addr) (tn tc:Nat) (t:List UInt8) (ka:Option Addr) (kn kc:Nat) (ks:List Itm),e=.returned (.tuple #[.agg #[.bool l,.slice ta tn tc,.slice ka kn kc],.bool ok]) ∧
  (ok=true→IsItm w' (.mk l (.slice ta tn tc) t (.slice ka kn kc) ks)∧encI (.mk l (.slice ta tn tc) t (.slice ka kn kc) ks)=B∧bulkI (.mk l (.slice ta tn tc) t (.slice ka kn kc) ks)≤100000000)∧Below w.heap.size w w'
theorem Qcm (a:Option Addr)(n c:Nat)(lack:Bool)(w:World)(hn:n≤140737488355328):Calls Tryz.prog 151 #[.slice a n c,.bool lack] w fun e w'=>e=.returned (.bool (sumOk n lack))∧w=w':=by
 have h:n=32∨(n=0)∨(n≠32∧n≠0):=by omega
 rcases h with rfl|rfl|⟨h1,h2⟩
 ·go_enter Tryz.func151,Tryz.ntmps151
  go_wp2
  go_ret
  exact ⟨rfl,rfl⟩
 ·cases lack
  all_goals
   go_enter Tryz.func151,Tryz.ntmps151
   go_wp2
   go_ret
   exact ⟨rfl,rfl⟩
 ·have e1:((n:Int)==32)=false:=by rw [beq_eq_false_iff_ne];omega
  have e2:((n:Int)==0)=false:=by rw [beq_eq_false_iff_ne];omega
  have e3:sumOk n lack=false:=by unfold sumOk;simp [h1,h2]
  have E3:=Qhd e3
  clear e3
  cases lack
  all_goals
   go_enter Tryz.func151,Tryz.ntmps151
   go_wp2
   go_ret
   exact ⟨by rw [E3.out];rfl,rfl⟩
def CellAt (p:Addr)(v:Value)(u:World):Prop:=u.cell? p=some v
theorem CellAt.below {p:Addr}{v:Value}{u u':World}(h:CellAt p v u)(hb:Below u.heap.size u u'):CellAt p v u':=by
 unfold CellAt at h ⊢
 rw [hb.cell (World.block_lt_of_cell? u _ h)];exact h
theorem CellAt.grown {p:Addr}{v:Value}{u u':World}{g:Nat}(h:CellAt p v u)(hg:u.grownBy u' (some g))(hne:p.block≠g):CellAt p v u':=by
 unfold CellAt at h ⊢
 have hlt:=World.block_lt_of_cell? u _ h
 rw [←h]
 exact World.cell?_of_block (w:=u) (hg.block p.block hlt (by simpa using hne))
theorem Q1k:Agg Tryz.prog 134 4:=⟨_,Tryz.underlying134,rfl,by kernel_rfl⟩
theorem Qa9 (l:List UInt8):(joinOk l=true∧joinE l=0)∨(joinOk l=false∧joinE l=1):=by
 unfold joinE
 cases h:joinOk l with
 | true=>left;simp
 | false=>right;simp
theorem Q4e (p:List UInt8)(leaf:Bool):(joinR (tagL p leaf)).length≤p.length+2:=by
 unfold joinR
 split
 ·have h1:=Qdb (tagL p leaf)
  have h2:=Qj2 p leaf
  omega
 ·simp
theorem Qhk (pa va ka:Option Addr)(pn pc vn vc kn kc:Nat)(p v:List UInt8)(hpn:p.length=pn)(hvn:v.length=vn)(w:World)(hp:Bytes w (.slice pa pn pc) p)(hv:Bytes w (.slice va vn vc) v)(hP:pn≤4194304)(hV:vn≤1048576) :
  Calls Tryz.prog 127 #[.agg #[.int .i64 1,.slice pa pn pc,.slice va vn vc,.slice ka kn kc]] w (Q1l (!wrongB p&&decide (1≤vn)&&decide (vn≤1024)) (lsB [joinR (tagL p true),v]) w):=by
 have hs1:Blk 134 ((w.alloc (.cells #[.int .i64 1,.slice pa pn pc,.slice va vn vc,.slice ka kn kc] 134)).alloc (.cells #[.bool false,.slice none 0 0,.slice none 0 0] 77)) w.heap.size [.int .i64 1,.slice pa pn pc,.slice va vn vc,.slice ka kn kc]:=(Blk.new w 134 _).alloc _
 have hz1:Blk 77 ((w.alloc (.cells #[.int .i64 1,.slice pa pn pc,.slice va vn vc,.slice ka kn kc] 134)).alloc (.cells #[.bool false,.slice none 0 0,.slice none 0 0] 77)) (w.heap.size+1) [.bool false,.slice none 0 0,.slice none 0 0]:=by
  have:=Blk.new (w.alloc (.cells #[.int .i64 1,.slice pa pn pc,.slice va vn vc,.slice ka kn kc] 134)) 77 [.bool false,.slice none 0 0,.slice none 0 0]
  simpa using this
 have hbel1:Below w.heap.size w ((w.alloc (.cells #[.int .i64 1,.slice pa pn pc,.slice va vn vc,.slice ka kn kc] 134)).alloc (.cells #[.bool false,.slice none 0 0,.slice none 0 0] 77)):=(Qba _ _).alloc (by simp) _
 have ct:=fun x h=>Q5q pa pn pc p true hpn x h (by omega)
 have hTl:=Q4e p true
 rcases Qa9 (tagL p true) with ⟨hok,hE⟩|⟨hok,hE⟩
 ·rw [Q81] at hok
  rw [hE] at ct
  have h3:vn=0∨(0<vn∧¬ vn≤1024)∨(0<vn∧vn≤1024):=by omega
  obtain ⟨T,hT⟩:∃ T,T=joinR (tagL p true):=⟨_,rfl⟩
  rw [←hT] at hTl ⊢
  simp only [←hT] at ct
  obtain ⟨ok,hokk⟩:∃ ok,ok=(!wrongB p&&decide (1≤vn)&&decide (vn≤1024)):=⟨_,rfl⟩
  rw [←hokk]
  have hlT:T.length≤4194310:=by omega
  obtain ⟨tn,htn⟩:∃ tn,tn=T.length:=⟨_,rfl⟩
  have Htn:=Qhd htn
  have Ct:=Qhd ct
  have Hokk:=Qhd hokk
  have Hok:=Qhd hok
  have HlT:=Qhd hlT
  have Hvn:=Qhd hvn
  clear ct hT htn hTl hok hE hokk hlT hvn
  rcases h3 with hv0|⟨hv0,hv1⟩|⟨hv0,hv1⟩
  ·have hi0:decide ((0:Int)<(vn:Int))=false:=by rw [decide_eq_false_iff_not];omega
   have hi2:¬ 0<vn:=by omega
   have Hv0:=Qhd hv0
   clear hv0
   go_enter Tryz.func127,Tryz.ntmps127
   go_wp2_with (go_at_call 150;refine (Ct.out _ (hp.below hbel1)).mono ?_;rintro e w2 ⟨tv,rfl,ht2,b2⟩;have hs2:=hs1.kept b2;have kcell:=(hs2.cell 0).trans (show _=some (Value.int .i64 1) from rfl);have hz2:=hz1.kept b2;have hbel2:=Below.then hbel1 b2;obtain ⟨ga,gc,rfl,_⟩:=ht2.form' tn Htn.out.symm)
   have hv2:=hv.below hbel2
   have c1:=fun x=>Q0z ga tn gc x
   have c2:=fun x=>Q0z va vn vc x
   have C1:=Qhd c1
   have C2:=Qhd c2
   have hk2:CellAt ⟨w.heap.size,2,none⟩ (.slice va vn vc) w2:=(hs2.cell 2).trans rfl
   have k2:∀ u:In (CellAt ⟨w.heap.size,2,none⟩ (.slice va vn vc)),u.val.cell? ⟨w.heap.size,2,none⟩=some (.slice va vn vc):=fun u=>u.held
   clear c1 c2 hs1 hz1 hbel1 b2 kcell
   refine Q0t (CellAt ⟨w.heap.size,2,none⟩ (.slice va vn vc)) (by kernel_rfl) ?_;intro u0 hu0;simp only [List.length_cons,List.length_nil,Nat.reduceAdd,List.replicate_succ,List.replicate_zero]
   have hb0:Below w2.heap.size w2 u0:=by rw [hu0];exact (Below.refl _ _).drew
   have hS0:=hk2.below hb0
   clear hu0 hk2
   (refine wpH_takeQ 0 (fun K hK=>?_);simp only [Qzs] at hK;go_simp;first|(refine hK _ ?_;clear hK K)|(apply Exists.intro;refine ⟨fun _=>rfl,hK _ ?_⟩;clear hK K));(refine wpH_takeQ 2 (fun K hK=>?_);simp only [Qzs] at hK;go_simp;first|(refine hK _ ?_;clear hK K)|(apply Exists.intro;refine ⟨fun _=>rfl,hK _ ?_⟩;clear hK K));(refine wpH_takeQ 3 (fun K hK=>?_);simp only [Qzs] at hK;go_simp;first|(refine hK _ ?_;clear hK K)|(apply Exists.intro;refine ⟨fun _=>rfl,hK _ ?_⟩;clear hK K));(refine wpH_takeQ 7 (fun K hK=>?_);simp only [Qzs] at hK;go_simp;first|(refine hK _ ?_;clear hK K)|(apply Exists.intro;refine ⟨fun _=>rfl,hK _ ?_⟩;clear hK K));(refine wpH_takeQ 8 (fun K hK=>?_);simp only [Qzs] at hK;go_simp;first|(refine hK _ ?_;clear hK K)|(apply Exists.intro;refine ⟨fun _=>rfl,hK _ ?_⟩;clear hK K))
   (refine Q0e 1 (by rfl) (by kernel_rfl) (fun K hK=>?_);simp only [Qzs] at hK;go_simp)
   (with_reducible refine (C1.out _).mono ?_)
   rintro e u1 ⟨rfl,b1⟩
   have hS1:=hS0.below b1
   refine hK _ _ hS1 ?_;clear hK K
   (refine Q0e 4 (by rfl) (by kernel_rfl) (fun K hK=>?_);simp only [Qzs] at hK;go_simp)
   (with_reducible refine (C2.out _).mono ?_)
   rintro e u2 ⟨rfl,b2⟩
   have hS2:=hS1.below b2
   refine hK _ _ hS2 ?_;clear hK K
   have b02:=Below.then (Below.then hb0 b1) b2
   have ht3:=ht2.below b02
   have hv3:=hv2.below b02
   have hr3:=Row.built Q0p u2 77 [txt (.slice ga tn gc) T,txt (.slice va vn vc) v] 2 rfl (by unfold maxLen;omega)
   (refine Q0e 5 (by rfl) (by kernel_rfl) (fun K hK=>?_);simp only [Qzs] at hK;go_simp)
   have b3:Below u2.heap.size u2 (u2.alloc (.cells #[.bool false,.slice ga tn gc,.slice none 0 0,.bool false,.slice va vn vc,.slice none 0 0] 77)):=Qba _ _
   have hS3:=hS2.below b3
   refine hK _ _ hS3 ?_;clear hK K
   (refine Q0e 6 (by rfl) (by kernel_rfl) (fun K hK=>?_);simp only [Qzs] at hK;go_simp)
   (with_reducible refine (Q2i _ _ _ _).mono ?_)
   rintro e u4 ⟨rfl,b4⟩
   have b34:=Below.then b3 b4
   have hS4:=hS3.below b4
   refine hK _ _ hS4 ?_;clear hK K
   have b04:=Below.then b02 b34
   have ht4:=ht3.below b34
   have hv4:=hv3.below b34
   have hr4:=hr3.kept b4
   have hz4:=hz2.kept b04
   have hbel4:=Below.then hbel2 b04
   (refine wpH_takeQ 9 (fun K hK=>?_);simp only [Qzs] at hK;go_simp;first|(refine hK _ ?_;clear hK K)|(apply Exists.intro;refine ⟨fun _=>rfl,hK _ ?_⟩;clear hK K));(refine wpH_takeQ 10 (fun K hK=>?_);simp only [Qzs] at hK;go_simp;first|(refine hK _ ?_;clear hK K)|(apply Exists.intro;refine ⟨fun _=>rfl,hK _ ?_⟩;clear hK K));(refine wpH_takeQ 11 (fun K hK=>?_);simp only [Qzs] at hK;go_simp;first|(refine hK _ ?_;clear hK K)|(apply Exists.intro;refine ⟨fun _=>rfl,hK _ ?_⟩;clear hK K));(refine wpH_takeQ 12 (fun K hK=>?_);simp only [Qzs] at hK;go_simp;first|(refine hK _ ?_;clear hK K)|(apply Exists.intro;refine ⟨fun _=>rfl,hK _ ?_⟩;clear hK K));(refine wpH_takeQ 13 (fun K hK=>?_);simp only [Qzs] at hK;go_simp;first|(refine hK _ ?_;clear hK K)|(apply Exists.intro;refine ⟨fun _=>rfl,hK _ ?_⟩;clear hK K));(refine wpH_takeQ 14 (fun K hK=>?_);simp only [Qzs] at hK;go_simp;first|(refine hK _ ?_;clear hK K)|(apply Exists.intro;refine ⟨fun _=>rfl,hK _ ?_⟩;clear hK K));(refine wpH_takeQ 15 (fun K hK=>?_);simp only [Qzs] at hK;go_simp;first|(refine hK _ ?_;clear hK K)|(apply Exists.intro;refine ⟨fun _=>rfl,hK _ ?_⟩;clear hK K));(refine wpH_takeQ 16 (fun K hK=>?_);simp only [Qzs] at hK;go_simp;first|(refine hK _ ?_;clear hK K)|(apply Exists.intro;refine ⟨fun _=>rfl,hK _ ?_⟩;clear hK K));(refine wpH_takeQ 17 (fun K hK=>?_);simp only [Qzs] at hK;go_simp;first|(refine hK _ ?_;clear hK K)|(apply Exists.intro;refine ⟨fun _=>rfl,hK _ ?_⟩;clear hK K));(refine wpH_takeQ 18 (fun K hK=>?_);simp only [Qzs] at hK;go_simp;first|(refine hK _ ?_;clear hK K)|(apply Exists.intro;refine ⟨fun _=>rfl,hK _ ?_⟩;clear hK K));(refine wpH_takeQ 19 (fun K hK=>?_);simp only [Qzs] at hK;go_simp;first|(refine hK _ ?_;clear hK K)|(apply Exists.intro;refine ⟨fun _=>rfl,hK _ ?_⟩;clear hK K));(refine wpH_takeQ 20 (fun K hK=>?_);simp only [Qzs] at hK;go_simp;first|(refine hK _ ?_;clear hK K)|(apply Exists.intro;refine ⟨fun _=>rfl,hK _ ?_⟩;clear hK K))
   refine Q0e 21 (by rfl) (by kernel_rfl) (fun K hK=>?_)
   refine Q1d (by rfl) 77 (.tmp 2) (.tmp 28) (by rfl) (w.heap.size+1) [.bool true,.slice none 0 0,.slice (some ⟨u2.heap.size,0,none⟩) 2 2] (by rfl) (by rfl) Q0a hz4 (by rfl) (by rfl) (by intro u hu;simp at hu;rcases hu with rfl|rfl|rfl<;>rfl) (fun u5 o5 c5 r5=>?_)
   have hS5:=hS4.grown r5 (by simp)
   refine hK _ _ hS5 ?_;clear hK K
   have hbel5:=hbel4.grown r5 hbel4.size (fun j hj=>by cases hj;omega)
   (refine wpH_takeQ 22 (fun K hK=>?_);simp only [Qzs] at hK;go_simp;first|(refine hK _ ?_;clear hK K)|(apply Exists.intro;refine ⟨fun _=>rfl,hK _ ?_⟩;clear hK K))
   refine Q16 (by kernel_rfl) ?_
   clear k2
   go_wp2
   have hokt:ok=false:=by rw [Hokk.out,Hv0.out];simp
   subst hokt
   exact bodyPost_ret (Q04 rfl _ _ (w.heap.size+1) Q0a o5 rfl rfl rfl) rfl ⟨true,none,0,0,[],some ⟨u2.heap.size,0,none⟩,2,2,[],rfl,fun h=>by simp at h,hbel5⟩
  ·have hi0:(0:Int)<(vn:Int):=by omega
   have hi1:decide ((vn:Int)≤1024)=false:=by rw [decide_eq_false_iff_not];omega
   go_enter Tryz.func127,Tryz.ntmps127
   go_wp2_with (go_at_call 150;refine (Ct.out _ (hp.below hbel1)).mono ?_;rintro e w2 ⟨tv,rfl,ht2,b2⟩;have hs2:=hs1.kept b2;have kcell:=(hs2.cell 0).trans (show _=some (Value.int .i64 1) from rfl);have hz2:=hz1.kept b2;have hbel2:=Below.then hbel1 b2;obtain ⟨ga,gc,rfl,_⟩:=ht2.form' tn Htn.out.symm)
   have hv2:=hv.below hbel2
   have c1:=fun x=>Q0z ga tn gc x
   have c2:=fun x=>Q0z va vn vc x
   have C1:=Qhd c1
   have C2:=Qhd c2
   have hk2:CellAt ⟨w.heap.size,2,none⟩ (.slice va vn vc) w2:=(hs2.cell 2).trans rfl
   have k2:∀ u:In (CellAt ⟨w.heap.size,2,none⟩ (.slice va vn vc)),u.val.cell? ⟨w.heap.size,2,none⟩=some (.slice va vn vc):=fun u=>u.held
   clear c1 c2 hs1 hz1 hbel1 b2 kcell
   refine Q0t (CellAt ⟨w.heap.size,2,none⟩ (.slice va vn vc)) (by kernel_rfl) ?_;intro u0 hu0;simp only [List.length_cons,List.length_nil,Nat.reduceAdd,List.replicate_succ,List.replicate_zero]
   have hb0:Below w2.heap.size w2 u0:=by rw [hu0];exact (Below.refl _ _).drew
   have hS0:=hk2.below hb0
   clear hu0 hk2
   (refine wpH_takeQ 0 (fun K hK=>?_);simp only [Qzs] at hK;go_simp;first|(refine hK _ ?_;clear hK K)|(apply Exists.intro;refine ⟨fun _=>rfl,hK _ ?_⟩;clear hK K));(refine wpH_takeQ 2 (fun K hK=>?_);simp only [Qzs] at hK;go_simp;first|(refine hK _ ?_;clear hK K)|(apply Exists.intro;refine ⟨fun _=>rfl,hK _ ?_⟩;clear hK K));(refine wpH_takeQ 3 (fun K hK=>?_);simp only [Qzs] at hK;go_simp;first|(refine hK _ ?_;clear hK K)|(apply Exists.intro;refine ⟨fun _=>rfl,hK _ ?_⟩;clear hK K));(refine wpH_takeQ 7 (fun K hK=>?_);simp only [Qzs] at hK;go_simp;first|(refine hK _ ?_;clear hK K)|(apply Exists.intro;refine ⟨fun _=>rfl,hK _ ?_⟩;clear hK K));(refine wpH_takeQ 8 (fun K hK=>?_);simp only [Qzs] at hK;go_simp;first|(refine hK _ ?_;clear hK K)|(apply Exists.intro;refine ⟨fun _=>rfl,hK _ ?_⟩;clear hK K))
   (refine Q0e 1 (by rfl) (by kernel_rfl) (fun K hK=>?_);simp only [Qzs] at hK;go_simp)
   (with_reducible refine (C1.out _).mono ?_)
   rintro e u1 ⟨rfl,b1⟩
   have hS1:=hS0.below b1
   refine hK _ _ hS1 ?_;clear hK K
   (refine Q0e 4 (by rfl) (by kernel_rfl) (fun K hK=>?_);simp only [Qzs] at hK;go_simp)
   (with_reducible refine (C2.out _).mono ?_)
   rintro e u2 ⟨rfl,b2⟩
   have hS2:=hS1.below b2
   refine hK _ _ hS2 ?_;clear hK K
   have b02:=Below.then (Below.then hb0 b1) b2
   have ht3:=ht2.below b02
   have hv3:=hv2.below b02
   have hr3:=Row.built Q0p u2 77 [txt (.slice ga tn gc) T,txt (.slice va vn vc) v] 2 rfl (by unfold maxLen;omega)
   (refine Q0e 5 (by rfl) (by kernel_rfl) (fun K hK=>?_);simp only [Qzs] at hK;go_simp)
   have b3:Below u2.heap.size u2 (u2.alloc (.cells #[.bool false,.slice ga tn gc,.slice none 0 0,.bool false,.slice va vn vc,.slice none 0 0] 77)):=Qba _ _
   have hS3:=hS2.below b3
   refine hK _ _ hS3 ?_;clear hK K
   (refine Q0e 6 (by rfl) (by kernel_rfl) (fun K hK=>?_);simp only [Qzs] at hK;go_simp)
   (with_reducible refine (Q2i _ _ _ _).mono ?_)
   rintro e u4 ⟨rfl,b4⟩
   have b34:=Below.then b3 b4
   have hS4:=hS3.below b4
   refine hK _ _ hS4 ?_;clear hK K
   have b04:=Below.then b02 b34
   have ht4:=ht3.below b34
   have hv4:=hv3.below b34
   have hr4:=hr3.kept b4
   have hz4:=hz2.kept b04
   have hbel4:=Below.then hbel2 b04
   (refine wpH_takeQ 9 (fun K hK=>?_);simp only [Qzs] at hK;go_simp;first|(refine hK _ ?_;clear hK K)|(apply Exists.intro;refine ⟨fun _=>rfl,hK _ ?_⟩;clear hK K));(refine wpH_takeQ 10 (fun K hK=>?_);simp only [Qzs] at hK;go_simp;first|(refine hK _ ?_;clear hK K)|(apply Exists.intro;refine ⟨fun _=>rfl,hK _ ?_⟩;clear hK K));(refine wpH_takeQ 11 (fun K hK=>?_);simp only [Qzs] at hK;go_simp;first|(refine hK _ ?_;clear hK K)|(apply Exists.intro;refine ⟨fun _=>rfl,hK _ ?_⟩;clear hK K));(refine wpH_takeQ 12 (fun K hK=>?_);simp only [Qzs] at hK;go_simp;first|(refine hK _ ?_;clear hK K)|(apply Exists.intro;refine ⟨fun _=>rfl,hK _ ?_⟩;clear hK K));(refine wpH_takeQ 13 (fun K hK=>?_);simp only [Qzs] at hK;go_simp;first|(refine hK _ ?_;clear hK K)|(apply Exists.intro;refine ⟨fun _=>rfl,hK _ ?_⟩;clear hK K));(refine wpH_takeQ 14 (fun K hK=>?_);simp only [Qzs] at hK;go_simp;first|(refine hK _ ?_;clear hK K)|(apply Exists.intro;refine ⟨fun _=>rfl,hK _ ?_⟩;clear hK K));(refine wpH_takeQ 15 (fun K hK=>?_);simp only [Qzs] at hK;go_simp;first|(refine hK _ ?_;clear hK K)|(apply Exists.intro;refine ⟨fun _=>rfl,hK _ ?_⟩;clear hK K));(refine wpH_takeQ 16 (fun K hK=>?_);simp only [Qzs] at hK;go_simp;first|(refine hK _ ?_;clear hK K)|(apply Exists.intro;refine ⟨fun _=>rfl,hK _ ?_⟩;clear hK K));(refine wpH_takeQ 17 (fun K hK=>?_);simp only [Qzs] at hK;go_simp;first|(refine hK _ ?_;clear hK K)|(apply Exists.intro;refine ⟨fun _=>rfl,hK _ ?_⟩;clear hK K));(refine wpH_takeQ 18 (fun K hK=>?_);simp only [Qzs] at hK;go_simp;first|(refine hK _ ?_;clear hK K)|(apply Exists.intro;refine ⟨fun _=>rfl,hK _ ?_⟩;clear hK K));(refine wpH_takeQ 19 (fun K hK=>?_);simp only [Qzs] at hK;go_simp;first|(refine hK _ ?_;clear hK K)|(apply Exists.intro;refine ⟨fun _=>rfl,hK _ ?_⟩;clear hK K));(refine wpH_takeQ 20 (fun K hK=>?_);simp only [Qzs] at hK;go_simp;first|(refine hK _ ?_;clear hK K)|(apply Exists.intro;refine ⟨fun _=>rfl,hK _ ?_⟩;clear hK K))
   refine Q0e 21 (by rfl) (by kernel_rfl) (fun K hK=>?_)
   refine Q1d (by rfl) 77 (.tmp 2) (.tmp 28) (by rfl) (w.heap.size+1) [.bool true,.slice none 0 0,.slice (some ⟨u2.heap.size,0,none⟩) 2 2] (by rfl) (by rfl) Q0a hz4 (by rfl) (by rfl) (by intro u hu;simp at hu;rcases hu with rfl|rfl|rfl<;>rfl) (fun u5 o5 c5 r5=>?_)
   have hS5:=hS4.grown r5 (by simp)
   refine hK _ _ hS5 ?_;clear hK K
   have hbel5:=hbel4.grown r5 hbel4.size (fun j hj=>by cases hj;omega)
   (refine wpH_takeQ 22 (fun K hK=>?_);simp only [Qzs] at hK;go_simp;first|(refine hK _ ?_;clear hK K)|(apply Exists.intro;refine ⟨fun _=>rfl,hK _ ?_⟩;clear hK K))
   refine Q16 (by kernel_rfl) ?_
   clear k2
   go_wp2
   have hokt:ok=false:=by rw [Hokk.out];simp [hv1]
   subst hokt
   exact bodyPost_ret (Q04 rfl _ _ (w.heap.size+1) Q0a o5 rfl rfl rfl) rfl ⟨true,none,0,0,[],some ⟨u2.heap.size,0,none⟩,2,2,[],rfl,fun h=>by simp at h,hbel5⟩
  ·have hi0:(0:Int)<(vn:Int):=by omega
   have hi1:(vn:Int)≤1024:=by omega
   go_enter Tryz.func127,Tryz.ntmps127
   go_wp2_with (go_at_call 150;refine (Ct.out _ (hp.below hbel1)).mono ?_;rintro e w2 ⟨tv,rfl,ht2,b2⟩;have hs2:=hs1.kept b2;have kcell:=(hs2.cell 0).trans (show _=some (Value.int .i64 1) from rfl);have hz2:=hz1.kept b2;have hbel2:=Below.then hbel1 b2;obtain ⟨ga,gc,rfl,_⟩:=ht2.form' tn Htn.out.symm)
   have hv2:=hv.below hbel2
   have c1:=fun x=>Q0z ga tn gc x
   have c2:=fun x=>Q0z va vn vc x
   have C1:=Qhd c1
   have C2:=Qhd c2
   have hk2:CellAt ⟨w.heap.size,2,none⟩ (.slice va vn vc) w2:=(hs2.cell 2).trans rfl
   have k2:∀ u:In (CellAt ⟨w.heap.size,2,none⟩ (.slice va vn vc)),u.val.cell? ⟨w.heap.size,2,none⟩=some (.slice va vn vc):=fun u=>u.held
   clear c1 c2 hs1 hz1 hbel1 b2 kcell
   refine Q0t (CellAt ⟨w.heap.size,2,none⟩ (.slice va vn vc)) (by kernel_rfl) ?_;intro u0 hu0;simp only [List.length_cons,List.length_nil,Nat.reduceAdd,List.replicate_succ,List.replicate_zero]
   have hb0:Below w2.heap.size w2 u0:=by rw [hu0];exact (Below.refl _ _).drew
   have hS0:=hk2.below hb0
   clear hu0 hk2
   (refine wpH_takeQ 0 (fun K hK=>?_);simp only [Qzs] at hK;go_simp;first|(refine hK _ ?_;clear hK K)|(apply Exists.intro;refine ⟨fun _=>rfl,hK _ ?_⟩;clear hK K));(refine wpH_takeQ 2 (fun K hK=>?_);simp only [Qzs] at hK;go_simp;first|(refine hK _ ?_;clear hK K)|(apply Exists.intro;refine ⟨fun _=>rfl,hK _ ?_⟩;clear hK K));(refine wpH_takeQ 3 (fun K hK=>?_);simp only [Qzs] at hK;go_simp;first|(refine hK _ ?_;clear hK K)|(apply Exists.intro;refine ⟨fun _=>rfl,hK _ ?_⟩;clear hK K));(refine wpH_takeQ 7 (fun K hK=>?_);simp only [Qzs] at hK;go_simp;first|(refine hK _ ?_;clear hK K)|(apply Exists.intro;refine ⟨fun _=>rfl,hK _ ?_⟩;clear hK K));(refine wpH_takeQ 8 (fun K hK=>?_);simp only [Qzs] at hK;go_simp;first|(refine hK _ ?_;clear hK K)|(apply Exists.intro;refine ⟨fun _=>rfl,hK _ ?_⟩;clear hK K))
   (refine Q0e 1 (by rfl) (by kernel_rfl) (fun K hK=>?_);simp only [Qzs] at hK;go_simp)
   (with_reducible refine (C1.out _).mono ?_)
   rintro e u1 ⟨rfl,b1⟩
   have hS1:=hS0.below b1
   refine hK _ _ hS1 ?_;clear hK K
   (refine Q0e 4 (by rfl) (by kernel_rfl) (fun K hK=>?_);simp only [Qzs] at hK;go_simp)
   (with_reducible refine (C2.out _).mono ?_)
   rintro e u2 ⟨rfl,b2⟩
   have hS2:=hS1.below b2
   refine hK _ _ hS2 ?_;clear hK K
   have b02:=Below.then (Below.then hb0 b1) b2
   have ht3:=ht2.below b02
   have hv3:=hv2.below b02
   have hr3:=Row.built Q0p u2 77 [txt (.slice ga tn gc) T,txt (.slice va vn vc) v] 2 rfl (by unfold maxLen;omega)
   (refine Q0e 5 (by rfl) (by kernel_rfl) (fun K hK=>?_);simp only [Qzs] at hK;go_simp)
   have b3:Below u2.heap.size u2 (u2.alloc (.cells #[.bool false,.slice ga tn gc,.slice none 0 0,.bool false,.slice va vn vc,.slice none 0 0] 77)):=Qba _ _
   have hS3:=hS2.below b3
   refine hK _ _ hS3 ?_;clear hK K
   (refine Q0e 6 (by rfl) (by kernel_rfl) (fun K hK=>?_);simp only [Qzs] at hK;go_simp)
   (with_reducible refine (Q2i _ _ _ _).mono ?_)
   rintro e u4 ⟨rfl,b4⟩
   have b34:=Below.then b3 b4
   have hS4:=hS3.below b4
   refine hK _ _ hS4 ?_;clear hK K
   have b04:=Below.then b02 b34
   have ht4:=ht3.below b34
   have hv4:=hv3.below b34
   have hr4:=hr3.kept b4
   have hz4:=hz2.kept b04
   have hbel4:=Below.then hbel2 b04
   (refine wpH_takeQ 9 (fun K hK=>?_);simp only [Qzs] at hK;go_simp;first|(refine hK _ ?_;clear hK K)|(apply Exists.intro;refine ⟨fun _=>rfl,hK _ ?_⟩;clear hK K));(refine wpH_takeQ 10 (fun K hK=>?_);simp only [Qzs] at hK;go_simp;first|(refine hK _ ?_;clear hK K)|(apply Exists.intro;refine ⟨fun _=>rfl,hK _ ?_⟩;clear hK K));(refine wpH_takeQ 11 (fun K hK=>?_);simp only [Qzs] at hK;go_simp;first|(refine hK _ ?_;clear hK K)|(apply Exists.intro;refine ⟨fun _=>rfl,hK _ ?_⟩;clear hK K));(refine wpH_takeQ 12 (fun K hK=>?_);simp only [Qzs] at hK;go_simp;first|(refine hK _ ?_;clear hK K)|(apply Exists.intro;refine ⟨fun _=>rfl,hK _ ?_⟩;clear hK K));(refine wpH_takeQ 13 (fun K hK=>?_);simp only [Qzs] at hK;go_simp;first|(refine hK _ ?_;clear hK K)|(apply Exists.intro;refine ⟨fun _=>rfl,hK _ ?_⟩;clear hK K));(refine wpH_takeQ 14 (fun K hK=>?_);simp only [Qzs] at hK;go_simp;first|(refine hK _ ?_;clear hK K)|(apply Exists.intro;refine ⟨fun _=>rfl,hK _ ?_⟩;clear hK K));(refine wpH_takeQ 15 (fun K hK=>?_);simp only [Qzs] at hK;go_simp;first|(refine hK _ ?_;clear hK K)|(apply Exists.intro;refine ⟨fun _=>rfl,hK _ ?_⟩;clear hK K));(refine wpH_takeQ 16 (fun K hK=>?_);simp only [Qzs] at hK;go_simp;first|(refine hK _ ?_;clear hK K)|(apply Exists.intro;refine ⟨fun _=>rfl,hK _ ?_⟩;clear hK K));(refine wpH_takeQ 17 (fun K hK=>?_);simp only [Qzs] at hK;go_simp;first|(refine hK _ ?_;clear hK K)|(apply Exists.intro;refine ⟨fun _=>rfl,hK _ ?_⟩;clear hK K));(refine wpH_takeQ 18 (fun K hK=>?_);simp only [Qzs] at hK;go_simp;first|(refine hK _ ?_;clear hK K)|(apply Exists.intro;refine ⟨fun _=>rfl,hK _ ?_⟩;clear hK K));(refine wpH_takeQ 19 (fun K hK=>?_);simp only [Qzs] at hK;go_simp;first|(refine hK _ ?_;clear hK K)|(apply Exists.intro;refine ⟨fun _=>rfl,hK _ ?_⟩;clear hK K));(refine wpH_takeQ 20 (fun K hK=>?_);simp only [Qzs] at hK;go_simp;first|(refine hK _ ?_;clear hK K)|(apply Exists.intro;refine ⟨fun _=>rfl,hK _ ?_⟩;clear hK K))
   refine Q0e 21 (by rfl) (by kernel_rfl) (fun K hK=>?_)
   refine Q1d (by rfl) 77 (.tmp 2) (.tmp 28) (by rfl) (w.heap.size+1) [.bool true,.slice none 0 0,.slice (some ⟨u2.heap.size,0,none⟩) 2 2] (by rfl) (by rfl) Q0a hz4 (by rfl) (by rfl) (by intro u hu;simp at hu;rcases hu with rfl|rfl|rfl<;>rfl) (fun u5 o5 c5 r5=>?_)
   have hS5:=hS4.grown r5 (by simp)
   refine hK _ _ hS5 ?_;clear hK K
   have hbel5:=hbel4.grown r5 hbel4.size (fun j hj=>by cases hj;omega)
   (refine wpH_takeQ 22 (fun K hK=>?_);simp only [Qzs] at hK;go_simp;first|(refine hK _ ?_;clear hK K)|(apply Exists.intro;refine ⟨fun _=>rfl,hK _ ?_⟩;clear hK K))
   refine Q16 (by kernel_rfl) ?_
   clear k2
   go_wp2
   have hokt:ok=true:=by rw [Hokk.out,Hok.out];simp [show 1≤vn from hv0,hv1]
   subst hokt
   have ht5:=Bytes.off ht4 hz4 (by intro u hu k;simp at hu;rcases hu with rfl|rfl|rfl<;>simp) r5
   have hv5:=hv.below hbel5
   have hr5:=RowOf.grownNe hr4 r5 (by have:=hz2.lt;have:=b02.size;omega)
   refine bodyPost_ret (Q04 rfl _ _ (w.heap.size+1) Q0a o5 rfl rfl rfl) rfl ⟨true,none,0,0,[],some ⟨u2.heap.size,0,none⟩,2,2,[txt (.slice ga tn gc) T,txt (.slice va vn vc) v],rfl,fun _=>⟨?_,?_,?_⟩,hbel5⟩
   ·exact IsItm.lst hr5 (Q4o (ps:=[(.slice ga tn gc,T),(.slice va vn vc,v)]) (by intro p hp;simp at hp;rcases hp with rfl|rfl;exact ht5;exact hv5))
   ·exact Q19 _ [(.slice ga tn gc,T),(.slice va vn vc,v)]
   ·refine Nat.le_trans (Nat.le_of_eq (Q2m _ (txts [(.slice ga tn gc,T),(.slice va vn vc,v)]))) ?_
    rw [Q1w]
    have:=HlT.out
    have:=Hvn.out
    simp;omega
 ·rw [Q81] at hok
  rw [hE] at ct
  obtain ⟨T,hT⟩:∃ T,T=joinR (tagL p true):=⟨_,rfl⟩
  rw [←hT] at hTl ⊢
  simp only [←hT] at ct
  obtain ⟨ok,hokk⟩:∃ ok,ok=(!wrongB p&&decide (1≤vn)&&decide (vn≤1024)):=⟨_,rfl⟩
  rw [←hokk]
  have hlT:T.length≤4194310:=by omega
  obtain ⟨tn,htn⟩:∃ tn,tn=T.length:=⟨_,rfl⟩
  have Htn:=Qhd htn
  have Ct:=Qhd ct
  have Hokk:=Qhd hokk
  have Hok:=Qhd hok
  have HlT:=Qhd hlT
  have Hvn:=Qhd hvn
  clear ct hT htn hTl hok hE hokk hlT hvn
  ·skip
   go_enter Tryz.func127,Tryz.ntmps127
   go_wp2_with (go_at_call 150;refine (Ct.out _ (hp.below hbel1)).mono ?_;rintro e w2 ⟨tv,rfl,ht2,b2⟩;have hs2:=hs1.kept b2;have kcell:=(hs2.cell 0).trans (show _=some (Value.int .i64 1) from rfl);have hz2:=hz1.kept b2;have hbel2:=Below.then hbel1 b2;obtain ⟨ga,gc,rfl,_⟩:=ht2.form' tn Htn.out.symm)
   have hv2:=hv.below hbel2
   have c1:=fun x=>Q0z ga tn gc x
   have c2:=fun x=>Q0z va vn vc x
   have C1:=Qhd c1
   have C2:=Qhd c2
   have hk2:CellAt ⟨w.heap.size,2,none⟩ (.slice va vn vc) w2:=(hs2.cell 2).trans rfl
   have k2:∀ u:In (CellAt ⟨w.heap.size,2,none⟩ (.slice va vn vc)),u.val.cell? ⟨w.heap.size,2,none⟩=some (.slice va vn vc):=fun u=>u.held
   clear c1 c2 hs1 hz1 hbel1 b2 kcell
   refine Q0t (CellAt ⟨w.heap.size,2,none⟩ (.slice va vn vc)) (by kernel_rfl) ?_;intro u0 hu0;simp only [List.length_cons,List.length_nil,Nat.reduceAdd,List.replicate_succ,List.replicate_zero]
   have hb0:Below w2.heap.size w2 u0:=by rw [hu0];exact (Below.refl _ _).drew
   have hS0:=hk2.below hb0
   clear hu0 hk2
   (refine wpH_takeQ 0 (fun K hK=>?_);simp only [Qzs] at hK;go_simp;first|(refine hK _ ?_;clear hK K)|(apply Exists.intro;refine ⟨fun _=>rfl,hK _ ?_⟩;clear hK K));(refine wpH_takeQ 2 (fun K hK=>?_);simp only [Qzs] at hK;go_simp;first|(refine hK _ ?_;clear hK K)|(apply Exists.intro;refine ⟨fun _=>rfl,hK _ ?_⟩;clear hK K));(refine wpH_takeQ 3 (fun K hK=>?_);simp only [Qzs] at hK;go_simp;first|(refine hK _ ?_;clear hK K)|(apply Exists.intro;refine ⟨fun _=>rfl,hK _ ?_⟩;clear hK K));(refine wpH_takeQ 7 (fun K hK=>?_);simp only [Qzs] at hK;go_simp;first|(refine hK _ ?_;clear hK K)|(apply Exists.intro;refine ⟨fun _=>rfl,hK _ ?_⟩;clear hK K));(refine wpH_takeQ 8 (fun K hK=>?_);simp only [Qzs] at hK;go_simp;first|(refine hK _ ?_;clear hK K)|(apply Exists.intro;refine ⟨fun _=>rfl,hK _ ?_⟩;clear hK K))
   (refine Q0e 1 (by rfl) (by kernel_rfl) (fun K hK=>?_);simp only [Qzs] at hK;go_simp)
   (with_reducible refine (C1.out _).mono ?_)
   rintro e u1 ⟨rfl,b1⟩
   have hS1:=hS0.below b1
   refine hK _ _ hS1 ?_;clear hK K
   (refine Q0e 4 (by rfl) (by kernel_rfl) (fun K hK=>?_);simp only [Qzs] at hK;go_simp)
   (with_reducible refine (C2.out _).mono ?_)
   rintro e u2 ⟨rfl,b2⟩
   have hS2:=hS1.below b2
   refine hK _ _ hS2 ?_;clear hK K
   have b02:=Below.then (Below.then hb0 b1) b2
   have ht3:=ht2.below b02
   have hv3:=hv2.below b02
   have hr3:=Row.built Q0p u2 77 [txt (.slice ga tn gc) T,txt (.slice va vn vc) v] 2 rfl (by unfold maxLen;omega)
   (refine Q0e 5 (by rfl) (by kernel_rfl) (fun K hK=>?_);simp only [Qzs] at hK;go_simp)
   have b3:Below u2.heap.size u2 (u2.alloc (.cells #[.bool false,.slice ga tn gc,.slice none 0 0,.bool false,.slice va vn vc,.slice none 0 0] 77)):=Qba _ _
   have hS3:=hS2.below b3
   refine hK _ _ hS3 ?_;clear hK K
   (refine Q0e 6 (by rfl) (by kernel_rfl) (fun K hK=>?_);simp only [Qzs] at hK;go_simp)
   (with_reducible refine (Q2i _ _ _ _).mono ?_)
   rintro e u4 ⟨rfl,b4⟩
   have b34:=Below.then b3 b4
   have hS4:=hS3.below b4
   refine hK _ _ hS4 ?_;clear hK K
   have b04:=Below.then b02 b34
   have ht4:=ht3.below b34
   have hv4:=hv3.below b34
   have hr4:=hr3.kept b4
   have hz4:=hz2.kept b04
   have hbel4:=Below.then hbel2 b04
   (refine wpH_takeQ 9 (fun K hK=>?_);simp only [Qzs] at hK;go_simp;first|(refine hK _ ?_;clear hK K)|(apply Exists.intro;refine ⟨fun _=>rfl,hK _ ?_⟩;clear hK K));(refine wpH_takeQ 10 (fun K hK=>?_);simp only [Qzs] at hK;go_simp;first|(refine hK _ ?_;clear hK K)|(apply Exists.intro;refine ⟨fun _=>rfl,hK _ ?_⟩;clear hK K));(refine wpH_takeQ 11 (fun K hK=>?_);simp only [Qzs] at hK;go_simp;first|(refine hK _ ?_;clear hK K)|(apply Exists.intro;refine ⟨fun _=>rfl,hK _ ?_⟩;clear hK K));(refine wpH_takeQ 12 (fun K hK=>?_);simp only [Qzs] at hK;go_simp;first|(refine hK _ ?_;clear hK K)|(apply Exists.intro;refine ⟨fun _=>rfl,hK _ ?_⟩;clear hK K));(refine wpH_takeQ 13 (fun K hK=>?_);simp only [Qzs] at hK;go_simp;first|(refine hK _ ?_;clear hK K)|(apply Exists.intro;refine ⟨fun _=>rfl,hK _ ?_⟩;clear hK K));(refine wpH_takeQ 14 (fun K hK=>?_);simp only [Qzs] at hK;go_simp;first|(refine hK _ ?_;clear hK K)|(apply Exists.intro;refine ⟨fun _=>rfl,hK _ ?_⟩;clear hK K));(refine wpH_takeQ 15 (fun K hK=>?_);simp only [Qzs] at hK;go_simp;first|(refine hK _ ?_;clear hK K)|(apply Exists.intro;refine ⟨fun _=>rfl,hK _ ?_⟩;clear hK K));(refine wpH_takeQ 16 (fun K hK=>?_);simp only [Qzs] at hK;go_simp;first|(refine hK _ ?_;clear hK K)|(apply Exists.intro;refine ⟨fun _=>rfl,hK _ ?_⟩;clear hK K));(refine wpH_takeQ 17 (fun K hK=>?_);simp only [Qzs] at hK;go_simp;first|(refine hK _ ?_;clear hK K)|(apply Exists.intro;refine ⟨fun _=>rfl,hK _ ?_⟩;clear hK K));(refine wpH_takeQ 18 (fun K hK=>?_);simp only [Qzs] at hK;go_simp;first|(refine hK _ ?_;clear hK K)|(apply Exists.intro;refine ⟨fun _=>rfl,hK _ ?_⟩;clear hK K));(refine wpH_takeQ 19 (fun K hK=>?_);simp only [Qzs] at hK;go_simp;first|(refine hK _ ?_;clear hK K)|(apply Exists.intro;refine ⟨fun _=>rfl,hK _ ?_⟩;clear hK K));(refine wpH_takeQ 20 (fun K hK=>?_);simp only [Qzs] at hK;go_simp;first|(refine hK _ ?_;clear hK K)|(apply Exists.intro;refine ⟨fun _=>rfl,hK _ ?_⟩;clear hK K))
   refine Q0e 21 (by rfl) (by kernel_rfl) (fun K hK=>?_)
   refine Q1d (by rfl) 77 (.tmp 2) (.tmp 28) (by rfl) (w.heap.size+1) [.bool true,.slice none 0 0,.slice (some ⟨u2.heap.size,0,none⟩) 2 2] (by rfl) (by rfl) Q0a hz4 (by rfl) (by rfl) (by intro u hu;simp at hu;rcases hu with rfl|rfl|rfl<;>rfl) (fun u5 o5 c5 r5=>?_)
   have hS5:=hS4.grown r5 (by simp)
   refine hK _ _ hS5 ?_;clear hK K
   have hbel5:=hbel4.grown r5 hbel4.size (fun j hj=>by cases hj;omega)
   (refine wpH_takeQ 22 (fun K hK=>?_);simp only [Qzs] at hK;go_simp;first|(refine hK _ ?_;clear hK K)|(apply Exists.intro;refine ⟨fun _=>rfl,hK _ ?_⟩;clear hK K))
   refine Q16 (by kernel_rfl) ?_
   clear k2
   go_wp2
   have hokt:ok=false:=by rw [Hokk.out];rw [Hok.out];simp
   subst hokt
   exact bodyPost_ret (Q04 rfl _ _ (w.heap.size+1) Q0a o5 rfl rfl rfl) rfl ⟨true,none,0,0,[],some ⟨u2.heap.size,0,none⟩,2,2,[],rfl,fun h=>by simp at h,hbel5⟩
def ListTT (B:Nat)(v1 v2:Value)(T V:List UInt8):Ty:=fun v w=>∃ g:Nat,v=.agg #[.bool true,.slice none 0 0,.slice (some ⟨g,0,none⟩) 2 2]∧(B≤g∧RowOf icells 3 w (.slice (some ⟨g,0,none⟩) 2 2) [txt v1 T,txt v2 V])
theorem ListTT.mono (B:Nat)(v1 v2:Value)(T V:List UInt8):Mono (ListTT B v1 v2 T V):=fun _ _ _ ⟨g,h1,h0,h2⟩ hb=>⟨g,h1,h0,RowOf.kept h2 hb⟩
def PairB (B:Nat)(v1 v2:Value)(T V:List UInt8):Ty:=fun v w=>∃ g:Nat,v=.slice (some ⟨g,0,none⟩) 2 2∧(B≤g∧RowOf icells 3 w v [txt v1 T,txt v2 V])
theorem PairB.mono (B:Nat)(v1 v2:Value)(T V:List UInt8):Mono (PairB B v1 v2 T V):=fun _ _ _ ⟨g,h1,h0,h2⟩ hb=>⟨g,h1,h0,RowOf.kept h2 hb⟩
theorem Qhi (pa va ka:Option Addr)(pn pc vn vc kn kc:Nat)(p:List UInt8)(ps:List (Value × List UInt8))(hpn:p.length=pn)(hkn:ps.length=kn)(w:World)(hp:Bytes w (.slice pa pn pc) p)(hk:Texts w (.slice ka kn kc) ps)(hP:pn≤4194304)(hK:kn≤1048576)(hKs:∀ q∈ps,q.2.length≤1048576) :
  Calls Tryz.prog 127 #[.agg #[.int .i64 2,.slice pa pn pc,.slice va vn vc,.slice ka kn kc]] w (Q1l (!wrongB p&&decide (1≤pn)&&decide (kn=1)&&decide (((ps.map (·.2))[0]?.getD []).length=32)) (lsB [joinR (tagL p false),(ps.map (·.2))[0]?.getD []]) w):=by
 have hs1:Blk 134 ((w.alloc (.cells #[.int .i64 2,.slice pa pn pc,.slice va vn vc,.slice ka kn kc] 134)).alloc (.cells #[.bool false,.slice none 0 0,.slice none 0 0] 77)) w.heap.size [.int .i64 2,.slice pa pn pc,.slice va vn vc,.slice ka kn kc]:=(Blk.new w 134 _).alloc _
 have hz1:Blk 77 ((w.alloc (.cells #[.int .i64 2,.slice pa pn pc,.slice va vn vc,.slice ka kn kc] 134)).alloc (.cells #[.bool false,.slice none 0 0,.slice none 0 0] 77)) (w.heap.size+1) [.bool false,.slice none 0 0,.slice none 0 0]:=by
  have:=Blk.new (w.alloc (.cells #[.int .i64 2,.slice pa pn pc,.slice va vn vc,.slice ka kn kc] 134)) 77 [.bool false,.slice none 0 0,.slice none 0 0]
  simpa using this
 have hbel1:Below w.heap.size w ((w.alloc (.cells #[.int .i64 2,.slice pa pn pc,.slice va vn vc,.slice ka kn kc] 134)).alloc (.cells #[.bool false,.slice none 0 0,.slice none 0 0] 77)):=(Qba _ _).alloc (by simp) _
 have ct:=fun x h=>Q5q pa pn pc p false hpn x h (by omega)
 have hTl:=Q4e p false
 obtain ⟨T,hT⟩:∃ T,T=joinR (tagL p false):=⟨_,rfl⟩
 rw [←hT] at hTl ⊢
 simp only [←hT] at ct
 obtain ⟨B,hB⟩:∃ B,B=lsB [T,(ps.map (·.2))[0]?.getD []]:=⟨_,rfl⟩
 rw [←hB]
 obtain ⟨ok,hokk⟩:∃ ok,ok=(!wrongB p&&decide (1≤pn)&&decide (kn=1)&&decide (((ps.map (·.2))[0]?.getD []).length=32)):=⟨_,rfl⟩
 rw [←hokk]
 have hlT:T.length≤4194310:=by omega
 obtain ⟨tn,htn⟩:∃ tn,tn=T.length:=⟨_,rfl⟩
 have hw:=Qa9 (tagL p false)
 rw [Q81] at hw
 have Htn:=Qhd htn
 have Hokk:=Qhd hokk
 have HlT:=Qhd hlT
 have HB:=Qhd hB
 have Hkn:=Qhd hkn
 clear hT htn hTl hokk hlT hB hkn
 have hcase:(joinE (tagL p false)=1∧(!wrongB p)=false)∨((joinE (tagL p false)=0∧(!wrongB p)=true)∧(pn=0∨(0<pn∧kn≠1)∨(0<pn∧kn=1))):=by
  rcases hw with ⟨h1,h2⟩|⟨h1,h2⟩
  ·right;exact ⟨⟨h2,h1⟩,by omega⟩
  ·left;exact ⟨h2,h1⟩
 rcases hcase with ⟨hE,hwr⟩|⟨⟨hE,hwr⟩,hp0|⟨hp0,hk1⟩|⟨hp0,hk1⟩⟩
 ·rw [hE] at ct
  have Ct:=Qhd ct
  clear ct
  have Hwr:=Qhd hwr
  clear hE hwr hk hKs
  go_enter Tryz.func127,Tryz.ntmps127
  go_wp2_with (first
   |(go_at_call 150;refine (Ct.out _ (hp.below hbel1)).mono ?_;rintro e w2 ⟨tv,rfl,ht2,b2⟩;have hs2:=hs1.kept b2;have kcell:=(hs2.cell 0).trans (show _=some (Value.int .i64 2) from rfl);have kpath:=(hs2.cell 1).trans (show _=some (Value.slice pa pn pc) from rfl);have kkids:=(hs2.cell 3).trans (show _=some (Value.slice ka kn kc) from rfl);have hz2:=hz1.kept b2;have hbel2:=Below.then hbel1 b2;obtain ⟨ga,gc,rfl,_⟩:=ht2.form' tn Htn.out.symm)
   |((with_reducible show wpList _ _ _ (⟨none,.store _ _ _,_,_,_,_⟩::_) _ _);refine Qsa 77 2 67 (w.heap.size+1) [.bool false,.slice none 0 0,.slice none 0 0] Q0a hz2 (by rfl) (by rfl) (by intro u hu;simp at hu;rcases hu with rfl|rfl<;>rfl) (Below.refl _ _) (Nat.le_refl _) ?_;intro w5 hh5 _ hg5;have hbel5:=hbel2.grown hg5 hbel2.size (fun j hj=>by cases hj;omega)))
  have hokt:ok=false:=by rw [Hokk.out];rw [Hwr.out];simp
  subst hokt
  exact bodyPost_ret (Q04 rfl _ _ (w.heap.size+1) Q0a hh5 rfl rfl rfl) rfl ⟨false,none,0,0,[],none,0,0,[],rfl,fun h=>by simp at h,hbel5⟩
 ·rw [hE] at ct
  have Ct:=Qhd ct
  clear ct
  have Hwr:=Qhd hwr
  have Hp0:=Qhd hp0
  have hpe:((pn:Int)==0)=true:=by rw [beq_iff_eq];omega
  clear hE hwr hp0 hk hKs
  go_enter Tryz.func127,Tryz.ntmps127
  go_wp2_with (first
   |(go_at_call 150;refine (Ct.out _ (hp.below hbel1)).mono ?_;rintro e w2 ⟨tv,rfl,ht2,b2⟩;have hs2:=hs1.kept b2;have kcell:=(hs2.cell 0).trans (show _=some (Value.int .i64 2) from rfl);have kpath:=(hs2.cell 1).trans (show _=some (Value.slice pa pn pc) from rfl);have kkids:=(hs2.cell 3).trans (show _=some (Value.slice ka kn kc) from rfl);have hz2:=hz1.kept b2;have hbel2:=Below.then hbel1 b2;obtain ⟨ga,gc,rfl,_⟩:=ht2.form' tn Htn.out.symm)
   |((with_reducible show wpList _ _ _ (⟨none,.store _ _ _,_,_,_,_⟩::_) _ _);refine Qsa 77 2 67 (w.heap.size+1) [.bool false,.slice none 0 0,.slice none 0 0] Q0a hz2 (by rfl) (by rfl) (by intro u hu;simp at hu;rcases hu with rfl|rfl<;>rfl) (Below.refl _ _) (Nat.le_refl _) ?_;intro w5 hh5 _ hg5;have hbel5:=hbel2.grown hg5 hbel2.size (fun j hj=>by cases hj;omega)))
  have hokt:ok=false:=by rw [Hokk.out];rw [Hp0.out];simp
  subst hokt
  exact bodyPost_ret (Q04 rfl _ _ (w.heap.size+1) Q0a hh5 rfl rfl rfl) rfl ⟨false,none,0,0,[],none,0,0,[],rfl,fun h=>by simp at h,hbel5⟩
 ·rw [hE] at ct
  have Ct:=Qhd ct
  clear ct
  have hpe:((pn:Int)==0)=false:=by rw [beq_eq_false_iff_ne];omega
  have hke:((kn:Int) != 1)=true:=by rw [bne_iff_ne];omega
  have Hk1:=Qhd hk1
  clear hE hwr hk hKs
  go_enter Tryz.func127,Tryz.ntmps127
  go_wp2_with (first
   |(go_at_call 150;refine (Ct.out _ (hp.below hbel1)).mono ?_;rintro e w2 ⟨tv,rfl,ht2,b2⟩;have hs2:=hs1.kept b2;have kcell:=(hs2.cell 0).trans (show _=some (Value.int .i64 2) from rfl);have kpath:=(hs2.cell 1).trans (show _=some (Value.slice pa pn pc) from rfl);have kkids:=(hs2.cell 3).trans (show _=some (Value.slice ka kn kc) from rfl);have hz2:=hz1.kept b2;have hbel2:=Below.then hbel1 b2;obtain ⟨ga,gc,rfl,_⟩:=ht2.form' tn Htn.out.symm)
   |((with_reducible show wpList _ _ _ (⟨none,.store _ _ _,_,_,_,_⟩::_) _ _);refine Qsa 77 2 67 (w.heap.size+1) [.bool false,.slice none 0 0,.slice none 0 0] Q0a hz2 (by rfl) (by rfl) (by intro u hu;simp at hu;rcases hu with rfl|rfl<;>rfl) (Below.refl _ _) (Nat.le_refl _) ?_;intro w5 hh5 _ hg5;have hbel5:=hbel2.grown hg5 hbel2.size (fun j hj=>by cases hj;omega)))
  have hokt:ok=false:=by rw [Hokk.out];simp [Hk1.out]
  subst hokt
  exact bodyPost_ret (Q04 rfl _ _ (w.heap.size+1) Q0a hh5 rfl rfl rfl) rfl ⟨false,none,0,0,[],none,0,0,[],rfl,fun h=>by simp at h,hbel5⟩
 ·rw [hE] at ct
  have Ct:=Qhd ct
  clear ct
  have hpe:((pn:Int)==0)=false:=by rw [beq_eq_false_iff_ne];omega
  obtain ⟨q,hq⟩:∃ q,ps=[q]:=List.length_eq_one_iff.1 (Hkn.out.trans hk1)
  subst hq
  subst hk1
  obtain ⟨kb,koff,q',rfl,hq',hkc,hkq⟩:=Texts.at hk 0 (by simp)
  obtain rfl:q=q':=by simpa using hq'
  obtain ⟨qv,ql⟩:=q
  simp only at hkc hkq
  obtain ⟨qa,qc,rfl,_,hqm⟩:=hkq.form
  have hql:ql.length≤1048576:=hKs (.slice qa ql.length qc,ql) (by simp)
  obtain ⟨qn,hqn⟩:∃ qn,qn=ql.length:=⟨_,rfl⟩
  rw [←hqn] at hkc hkq hql
  rw [Nat.add_zero] at hkc
  have hlt:=World.block_lt_of_cell? w _ hkc
  have cs:=fun x=>Qcm qa qn qc false x (by omega)
  have hgq:∀ qv:Value,((List.map (fun p:Value × List UInt8=>p.2) [(qv,ql)])[0]?.getD [])=ql:=fun _=>rfl
  have hB0:=HB.out
  have hok0:=Hokk.out
  rw [hgq,hwr] at hok0
  rw [hgq] at hB0
  have Hqn:=Qhd hqn
  by_cases h32:qn=32
  ·have hso:sumOk qn false=true:=by unfold sumOk;simp [h32]
   rw [hso] at cs
   have Cs:=Qhd cs
   have hokt:ok=true:=by rw [hok0,←Hqn.out];simp [h32,show 1≤pn from hp0]
   subst hokt
   have HB0:=Qhd hB0
   clear hE hwr hk hKs cs hso h32 hok0 hgq hB0 hqn hp0
   go_enter Tryz.func127,Tryz.ntmps127
   go_wp2_with (first
    |(go_at_call 150;refine (Ct.out _ (hp.below hbel1)).mono ?_;rintro e w2 ⟨tv,rfl,ht2,b2⟩;have hs2:=hs1.kept b2;have kcell:=(hs2.cell 0).trans (show _=some (Value.int .i64 2) from rfl);have kpath:=(hs2.cell 1).trans (show _=some (Value.slice pa pn pc) from rfl);have kkids:=(hs2.cell 3).trans (show _=some (Value.slice (some ⟨kb,koff,none⟩) 1 kc) from rfl);have hz2:=hz1.kept b2;have hbel2:=Below.then hbel1 b2;have hkc2:=(hbel2.cell (p:=⟨kb,koff,none⟩) hlt).trans hkc;obtain ⟨ga,gc,rfl,_⟩:=ht2.form' tn Htn.out.symm)
    |(go_at_call 151;(with_reducible refine (Cs.out _).mono ?_);rintro e w3 ⟨rfl,rfl⟩))
   have c1:=fun x=>Q0z ga tn gc x
   have c2:=fun x=>Q0z qa qn qc x
   have C1:=Qhd c1
   have C2:=Qhd c2
   clear c1 c2
   have k3:=fun u:Ext w2=>u.cell kkids
   have k4:=fun u:Ext w2=>u.cell hkc2
   have hv2:=hkq.below hbel2
   clear kcell kpath kkids
   refine Q02 w2 9 (by kernel_rfl) (by kernel_rfl) (Below.refl _ _) ?_;simp only [List.take_succ_cons,List.take_zero,List.take_nil]
   (refine Q01 (by rfl) (fun K hK=>?_);go_simp;refine hK _ ?_;clear hK K)
   (refine Q01 (by rfl) (fun K hK=>?_);go_simp;first|(refine hK _ ?_;clear hK K)|(apply Exists.intro;refine ⟨fun _=>?_,hK _ ?_⟩;exact C1.out _;clear hK K))
   iterate 4 (refine Q01 (by rfl) (fun K hK=>?_);go_simp;refine hK _ ?_;clear hK K)
   (refine Q01 (by rfl) (fun K hK=>?_);go_simp;first|(refine hK _ ?_;clear hK K)|(apply Exists.intro;refine ⟨fun _=>?_,hK _ ?_⟩;exact C2.out _;clear hK K))
   refine Q07 75 (PairB w2.heap.size (.slice ga tn gc) (.slice qa qn qc) T ql) rfl (of_decide_eq_true rfl) (PairB.mono _ _ _ _ _) (fun w3 hw3=>?_) ?_
   ·simp only [relOf,List.filter_nil,Q00]
    refine ⟨rfl,?_⟩
    go_simp
    exact ⟨Qba _ _,w3.heap.size,rfl,hw3.size,Row.built Q0p w3 77 [txt (.slice ga tn gc) T,txt (.slice qa qn qc) ql] 2 rfl (by unfold maxLen;omega)⟩
   refine Q07 76 (ListTT w2.heap.size (.slice ga tn gc) (.slice qa qn qc) T ql) rfl (of_decide_eq_true rfl) (ListTT.mono _ _ _ _ _) (fun w3 hw3=>?_) ?_
   ·change Q00 w3 [(75,_)] _ _
    rintro v33 ⟨g,rfl,hg0,hr⟩
    simp only [Q00]
    refine ⟨rfl,?_⟩
    go_simp
    refine (Q2i _ 2 2 w3).mono ?_
    rintro e w4 ⟨rfl,b4⟩
    exact ⟨_,rfl,⟨g,rfl,hg0,RowOf.kept hr b4⟩,b4⟩
   refine Q09 ?_
   intro u2 hb2 v75 _ v76 h76
   change wpList _ _ _ [_,_] _ _
   obtain ⟨g,rfl,hg0,hr⟩:=h76
   have hz3:=hz2.kept hb2
   have hbel3:=Below.then hbel2 hb2
   have ht3:=ht2.below hb2
   clear k3 k4
   go_wp2_with ((with_reducible show wpList _ _ _ (⟨none,.store _ _ _,_,_,_,_⟩::_) _ _);refine Qsa 77 2 76 (w.heap.size+1) [.bool true,.slice none 0 0,.slice (some ⟨g,0,none⟩) 2 2] Q0a hz3 (by rfl) (by rfl) (by intro u hu;simp at hu;rcases hu with rfl|rfl|rfl<;>rfl) (Below.refl _ _) (Nat.le_refl _) ?_;intro w5 hh5 _ hg5;have hbel5:=hbel3.grown hg5 hbel3.size (fun j hj=>by cases hj;omega))
   have ht5:=Bytes.off ht3 hz3 (by intro u hu k;simp at hu;rcases hu with rfl|rfl|rfl<;>simp) hg5
   have hv5:=hkq.below hbel5
   have hr5:=RowOf.grownNe hr hg5 (by have:=hz2.lt;omega)
   refine bodyPost_ret (Q04 rfl _ _ (w.heap.size+1) Q0a hh5 rfl rfl rfl) rfl ⟨true,none,0,0,[],some ⟨g,0,none⟩,2,2,[txt (.slice ga tn gc) T,txt (.slice qa qn qc) ql],rfl,fun _=>⟨?_,?_,?_⟩,hbel5⟩
   ·exact IsItm.lst hr5 (Q4o (ps:=[(.slice ga tn gc,T),(.slice qa qn qc,ql)]) (by intro p hp;simp at hp;rcases hp with rfl|rfl;exact ht5;exact hv5))
   ·rw [HB0.out];exact Q19 _ [(.slice ga tn gc,T),(.slice qa qn qc,ql)]
   ·refine Nat.le_trans (Nat.le_of_eq (Q2m _ (txts [(.slice ga tn gc,T),(.slice qa qn qc,ql)]))) ?_
    rw [Q1w]
    have:=HlT.out
    have:=Hqn.out
    simp;omega
  ·have hso:sumOk qn false=false:=by unfold sumOk;simp [h32]
   rw [hso] at cs
   have Cs:=Qhd cs
   have hok1:ok=false:=by rw [hok0,←Hqn.out];simp [h32]
   have Hok1:=Qhd hok1
   clear hE hwr hk hKs cs hso h32 hok0 hgq hB0 hqn hok1 hp0
   go_enter Tryz.func127,Tryz.ntmps127
   go_wp2_with (first
    |(go_at_call 150;refine (Ct.out _ (hp.below hbel1)).mono ?_;rintro e w2 ⟨tv,rfl,ht2,b2⟩;have hs2:=hs1.kept b2;have kcell:=(hs2.cell 0).trans (show _=some (Value.int .i64 2) from rfl);have kpath:=(hs2.cell 1).trans (show _=some (Value.slice pa pn pc) from rfl);have kkids:=(hs2.cell 3).trans (show _=some (Value.slice (some ⟨kb,koff,none⟩) 1 kc) from rfl);have hz2:=hz1.kept b2;have hbel2:=Below.then hbel1 b2;have hkc2:=(hbel2.cell (p:=⟨kb,koff,none⟩) hlt).trans hkc;obtain ⟨ga,gc,rfl,_⟩:=ht2.form' tn Htn.out.symm)
    |((with_reducible show wpList _ _ _ (⟨none,.store _ _ _,_,_,_,_⟩::_) _ _);refine Qsa 77 2 67 (w.heap.size+1) [.bool false,.slice none 0 0,.slice none 0 0] Q0a hz2 (by rfl) (by rfl) (by intro u hu;simp at hu;rcases hu with rfl|rfl<;>rfl) (Below.refl _ _) (Nat.le_refl _) ?_;intro w5 hh5 _ hg5;have hbel5:=hbel2.grown hg5 hbel2.size (fun j hj=>by cases hj;omega))
    |(go_at_call 151;(with_reducible refine (Cs.out _).mono ?_);rintro e w3 ⟨rfl,rfl⟩))
   have hokt:ok=false:=by exact Hok1.out
   subst hokt
   exact bodyPost_ret (Q04 rfl _ _ (w.heap.size+1) Q0a hh5 rfl rfl rfl) rfl ⟨false,none,0,0,[],none,0,0,[],rfl,fun h=>by simp at h,hbel5⟩
theorem Qhj (pa va ka:Option Addr)(pn pc vn vc kn kc:Nat)(p:List UInt8)(hpn:p.length=pn)(w:World)(hp:Bytes w (.slice pa pn pc) p)(hP:pn≤4194304) :
  Calls Tryz.prog 127 #[.agg #[.int .i64 0,.slice pa pn pc,.slice va vn vc,.slice ka kn kc]] w (Q1l true (textB []) w):=by
 have hs1:Blk 134 ((w.alloc (.cells #[.int .i64 0,.slice pa pn pc,.slice va vn vc,.slice ka kn kc] 134)).alloc (.cells #[.bool false,.slice none 0 0,.slice none 0 0] 77)) w.heap.size [.int .i64 0,.slice pa pn pc,.slice va vn vc,.slice ka kn kc]:=(Blk.new w 134 _).alloc _
 have hz1:Blk 77 ((w.alloc (.cells #[.int .i64 0,.slice pa pn pc,.slice va vn vc,.slice ka kn kc] 134)).alloc (.cells #[.bool false,.slice none 0 0,.slice none 0 0] 77)) (w.heap.size+1) [.bool false,.slice none 0 0,.slice none 0 0]:=by
  have:=Blk.new (w.alloc (.cells #[.int .i64 0,.slice pa pn pc,.slice va vn vc,.slice ka kn kc] 134)) 77 [.bool false,.slice none 0 0,.slice none 0 0]
  simpa using this
 have hbel1:Below w.heap.size w ((w.alloc (.cells #[.int .i64 0,.slice pa pn pc,.slice va vn vc,.slice ka kn kc] 134)).alloc (.cells #[.bool false,.slice none 0 0,.slice none 0 0] 77)):=(Qba _ _).alloc (by simp) _
 have ct:=fun x h=>Q5q pa pn pc p false hpn x h (by omega)
 obtain ⟨T,hT⟩:∃ T,T=joinR (tagL p false):=⟨_,rfl⟩
 obtain ⟨E,hE⟩:∃ E,E=joinE (tagL p false):=⟨_,rfl⟩
 simp only [←hT,←hE] at ct
 have Ct:=Qhd ct
 clear ct hT hE hpn
 go_enter Tryz.func127,Tryz.ntmps127
 go_wp2_with (first
  |(go_at_call 150;refine (Ct.out _ (hp.below hbel1)).mono ?_;rintro e w2 ⟨tv,rfl,ht2,b2⟩;have kcell:=((hs1.kept b2).cell 0).trans (show _=some (Value.int .i64 0) from rfl);have hz2:=hz1.kept b2;have hbel2:=Below.then hbel1 b2;obtain ⟨ga,gc,rfl,_⟩:=ht2.form)
  |(go_at_call 49;(with_reducible refine (Q0z _ _ _ _).mono ?_);rintro e w3 ⟨rfl,b3⟩;have hz3:=hz2.kept b3;have hbel3:=Below.then hbel2 b3)
  |((with_reducible show wpList _ _ _ (⟨none,.store _ _ _,_,_,_,_⟩::_) _ _);refine Qsa 77 2 19 (w.heap.size+1) [.bool false,.slice none 0 0,.slice none 0 0] Q0a hz3 (by rfl) (by rfl) (by intro u hu;simp at hu;rcases hu with rfl|rfl<;>rfl) (Below.refl _ _) (Nat.le_refl _) ?_;intro w5 hh5 _ hg5;have hbel5:=hbel3.grown hg5 hbel3.size (fun j hj=>by cases hj;omega)))
 exact bodyPost_ret (Q04 rfl _ _ (w.heap.size+1) Q0a hh5 rfl rfl rfl) rfl ⟨false,none,0,0,[],none,0,0,[],rfl,fun _=>⟨IsItm.txt (RowOf.nil b8 1 w5),Q8x _ _,by rw [show bulkI (.mk false (.slice none 0 0) [] (.slice none 0 0) [])=bulkI (txt (.slice none 0 0) []) from rfl,Q33];simp⟩,hbel5⟩
def manyK (n:Nat)(ks:List (List UInt8))(k:Nat):Nat:=min n 1+((ks.take k).map fun t=>min t.length 1).sum
theorem Q7f (n:Nat)(ks:List (List UInt8)):manyK n ks 0=min n 1:=by simp [manyK]
theorem Q7g (n:Nat)(ks:List (List UInt8))(k:Nat)(t:List UInt8)(h:ks[k]?=some t):manyK n ks (k+1)=manyK n ks k+min t.length 1:=by
 have hk:=(List.getElem?_eq_some_iff.1 h).1
 have he:=(List.getElem?_eq_some_iff.1 h).2
 unfold manyK
 rw [List.take_succ_eq_append_getElem hk,List.map_append,List.sum_append,he];simp;omega
theorem Q5f (n:Nat)(ks:List (List UInt8))(k:Nat):manyK n ks k≤1+k:=by
 unfold manyK
 have:∀ l:List (List UInt8),(l.map fun t=>min t.length 1).sum≤l.length:=by
  intro l
  induction l with
  | nil=>simp
  | cons x l ih=>simp only [List.map_cons,List.sum_cons,List.length_cons];omega
 have h1:=this (ks.take k)
 have h2:=List.length_take_le k ks
 omega
theorem Qh6 (v:List UInt8)(ks:List (List UInt8)):manyK v.length ks ks.length=manyB v ks:=by unfold manyK manyB;rw [List.take_length]
theorem Q9j (ps:List (Value × List UInt8))(k:Nat)(p:Value × List UInt8)(h:ps[k]?=some p):txts (ps.take (k+1))=txts (ps.take k)++[txt p.1 p.2]:=by
 have hk:=(List.getElem?_eq_some_iff.1 h).1
 have he:=(List.getElem?_eq_some_iff.1 h).2
 unfold txts
 rw [List.take_succ_eq_append_getElem hk,List.map_append,he];rfl
theorem Qas (a:Option Addr)(n c:Nat)(t:List UInt8):∀ u∈[txt (.slice a n c) t].flatMap icells,u.oneCell'=true:=by
 intro u hu
 simp [txt,icells] at hu
 rcases hu with rfl|rfl|rfl<;>rfl
structure FkW (w:World)(g4:Nat)(box:List Value)(kv:Value)(its:List Itm)(u:World):Prop where
 hs:Blk 134 u w.heap.size box
 hz:Blk 77 u (w.heap.size+1) [.bool false,.slice none 0 0,.slice none 0 0]
 hi:Blk 77 u g4 [.bool true,.slice none 0 0,kv]
 hO:OwnOf icells 3 77 u (g4+1) kv its
 hb:Below w.heap.size w u
 hg:w.heap.size+1<g4
theorem FkW.kept {w u u':World}{g4:Nat}{box:List Value}{kv:Value}{its:List Itm}(h:FkW w g4 box kv its u)(hb:Below u.heap.size u u'):FkW w g4 box kv its u' :=
 ⟨h.hs.kept hb,h.hz.kept hb,h.hi.kept hb,h.hO.kept hb,Below.then h.hb hb,h.hg⟩
def Qkp (ok:Bool)(B:List UInt8)(w:World)(e:Ending)(w':World):Prop :=
 ∃ (l:Bool) (ta:Option Addr) (tn tc:Nat) (t:List UInt8) (ka:Option Addr) (kn kc:Nat) (ks:List Itm),e=.returned (.tuple #[.agg #[.bool l,.slice ta tn tc,.slice ka kn kc],.bool ok]) ∧
  (ok=true→(∀ (g:Nat) (u:World) (cs:List Value),Blk 77 w' g cs→(∀ x∈cs,∀ k,x≠.int .u8 k)→g<w.heap.size→w'.grownBy u (some g)→IsItm u (.mk l (.slice ta tn tc) t (.slice ka kn kc) ks))∧encI (.mk l (.slice ta tn tc) t (.slice ka kn kc) ks)=B∧bulkI (.mk l (.slice ta tn tc) t (.slice ka kn kc) ks)≤100000000)∧Below w.heap.size w w'
theorem FkW.grew {w u u':World}{g4:Nat}{box:List Value}{kv kv':Value}{its its':List Itm}(h:FkW w g4 box kv its u)(hg:u.grownBy u' kv.ownBlock)(hO:OwnOf icells 3 77 u' (g4+1) kv' its') :
  FkW w g4 box kv' its' (u'.setCell ⟨g4,2,none⟩ kv'):=by
 have hne:∀ b,b≤g4→kv.ownBlock≠some b:=fun b hb e=>by have:=(World.ownsRow.lt h.hO b e).1;omega
 have hg4:=h.hg
 have hs:=h.hs.grown hg (hne _ (by omega))
 have hz:=h.hz.grown hg (hne _ (by omega))
 have hi:=h.hi.grown hg (hne _ (Nat.le_refl _))
 have hb:=h.hb.grown hg h.hb.size (fun k hk=>by have:=(World.ownsRow.lt h.hO k hk).1;omega)
 refine ⟨hs.other _ (by simp;omega) _,hz.other _ (by simp;omega) _,hi.set 2 kv',hO.grown (Q0r 2 kv') (fun k hk e=>?_),hb.setCell (by show w.heap.size≤g4;omega) _,hg4⟩
 cases hk
 have:=(World.ownsRow.lt hO _ e).1
 omega
theorem sum_le (l:List (Value × List UInt8))(M:Nat)(h:∀ p∈l,p.2.length≤M):(l.map fun p=>1+p.2.length).sum≤l.length*(1+M):=by
 induction l with
 | nil=>simp
 | cons p l ih =>
  have h1:=ih (fun q hq=>h q (List.mem_cons_of_mem _ hq))
  have h2:=h p List.mem_cons_self
  simp only [List.map_cons,List.sum_cons,List.length_cons,Nat.add_mul,Nat.one_mul]
  omega
theorem Qce (ps:List (Value × List UInt8))(k:Nat)(h:k≤ps.length):(txts (ps.take k)).length=k:=by simp [txts,h]
def OneB (B:Nat)(v:Value)(t:List UInt8):Ty:=fun u w=>∃ g,u=.slice (some ⟨g,0,none⟩) 1 1∧RowOf icells 3 w u [txt v t]
theorem OneB.mono (B:Nat)(v:Value)(t:List UInt8):Mono (OneB B v t):=fun _ _ _ ⟨g,h1,h2⟩ hb=>⟨g,h1,RowOf.kept h2 hb⟩
theorem Qkb (pv:Value)(hpv:∃ a n c,pv=.slice a n c)(va ka:Option Addr)(vn vc kn kc:Nat)(v:List UInt8)(ps:List (Value × List UInt8))(hvn:v.length=vn)(hkn:ps.length=kn)(w:World)(hv:Bytes w (.slice va vn vc) v)(hk:Texts w (.slice ka kn kc) ps)(hV:vn≤1048576)(hKs:∀ q∈ps,q.2.length≤1048576) :
  Calls Tryz.prog 152 #[.agg #[.int .i64 3,pv,.slice va vn vc,.slice ka kn kc]] w (Qkp (decide (kn=16)&&decide (vn≤1024)&&((ps.map (·.2)).all fun t=>sumOk t.length true)&&decide (2≤manyB v (ps.map (·.2)))) (lsB (ps.map (·.2)++[v])) w):=by
 obtain ⟨pa,pn,pc,rfl⟩:=hpv
 obtain ⟨box,hbox⟩:∃ box:List Value,box=[.int .i64 3,.slice pa pn pc,.slice va vn vc,.slice ka kn kc]:=⟨_,rfl⟩
 have hs1:Blk 134 ((w.alloc (.cells #[.int .i64 3,.slice pa pn pc,.slice va vn vc,.slice ka kn kc] 134)).alloc (.cells #[.bool false,.slice none 0 0,.slice none 0 0] 77)) w.heap.size box:=by rw [hbox];exact (Blk.new w 134 [.int .i64 3,.slice pa pn pc,.slice va vn vc,.slice ka kn kc]).alloc _
 have hz1:Blk 77 ((w.alloc (.cells #[.int .i64 3,.slice pa pn pc,.slice va vn vc,.slice ka kn kc] 134)).alloc (.cells #[.bool false,.slice none 0 0,.slice none 0 0] 77)) (w.heap.size+1) [.bool false,.slice none 0 0,.slice none 0 0]:=by
  have:=Blk.new (w.alloc (.cells #[.int .i64 3,.slice pa pn pc,.slice va vn vc,.slice ka kn kc] 134)) 77 [.bool false,.slice none 0 0,.slice none 0 0]
  simpa using this
 have hbel1:Below w.heap.size w ((w.alloc (.cells #[.int .i64 3,.slice pa pn pc,.slice va vn vc,.slice ka kn kc] 134)).alloc (.cells #[.bool false,.slice none 0 0,.slice none 0 0] 77)):=(Qba _ _).alloc (by simp) _
 have hb2:box[2]?=some (.slice va vn vc):=by rw [hbox];rfl
 have hb3:box[3]?=some (.slice ka kn kc):=by rw [hbox];rfl
 have Hb3:=Qhd hb3
 clear hb3
 obtain ⟨ok,hokk⟩:∃ ok,ok=(decide (kn=16)&&decide (vn≤1024)&&((ps.map (·.2)).all fun t=>sumOk t.length true)&&decide (2≤manyB v (ps.map (·.2)))):=⟨_,rfl⟩
 rw [←hokk]
 have Hokk:=Qhd hokk
 have Hvn:=Qhd hvn
 have Hkn:=Qhd hkn
 have HKs:=Qhd hKs
 have Hb2:=Qhd hb2
 clear hokk hvn hkn hKs hbox hb2
 by_cases h0:kn≠16∨1024<vn
 ·have hokf:ok=false:=by rw [Hokk.out];rcases h0 with h|h<;>simp [h]<;>omega
  subst hokf
  have kc2:=(hs1.cell 2).trans Hb2.out
  have h3:(((kn:Int) != 16)=true)∨(((kn:Int) != 16)=false∧(1024:Int)<(vn:Int)):=by
   rcases Nat.lt_trichotomy kn 16 with h|h|h
   ·left;rw [bne_iff_ne];omega
   ·right;exact ⟨by rw [bne_eq_false_iff_eq];omega,by omega⟩
   ·left;rw [bne_iff_ne];omega
  clear h0
  rcases h3 with h3|⟨h3,h4⟩
  all_goals
   go_enter Tryz.func152,Tryz.ntmps152
   go_wp2_with ((with_reducible show wpList _ _ _ (⟨none,.store _ _ _,_,_,_,_⟩::_) _ _);refine Qsa 77 2 18 (w.heap.size+1) [.bool false,.slice none 0 0,.slice none 0 0] Q0a hz1 (by rfl) (by rfl) (by intro u hu;simp at hu;rcases hu with rfl|rfl<;>rfl) (Below.refl _ _) (Nat.le_refl _) ?_;intro w5 hh5 _ hg5;have hbel5:=hbel1.grown hg5 hbel1.size (fun j hj=>by cases hj;omega))
   exact bodyPost_ret (Q04 rfl _ _ (w.heap.size+1) Q0a hh5 rfl rfl rfl) rfl ⟨false,none,0,0,[],none,0,0,[],rfl,fun h=>by simp at h,hbel5⟩
 ·have h16:((kn:Int) != 16)=false:=by rw [bne_eq_false_iff_eq];omega
  have hvi:¬ (1024:Int)<(vn:Int):=by omega
  have hvd:decide ((1024:Int)<(vn:Int))=false:=by rw [decide_eq_false_iff_not];exact hvi
  have hvl:vn≤1024:=by omega
  obtain rfl:kn=16:=by omega
  clear h0 h16
  obtain ⟨w1,hw1⟩:∃ w1,w1=(w.alloc (.cells #[.int .i64 3,.slice pa pn pc,.slice va vn vc,.slice ka 16 kc] 134)).alloc (.cells #[.bool false,.slice none 0 0,.slice none 0 0] 77):=⟨_,rfl⟩
  have Hw1:=Qhd hw1
  rw [←hw1] at hs1 hz1 hbel1
  have kc2:=(hs1.cell 2).trans Hb2.out
  rw [hw1] at kc2
  clear hw1
  go_enter Tryz.func152,Tryz.ntmps152
  go_wp2_with fail
  rw [←Hw1.out]
  clear kc2
  have hS1:CellAt ⟨w.heap.size,2,none⟩ (.slice va vn vc) w1:=(hs1.cell 2).trans Hb2.out
  have k2:∀ u:In (CellAt ⟨w.heap.size,2,none⟩ (.slice va vn vc)),u.val.cell? ⟨w.heap.size,2,none⟩=some (.slice va vn vc):=fun u=>u.held
  obtain ⟨M0,hM0⟩:∃ M0,M0=min vn 1:=⟨_,rfl⟩
  have hmin:min (vn:Int) 1=(M0:Int):=by omega
  have HM0:=Qhd hM0
  clear hM0
  refine Q43 (fun a b w'=>∃ g4:Nat,b=(((((((a.put (some 20) (.pointer (some ⟨w.heap.size,2,none⟩))).put (some 21) (.slice va vn vc)).put (some 22) (.int .i64 (vn:Int))).put (some 23) (.int .i64 (M0:Int))).put (some 19) (.agg #[.bool true,.slice none 0 0,.slice none 0 0])).put (some 4) (.pointer (some ⟨g4,0,none⟩))).put (some 5) (.int .i64 (M0:Int)))∧w1.heap.size≤g4∧Blk 77 w' g4 [.bool true,.slice none 0 0,.slice none 0 0]∧Below w1.heap.size w1 w') ?_ ?_
  ·refine Q0t (CellAt ⟨w.heap.size,2,none⟩ (.slice va vn vc)) (by kernel_rfl) ?_;intro u0 hu0;simp only [List.length_cons,List.length_nil,Nat.reduceAdd,List.replicate_succ,List.replicate_zero]
   have hb0:Below w1.heap.size w1 u0:=by rw [hu0];exact (Below.refl _ _).drew
   have hS0:=hS1.below hb0
   have hws:=hz1.lt
   clear hu0 hS1
   (refine wpH_takeQ 1 (fun K hK=>?_);simp only [Qzs] at hK;go_simp;first|(refine hK _ ?_;clear hK K)|(apply Exists.intro;refine ⟨fun _=>rfl,hK _ ?_⟩;clear hK K));(refine wpH_takeQ 2 (fun K hK=>?_);simp only [Qzs] at hK;go_simp;first|(refine hK _ ?_;clear hK K)|(apply Exists.intro;refine ⟨fun _=>rfl,hK _ ?_⟩;clear hK K));(refine wpH_takeQ 3 (fun K hK=>?_);simp only [Qzs] at hK;go_simp;first|(refine hK _ ?_;clear hK K)|(apply Exists.intro;refine ⟨fun _=>rfl,hK _ ?_⟩;clear hK K));(refine wpH_takeQ 4 (fun K hK=>?_);simp only [Qzs] at hK;go_simp;first|(refine hK _ ?_;clear hK K)|(apply Exists.intro;refine ⟨fun _=>rfl,hK _ ?_⟩;clear hK K))
   refine Q7y [0,5] (by kernel_rfl) (by simp) ?_
   intro i hi
   simp only [List.mem_cons,List.not_mem_nil,or_false] at hi
   rcases hi with rfl|rfl
   ·(refine brH_of (i:=0) (by rfl) (fun K hK=>?_);simp only [Qzs] at hK;go_simp)
    (with_reducible refine (Q2i _ _ _ _).mono ?_)
    rintro e u1 ⟨rfl,b1⟩
    have hS1:=hS0.below b1
    refine hK _ _ hS1 ?_;clear hK K
    have hb1:=Below.then hb0 b1
    (refine Q0e 5 (by rfl) (by kernel_rfl) (fun K hK=>?_);simp only [Qzs] at hK;go_simp)
    have h5:=Blk.new u1 77 [.bool false,.slice none 0 0,.slice none 0 0]
    have b2:Below u1.heap.size u1 (u1.alloc (.cells #[.bool false,.slice none 0 0,.slice none 0 0] 77)):=Qba _ _
    have hS2:=hS1.below b2
    refine hK _ _ hS2 ?_;clear hK K
    have hb2:=Below.then hb1 b2
    refine Q0e 6 (by rfl) (by kernel_rfl) (fun K hK=>?_)
    refine Q1d (by rfl) 77 (.tmp 4) (.tmp 19) (by rfl) u1.heap.size [.bool true,.slice none 0 0,.slice none 0 0] (by rfl) (by rfl) Q0a h5 (by rfl) (by rfl) (by intro u hu;simp at hu;rcases hu with rfl|rfl<;>rfl) (fun v1 o5 c5 r5=>?_)
    have hS3:=hS2.grown r5 (by have:=hb1.size;simp;omega)
    refine hK _ _ hS3 ?_;clear hK K
    have hb3:=hb2.grown r5 hb2.size (fun j hj=>by cases hj;exact hb1.size)
    have hs1':=hb1.size
    clear k2
    (refine wpH_takeQ 7 (fun K hK=>?_);simp only [Qzs] at hK;go_simp;first|(refine hK _ ?_;clear hK K)|(apply Exists.intro;refine ⟨fun _=>rfl,hK _ ?_⟩;clear hK K))
    exact Q16 (by kernel_rfl) ⟨rfl,u1.heap.size,rfl,hs1',o5,hb3⟩
   ·(refine brH_of (i:=5) (by rfl) (fun K hK=>?_);simp only [Qzs] at hK;go_simp)
    have h5:=Blk.new u0 77 [.bool false,.slice none 0 0,.slice none 0 0]
    have b1:Below u0.heap.size u0 (u0.alloc (.cells #[.bool false,.slice none 0 0,.slice none 0 0] 77)):=Qba _ _
    have hS1:=hS0.below b1
    refine hK _ _ hS1 ?_;clear hK K
    have hb1:=Below.then hb0 b1
    (refine Q0e 0 (by rfl) (by kernel_rfl) (fun K hK=>?_);simp only [Qzs] at hK;go_simp)
    (with_reducible refine (Q2i _ _ _ _).mono ?_)
    rintro e u2 ⟨rfl,b2⟩
    have hS2:=hS1.below b2
    have h6:=h5.kept b2
    refine hK _ _ hS2 ?_;clear hK K
    have hb2:=Below.then hb1 b2
    refine Q0e 6 (by rfl) (by kernel_rfl) (fun K hK=>?_)
    refine Q1d (by rfl) 77 (.tmp 4) (.tmp 19) (by rfl) u0.heap.size [.bool true,.slice none 0 0,.slice none 0 0] (by rfl) (by rfl) Q0a h6 (by rfl) (by rfl) (by intro u hu;simp at hu;rcases hu with rfl|rfl<;>rfl) (fun v1 o5 c5 r5=>?_)
    have hS3:=hS2.grown r5 (by have:=hb0.size;simp;omega)
    refine hK _ _ hS3 ?_;clear hK K
    have hb3:=hb2.grown r5 hb2.size (fun j hj=>by cases hj;exact hb0.size)
    have hs1':=hb0.size
    clear k2
    (refine wpH_takeQ 7 (fun K hK=>?_);simp only [Qzs] at hK;go_simp;first|(refine hK _ ?_;clear hK K)|(apply Exists.intro;refine ⟨fun _=>rfl,hK _ ?_⟩;clear hK K))
    exact Q16 (by kernel_rfl) ⟨rfl,u0.heap.size,rfl,hs1',o5,hb3⟩
  rintro b w2 ⟨g4,rfl,hg4,hi2,hb2⟩
  simp only [Act.put,Qzs]
  have hs2:=hs1.kept hb2
  have hz2:=hz1.kept hb2
  have hbel2:=Below.then hbel1 hb2
  have kk:=(hs2.cell 3).trans (show _=_ from Hb3.out)
  clear k2 hmin hS1
  go_wp2_with fail
  have hg0:w.heap.size+1<g4:=by have:=hz1.lt;omega
  have hm0:(M0:Nat)=manyK vn (ps.map (·.2)) 0:=by rw [Q7f];exact HM0.out
  have hF0:FkW w g4 box (.slice none 0 0) (txts (ps.take 0)) w2:=⟨hs2,hz2,hi2,OwnOf.nil icells 3 _ _ _,hbel2,hg0⟩
  have Hm0:=Qhd hm0
  clear hm0 hs2 hz2 hi2 hbel2 hs1 hz1 hbel1 kk hb2 hg4
  go_loopw [5,27] (fun t5 ix wr=>∃ (k:Nat) (ka2:Option Addr) (kc2:Nat),k≤16∧ix=.int .i64 (k:Int)∧t5=.int .i64 ((manyK vn (ps.map (·.2)) k:Nat):Int)∧Hid (∀ q∈ps.take k,sumOk q.2.length true=true)∧FkW w g4 box (.slice ka2 k kc2) (txts (ps.take k)) wr) (fun _ ix _=>16 - (intOf ix).toNat)
  case atStart=>exact ⟨0,none,0,by omega,rfl,by rw [←Hm0.out],Qhd (fun q hq=>by simp at hq),hF0⟩
  case round =>
   clear hF0
   obtain ⟨k,ka2,kc2,hk',rfl,rfl,hall,hF⟩:=hrel
   by_cases hlt:k<16
   ·have hki:(k:Int)<16:=by omega
    have hkl:k<ps.length:=by rw [Hkn.out];exact hlt
    obtain ⟨b,off,q,rfl,hq,hc,hbq⟩:=Texts.at (hk.below hF.hb) k hkl
    have hql:=HKs.out q (List.mem_of_getElem? hq)
    have hts:=Q9j ps k q hq
    have hmk:(ps.map (·.2))[k]?=some q.2:=by rw [List.getElem?_map,hq];rfl
    have hms:=Q7g vn (ps.map (·.2)) k q.2 hmk
    have hml:=Q5f vn (ps.map (·.2)) k
    have hmem:=List.mem_of_getElem? hq
    have htk:ps.take (k+1)=ps.take k++[q]:=by rw [List.take_succ_eq_append_getElem hkl];rw [(List.getElem?_eq_some_iff.1 hq).2]
    obtain ⟨qv,ql⟩:=q
    simp only at hc hbq hql hts hms
    obtain ⟨qa,qc,rfl,_,hqm⟩:=hbq.form
    obtain ⟨qn,hqn⟩:∃ qn,qn=ql.length:=⟨_,rfl⟩
    rw [←hqn] at hc hbq hql hms hts
    have cs:=fun x=>Qcm qa qn qc true x (by omega)
    obtain ⟨m0,hm0⟩:∃ m0,m0=manyK vn (ps.map (·.2)) k:=⟨_,rfl⟩
    obtain ⟨m1,hm1⟩:∃ m1,m1=manyK vn (ps.map (·.2)) (k+1):=⟨_,rfl⟩
    obtain ⟨mq,hmq⟩:∃ mq,mq=min qn 1:=⟨_,rfl⟩
    rw [←hm0,←hm1,←hmq] at hms
    rw [←hm0] at hml
    have hmqi:min (qn:Int) 1=(mq:Int):=by omega
    have hmsi:(m0:Int)+(mq:Int)=(m1:Int):=by omega
    have hmq1:mq≤1:=by omega
    rw [←hm0]
    have Hqn:=Qhd hqn
    have Hts:=Qhd hts
    have Hm1:=Qhd hm1
    have Htk:=Qhd htk
    by_cases hso:sumOk qn true=true
    ·rw [hso] at cs
     have Cs:=Qhd cs
     have hall2:Hid (∀ q∈ps.take (k+1),sumOk q.2.length true=true):=Qhd (fun q hq=>by
      rw [Htk.out] at hq
      rcases List.mem_append.1 hq with hq|hq
      ·exact hall.out q hq
      ·rw [List.mem_singleton] at hq
       rw [hq,←Hqn.out];exact hso)
     have c1:=fun x=>Q0z qa qn qc x
     have C1:=Qhd c1
     have hw39:IntKind.i64.wrap ((m0:Int)+(mq:Int))=(m1:Int):=by rw [hmsi];exact IntWalk.i64_in _ (by omega)
     have htl:=Qce ps k (by omega)
     have Htl:=Qhd htl
     have k3:=fun u:Ext wr=>u.cell ((hF.hi.cell 2).trans (show _=some (Value.slice ka2 k kc2) from rfl))
     have h1c:=Qas qa qn qc ql
     clear cs c1 hso hm0 hm1 hmq hms hts hmk htk hmem hq hqn htl hall
     go_wp2_with (go_at_call 151;(with_reducible refine (Cs.out _).mono ?_);rintro e w3 ⟨rfl,rfl⟩)
     clear hw39 hmqi
     refine Q02 wr 5 (by kernel_rfl) (by kernel_rfl) (Below.refl _ _) ?_;simp only [List.take_succ_cons,List.take_zero,List.take_nil]
     iterate 3 (refine Q01 (by rfl) (fun K hK=>?_);go_simp;refine hK _ ?_;clear hK K)
     (refine Q01 (by rfl) (fun K hK=>?_);go_simp;first|(refine hK _ ?_;clear hK K)|(apply Exists.intro;refine ⟨fun _=>?_,hK _ ?_⟩;exact C1.out _;clear hK K))
     refine Q07 44 (OneB 0 (.slice qa qn qc) ql) rfl (of_decide_eq_true rfl) (OneB.mono _ _ _) (fun w3 hw3=>?_) ?_
     ·simp only [relOf,List.filter_nil,Q00]
      refine ⟨rfl,?_⟩
      go_simp
      exact ⟨Qba _ _,w3.heap.size,rfl,Row.built Q0p w3 77 [txt (.slice qa qn qc) ql] 1 rfl (by unfold maxLen;omega)⟩
     refine Q09 ?_
     intro u2 hb2 v44 h44
     change wpList _ _ _ [_,_,_] _ _
     obtain ⟨g44,rfl,hr44⟩:=h44
     have hF2:=hF.kept hb2
     have hO2:=hF2.hO
     have hsz2:g4+1≤u2.heap.size:=hF2.hi.lt
     clear k3 hF
     go_wp2_with (refine Q0g (o:=⟨some 45,_,_,_,_,_⟩) (by rfl) (.tmp 41) (.tmp 44) 75 (by rfl) elItem h1c (by rfl) hO2 (by rfl) hr44 hsz2 (by rw [Htl.out];simp;omega) (by rw [Htl.out];unfold maxLen;simp;omega) ?_;intro v5 w5 hO5 hg5 _;obtain ⟨a5,c5,rfl,_⟩:=hO5.form' (k+1) (by rw [List.length_append,Htl.out];rfl);have hF5:=hF2.grew hg5 hO5;have hc5:=(hF2.hi.grown hg5 (fun e=>by have:=(World.ownsRow.lt hO2 g4 e).1;omega)).has 2 (by simp);have hf5:=(hF2.hi.grown hg5 (fun e=>by have:=(World.ownsRow.lt hO2 g4 e).1;omega)).free 2;obtain ⟨y5,hy5⟩:=hc5)
     rw [←Hts.out] at hF5
     go_roundw
     case rel=>exact ⟨k+1,a5,c5,by omega,by go_num,by rw [Hm1.out],hall2,hF5⟩
     case measure=>simp [intOf];omega
    ·have hsf:sumOk qn true=false:=by simpa using hso
     have hokf:ok=false:=by
      rw [Hokk.out]
      have:((ps.map (·.2)).all fun t=>sumOk t.length true)=false:=by
       rw [List.all_eq_false]
       exact ⟨ql,List.mem_map.2 ⟨_,hmem,rfl⟩,by rw [←Hqn.out,hsf];simp⟩
      rw [this];simp
     rw [hsf] at cs
     have Cs:=Qhd cs
     have hz:=hF.hz
     have hbel:=hF.hb
     subst hokf
     clear cs hso hsf hm0 hm1 hmq hms hts hmk htk hmem hq hqn hmsi hmqi hml hbq
     go_wp2_with (first
      |(go_at_call 151;(with_reducible refine (Cs.out _).mono ?_);rintro e w3 ⟨rfl,rfl⟩)
      |((with_reducible show wpList _ _ _ (⟨none,.store _ _ _,_,_,_,_⟩::_) _ _);refine Qsa 77 2 34 (w.heap.size+1) [.bool false,.slice none 0 0,.slice none 0 0] Q0a hz (by rfl) (by rfl) (by intro u hu;simp at hu;rcases hu with rfl|rfl<;>rfl) (Below.refl _ _) (Nat.le_refl _) ?_;intro w5 hh5 _ hg5;have hbel5:=hbel.grown hg5 hbel.size (fun j hj=>by cases hj;omega)))
     exact bodyPost_ret (Q04 rfl _ _ (w.heap.size+1) Q0a hh5 rfl rfl rfl) rfl ⟨false,none,0,0,[],none,0,0,[],rfl,fun h=>by simp at h,hbel5⟩
   ·obtain rfl:k=16:=by omega
    have htk:ps.take 16=ps:=List.take_of_length_le (by rw [Hkn.out];omega)
    rw [htk] at hF hall
    have hmall:manyK vn (ps.map (·.2)) 16=manyB v (ps.map (·.2)):=by
     rw [←Hvn.out,←Qh6,List.length_map,Hkn.out]
    rw [hmall]
    have hml:=Q5f vn (ps.map (·.2)) 16
    rw [hmall] at hml
    have hoka:ok=decide (2≤manyB v (ps.map (·.2))):=by
     rw [Hokk.out]
     have:((ps.map (·.2)).all fun t=>sumOk t.length true)=true:=by
      rw [List.all_eq_true]
      intro t ht
      obtain ⟨q,hq,rfl⟩:=List.mem_map.1 ht
      exact hall.out q hq
     rw [this];simp [hvl]
    obtain ⟨mm,hmm⟩:∃ mm,mm=manyB v (ps.map (·.2)):=⟨_,rfl⟩
    rw [←hmm] at hml hoka
    rw [←hmm]
    have hokd:decide ((2:Int)≤(mm:Int))=ok:=by
     rw [hoka]
     by_cases h2:2≤mm
     ·rw [decide_eq_true h2,decide_eq_true (by omega)]
     ·rw [decide_eq_false h2,decide_eq_false (by omega)]
    have c1:=fun x=>Q0z va vn vc x
    have C1:=Qhd c1
    have htl:(txts ps).length=16:=by simp [txts,Hkn.out]
    have Htl:=Qhd htl
    have k3:=fun u:Ext wr=>u.cell ((hF.hi.cell 2).trans (show _=some (Value.slice ka2 16 kc2) from rfl))
    have k4:=fun u:Ext wr=>u.cell ((hF.hs.cell 2).trans Hb2.out)
    have h1c:=Qas va vn vc v
    clear c1 hmm hmall hoka htk htl hall
    go_wp2_with fail
    refine Q02 wr 6 (by kernel_rfl) (by kernel_rfl) (Below.refl _ _) ?_;simp only [List.take_succ_cons,List.take_zero,List.take_nil]
    iterate 4 (refine Q01 (by rfl) (fun K hK=>?_);go_simp;refine hK _ ?_;clear hK K)
    (refine Q01 (by rfl) (fun K hK=>?_);go_simp;first|(refine hK _ ?_;clear hK K)|(apply Exists.intro;refine ⟨fun _=>?_,hK _ ?_⟩;exact C1.out _;clear hK K))
    refine Q07 53 (OneB 0 (.slice va vn vc) v) rfl (of_decide_eq_true rfl) (OneB.mono _ _ _) (fun w3 hw3=>?_) ?_
    ·simp only [relOf,List.filter_nil,Q00]
     refine ⟨rfl,?_⟩
     go_simp
     exact ⟨Qba _ _,w3.heap.size,rfl,Row.built Q0p w3 77 [txt (.slice va vn vc) v] 1 rfl (by unfold maxLen;omega)⟩
    refine Q09 ?_
    intro u2 hb2 v53 h53
    change wpList _ _ _ [_,_,_] _ _
    obtain ⟨g53,rfl,hr53⟩:=h53
    have hF2:=hF.kept hb2
    have hO2:=hF2.hO
    have hsz2:g4+1≤u2.heap.size:=hF2.hi.lt
    clear k3 k4 hF
    go_wp2_with (first
     |(refine Q0g (o:=⟨some 54,_,_,_,_,_⟩) (by rfl) (.tmp 49) (.tmp 53) 75 (by rfl) elItem h1c (by rfl) hO2 (by rfl) hr53 hsz2 (by rw [Htl.out];simp) (by rw [Htl.out];unfold maxLen;simp) ?_;intro v5 w5 hO5 hg5 _;obtain ⟨a5,c5,rfl,_⟩:=hO5.form' 17 (by rw [List.length_append,Htl.out];rfl);have hF5:=hF2.grew hg5 hO5;have hc5:=(hF2.hi.grown hg5 (fun e=>by have:=(World.ownsRow.lt hO2 g4 e).1;omega)).has 2 (by simp);have hf5:=(hF2.hi.grown hg5 (fun e=>by have:=(World.ownsRow.lt hO2 g4 e).1;omega)).free 2;obtain ⟨y5,hy5⟩:=hc5)
     |(refine Qla 77 4 g4 Q0a hF5.hi (by rfl) ?_)
     |((with_reducible refine Qgs 56 ?_);refine Qsa 77 2 56 (w.heap.size+1) [.bool true,.slice none 0 0,.slice a5 17 c5] Q0a hF5.hz (by rfl) (by rfl) (by intro u hu;simp at hu;rcases hu with rfl|rfl|rfl<;>rfl) (Below.refl _ _) (Nat.le_refl _) ?_;intro w6 hh6 _ hg6;have hbel6:=hF5.hb.grown hg6 hF5.hb.size (fun j hj=>by cases hj;omega);have hO6:=hF5.hO.grown hg6 (fun k hk e=>by cases hk;have:=(World.ownsRow.lt hF5.hO _ e).1;omega)))
    have e1:txts ps++[txt (.slice va vn vc) v]=txts (ps++[(.slice va vn vc,v)]):=by unfold txts;rw [List.map_append];rfl
    rw [e1] at hO6
    have hall6:∀ p∈ps++[(Value.slice va vn vc,v)],Bytes w6 p.1 p.2:=fun p hp=>by
     rcases List.mem_append.1 hp with hp|hp
     ·exact (hk.2 p hp).below hbel6
     ·rw [List.mem_singleton] at hp;rw [hp];exact hv.below hbel6
    have hle:∀ p∈ps++[(Value.slice va vn vc,v)],p.2.length≤1048576:=fun p hp=>by
     rcases List.mem_append.1 hp with hp|hp
     ·exact HKs.out p hp
     ·rw [List.mem_singleton] at hp;rw [hp];have:=Hvn.out;simp;omega
    refine bodyPost_ret (Q04 rfl _ _ (w.heap.size+1) Q0a hh6 rfl rfl rfl) rfl ⟨true,none,0,0,[],a5,17,c5,txts (ps++[(.slice va vn vc,v)]),rfl,fun _=>⟨?_,?_,?_⟩,hbel6⟩
    ·intro g u cs hcs hno hgw hgu
     exact IsItm.lst (hO6.grown hgu (fun k hk e=>by cases hk;have:=(World.ownsRow.lt hO6 _ e).1;omega)).row (Q4o (fun p hp=>Bytes.off_v (hall6 p hp) hcs hno hgu))
    ·have:=Q19 (.slice a5 17 c5) (ps++[(.slice va vn vc,v)])
     rw [List.map_append] at this
     exact this
    ·refine Nat.le_trans (Nat.le_of_eq (Q2m (.slice a5 17 c5) (txts (ps++[(Value.slice va vn vc,v)])))) ?_
     rw [Q1w]
     have:=sum_le _ 1048576 hle
     rw [List.length_append,Hkn.out] at this
     simp only [List.length_singleton] at this
     omega
theorem Qhl (pa va ka:Option Addr)(pn pc vn vc kn kc:Nat)(p v:List UInt8)(ps:List (Value × List UInt8))(hpn:p.length=pn)(hvn:v.length=vn)(hkn:ps.length=kn)(w:World)(hp:Bytes w (.slice pa pn pc) p)(hv:Bytes w (.slice va vn vc) v)(hk:Texts w (.slice ka kn kc) ps)(hP:pn≤4194304)(hV:vn≤1048576)(hKs:∀ q∈ps,q.2.length≤1048576) :
  Calls Tryz.prog 127 #[.agg #[.int .i64 3,.slice pa pn pc,.slice va vn vc,.slice ka kn kc]] w (Q1l (decide (kn=16)&&decide (vn≤1024)&&((ps.map (·.2)).all fun t=>sumOk t.length true)&&decide (2≤manyB v (ps.map (·.2)))) (lsB (ps.map (·.2)++[v])) w):=by
 have hs1:Blk 134 ((w.alloc (.cells #[.int .i64 3,.slice pa pn pc,.slice va vn vc,.slice ka kn kc] 134)).alloc (.cells #[.bool false,.slice none 0 0,.slice none 0 0] 77)) w.heap.size [.int .i64 3,.slice pa pn pc,.slice va vn vc,.slice ka kn kc]:=(Blk.new w 134 _).alloc _
 have hz1:Blk 77 ((w.alloc (.cells #[.int .i64 3,.slice pa pn pc,.slice va vn vc,.slice ka kn kc] 134)).alloc (.cells #[.bool false,.slice none 0 0,.slice none 0 0] 77)) (w.heap.size+1) [.bool false,.slice none 0 0,.slice none 0 0]:=by
  have:=Blk.new (w.alloc (.cells #[.int .i64 3,.slice pa pn pc,.slice va vn vc,.slice ka kn kc] 134)) 77 [.bool false,.slice none 0 0,.slice none 0 0]
  simpa using this
 have hbel1:Below w.heap.size w ((w.alloc (.cells #[.int .i64 3,.slice pa pn pc,.slice va vn vc,.slice ka kn kc] 134)).alloc (.cells #[.bool false,.slice none 0 0,.slice none 0 0] 77)):=(Qba _ _).alloc (by simp) _
 have ct:=fun x h=>Q5q pa pn pc p false hpn x h (by omega)
 obtain ⟨T,hT⟩:∃ T,T=joinR (tagL p false):=⟨_,rfl⟩
 obtain ⟨E,hE⟩:∃ E,E=joinE (tagL p false):=⟨_,rfl⟩
 simp only [←hT,←hE] at ct
 have cf:=fun x hb=>Qkb (.slice pa pn pc) ⟨pa,pn,pc,rfl⟩ va ka vn vc kn kc v ps hvn hkn x (hv.below hb) (hk.below hb) hV hKs
 obtain ⟨ok,hok⟩:∃ ok,ok=(decide (kn=16)&&decide (vn≤1024)&&((ps.map (·.2)).all fun t=>sumOk t.length true)&&decide (2≤manyB v (ps.map (·.2)))):=⟨_,rfl⟩
 obtain ⟨B,hB⟩:∃ B,B=lsB (ps.map (·.2)++[v]):=⟨_,rfl⟩
 simp only [←hok,←hB] at cf
 rw [←hok,←hB]
 have Ct:=Qhd ct
 have Cf:=Qhd cf
 clear ct cf hT hE hpn hvn hkn hok hB hKs
 go_enter Tryz.func127,Tryz.ntmps127
 go_wp2_with (first
  |(go_at_call 150;refine (Ct.out _ (hp.below hbel1)).mono ?_;rintro e w2 ⟨tv,rfl,ht2,b2⟩;have hs2:=hs1.kept b2;have kcell:=(hs2.cell 0).trans (show _=some (Value.int .i64 3) from rfl);have hz2:=hz1.kept b2;have hbel2:=Below.then hbel1 b2;obtain ⟨ga,gc,rfl,_⟩:=ht2.form)
  |(refine Qla 134 1 w.heap.size Q1k hs2 (by rfl) ?_)
  |(go_at_call 152;refine (Cf.out _ hbel2).mono ?_;rintro e w3 ⟨il,ta,tn,tc,t,ka',kn',kc',ks,rfl,hI,b3⟩;have hz3:=hz2.kept b3;have hbel3:=Below.then hbel2 b3)
  |((with_reducible show wpList _ _ _ (⟨none,.store _ _ _,_,_,_,_⟩::_) _ _);refine Qsa 77 2 81 (w.heap.size+1) [.bool il,.slice ta tn tc,.slice ka' kn' kc'] Q0a hz3 (by rfl) (by rfl) (by intro u hu;simp at hu;rcases hu with rfl|rfl|rfl<;>rfl) (Below.refl _ _) (Nat.le_refl _) ?_;intro w5 hh5 _ hg5;have hbel5:=hbel3.grown hg5 hbel3.size (fun j hj=>by cases hj;omega)))
 have hg0:w.heap.size+1<w2.heap.size:=hz2.lt
 refine bodyPost_ret (Q04 rfl _ _ (w.heap.size+1) Q0a hh5 rfl rfl rfl) rfl ⟨il,ta,tn,tc,t,ka',kn',kc',ks,rfl,fun hok=>⟨?_,(hI hok).2.1,(hI hok).2.2⟩,hbel5⟩
 exact (hI hok).1 (w.heap.size+1) w5 [.bool false,.slice none 0 0,.slice none 0 0] hz3 (by intro u hu k;simp at hu;rcases hu with rfl|rfl|rfl<;>simp) hg0 hg5
theorem Qhm (kd:Int)(h0:kd≠0)(h1:kd≠1)(h2:kd≠2)(h3:kd≠3)(pa va ka:Option Addr)(pn pc vn vc kn kc:Nat)(p:List UInt8)(hpn:p.length=pn)(w:World)(hp:Bytes w (.slice pa pn pc) p)(hP:pn≤4194304) :
  Calls Tryz.prog 127 #[.agg #[.int .i64 kd,.slice pa pn pc,.slice va vn vc,.slice ka kn kc]] w (Q1l false [] w):=by
 have hs1:Blk 134 ((w.alloc (.cells #[.int .i64 kd,.slice pa pn pc,.slice va vn vc,.slice ka kn kc] 134)).alloc (.cells #[.bool false,.slice none 0 0,.slice none 0 0] 77)) w.heap.size [.int .i64 kd,.slice pa pn pc,.slice va vn vc,.slice ka kn kc]:=(Blk.new w 134 _).alloc _
 have hz1:Blk 77 ((w.alloc (.cells #[.int .i64 kd,.slice pa pn pc,.slice va vn vc,.slice ka kn kc] 134)).alloc (.cells #[.bool false,.slice none 0 0,.slice none 0 0] 77)) (w.heap.size+1) [.bool false,.slice none 0 0,.slice none 0 0]:=by
  have:=Blk.new (w.alloc (.cells #[.int .i64 kd,.slice pa pn pc,.slice va vn vc,.slice ka kn kc] 134)) 77 [.bool false,.slice none 0 0,.slice none 0 0]
  simpa using this
 have hbel1:Below w.heap.size w ((w.alloc (.cells #[.int .i64 kd,.slice pa pn pc,.slice va vn vc,.slice ka kn kc] 134)).alloc (.cells #[.bool false,.slice none 0 0,.slice none 0 0] 77)):=(Qba _ _).alloc (by simp) _
 have ct:=fun x h=>Q5q pa pn pc p false hpn x h (by omega)
 obtain ⟨T,hT⟩:∃ T,T=joinR (tagL p false):=⟨_,rfl⟩
 obtain ⟨E,hE⟩:∃ E,E=joinE (tagL p false):=⟨_,rfl⟩
 simp only [←hT,←hE] at ct
 have Ct:=Qhd ct
 have e0:(kd==0)=false:=by rw [beq_eq_false_iff_ne];exact h0
 have e1:(kd==1)=false:=by rw [beq_eq_false_iff_ne];exact h1
 have e2:(kd==2)=false:=by rw [beq_eq_false_iff_ne];exact h2
 have e3:(kd==3)=false:=by rw [beq_eq_false_iff_ne];exact h3
 clear ct hT hE hpn h0 h1 h2 h3
 go_enter Tryz.func127,Tryz.ntmps127
 go_wp2_with (first
  |(go_at_call 150;refine (Ct.out _ (hp.below hbel1)).mono ?_;rintro e w2 ⟨tv,rfl,ht2,b2⟩;have kcell:=((hs1.kept b2).cell 0).trans (show _=some (Value.int .i64 kd) from rfl);have hz2:=hz1.kept b2;have hbel2:=Below.then hbel1 b2;obtain ⟨ga,gc,rfl,_⟩:=ht2.form)
  |((with_reducible show wpList _ _ _ (⟨none,.store _ _ _,_,_,_,_⟩::_) _ _);refine Qsa 77 2 83 (w.heap.size+1) [.bool false,.slice none 0 0,.slice none 0 0] Q0a hz2 (by rfl) (by rfl) (by intro u hu;simp at hu;rcases hu with rfl|rfl<;>rfl) (Below.refl _ _) (Nat.le_refl _) ?_;intro w5 hh5 _ hg5;have hbel5:=hbel2.grown hg5 hbel2.size (fun j hj=>by cases hj;omega)))
 exact bodyPost_ret (Q04 rfl _ _ (w.heap.size+1) Q0a hh5 rfl rfl rfl) rfl ⟨false,none,0,0,[],none,0,0,[],rfl,fun h=>by simp at h,hbel5⟩
theorem Qk5 (kd:Int)(pa va ka:Option Addr)(pn pc vn vc kn kc:Nat)(p v:List UInt8)(ps:List (Value × List UInt8))(hpn:p.length=pn)(hvn:v.length=vn)(hkn:ps.length=kn)(w:World)(hp:Bytes w (.slice pa pn pc) p)(hv:Bytes w (.slice va vn vc) v)(hk:Texts w (.slice ka kn kc) ps)(hP:pn≤4194304)(hV:vn≤1048576)(hK:kn≤1048576)(hKs:∀ q∈ps,q.2.length≤1048576) :
  Calls Tryz.prog 127 #[.agg #[.int .i64 kd,.slice pa pn pc,.slice va vn vc,.slice ka kn kc]] w (Q1l (shOk kd p v (ps.map (·.2))) (shB kd p v (ps.map (·.2))) w):=by
 unfold shOk shB
 rw [List.length_map,hpn,hvn,hkn]
 by_cases h0:kd=0
 ·subst h0;rw [if_pos rfl,if_pos rfl]
  exact Qhj pa va ka pn pc vn vc kn kc p hpn w hp hP
 rw [if_neg h0,if_neg h0]
 by_cases h1:kd=1
 ·subst h1;rw [if_pos rfl,if_pos rfl]
  exact Qhk pa va ka pn pc vn vc kn kc p v hpn hvn w hp hv hP hV
 rw [if_neg h1,if_neg h1]
 by_cases h2:kd=2
 ·subst h2;rw [if_pos rfl,if_pos rfl]
  exact Qhi pa va ka pn pc vn vc kn kc p ps hpn hkn w hp hk hP hK hKs
 rw [if_neg h2,if_neg h2]
 by_cases h3:kd=3
 ·subst h3;rw [if_pos rfl]
  exact Qhl pa va ka pn pc vn vc kn kc p v ps hpn hvn hkn w hp hv hk hP hV hKs
 rw [if_neg h3]
 refine (Qhm kd h0 h1 h2 h3 pa va ka pn pc vn vc kn kc p hpn w hp hP).mono ?_
 rintro e w' ⟨l,ta,tn,tc,t,ka',kn',kc',ks,rfl,_,hb⟩
 exact ⟨l,ta,tn,tc,t,ka',kn',kc',ks,rfl,fun h=>by simp at h,hb⟩
end Go.Proofs.YtbdmkfjgnjfjbaaGreat
