/- Shapes as data: what they are written as; root.sum. | root.item of a leaf. | root.item of a road; of nothing; of no kind. | root.forkItem. | root.item, root.Cod -/
import Derived.Test.YtbdmkfjgnjfjbaaGreatBlockListsK14
import Derived.Test.YtbdmkfjgnjfjbaaGreatBlockListsK01
import Derived.Test.YtbdmkfjgnjfjbaaGreatBlockListsK03
import Derived.Test.YtbdmkfjgnjfjbaaGreatBlockListsK15
set_option linter.unusedSimpArgs false
set_option linter.unusedVariables false
set_option maxHeartbeats 4000000
set_option maxRecDepth 100000
open List (filter_nil length_append length_cons length_nil map_append map_cons mem_append mem_map mem_singleton replicate_succ replicate_zero sum_cons take_nil take_zero)
open Nat (le_of_eq le_refl le_trans)
namespace Go.Proofs.YtbdmkfjgnjfjbaaGreat
open Go.RowKit
def Q2j (n:Nat)(lack:Bool):Bool:=decide (n=32) || (lack && decide (n=0))
def Q65 (v:List UInt8)(ks:List (List UInt8)):Nat:=min v.length 1+(ks.map fun k=>min k.length 1).sum
def shOk (k:Int)(p v:List UInt8)(ks:List (List UInt8)):Bool :=
 if k=0 then true
 else if k=1 then !Q0r p&&decide (1<=v.length)&&decide (v.length<=1024)
 else if k=2 then !Q0r p&&decide (1<=p.length)&&decide (ks.length=1)&&decide ((ks[0]?.getD []).length=32)
 else if k=3 then decide (ks.length=16)&&decide (v.length<=1024)&&(ks.all fun t=>Q2j t.length true)&&decide (2<=Q65 v ks)
 else false
def shB (k:Int)(p v:List UInt8)(ks:List (List UInt8)):List UInt8 :=
 if k=0 then Q1q []
 else if k=1 then lsB [Q2d (tagL p true),v]
 else if k=2 then lsB [Q2d (tagL p false),ks[0]?.getD []]
 else lsB (ks++[v])
def Q1y (ok:Bool)(B:List UInt8)(w:World)(e:Ending)(w':World):Prop :=
 ∃ (l:Bool) (ta:Option Addr) (tn tc:Nat) (t:List UInt8) (ka:Option Addr) (kn kc:Nat) (ks:List Itm),e=.returned (.tuple #[.agg #[.bool l,.slice ta tn tc,.slice ka kn kc],.bool ok]) /\
  (ok=true->Q17 w' (.mk l (.slice ta tn tc) t (.slice ka kn kc) ks)/\encI (.mk l (.slice ta tn tc) t (.slice ka kn kc) ks)=B/\Q1z (.mk l (.slice ta tn tc) t (.slice ka kn kc) ks)<=100000000)/\Below w.heap.size w w'
theorem Qhc (a:Option Addr)(n c:Nat)(y:Bool)(w:World)(J:n<=140737488355328):Calls Tryz.prog 151 #[.slice a n c,.bool y] w fun e w'=>e=.returned (.bool (Q2j n y))/\w=w':=by
 have h:n=32∨(n=0)∨(n≠32/\n≠0):=by omega
 rcases h with rfl|rfl|⟨E,G⟩
 ·go_enter Tryz.func151,Tryz.ntmps151
  go_wp2
  go_ret;exact ⟨rfl,rfl⟩
 ·cases y
  all_goals
   go_enter Tryz.func151,Tryz.ntmps151
   go_wp2
   go_ret;exact ⟨rfl,rfl⟩
 have H:((n:Int)==32)=false:=by rw [beq_eq_false_iff_ne];omega
 have I:((n:Int)==0)=false:=by rw [beq_eq_false_iff_ne];omega
 have z:Q2j n y=false:=by unfold Q2j;simp [E,G]
 have D:=Qhd z;clear z;cases y
 all_goals
  go_enter Tryz.func151,Tryz.ntmps151
  go_wp2
  go_ret;exact ⟨by rw [D.out];rfl,rfl⟩
def Q0l (p:Addr)(v:Value)(u:World):Prop:=u.cell? p=some v
theorem Q0l.below {p:Addr}{v:Value}{u u':World}(h:Q0l p v u)(y:Below u.heap.size u u'):Q0l p v u':=by
 unfold Q0l at h |-;rw [y.cell (World.block_lt_of_cell? u _ h)];exact h
theorem Q0l.grown {p:Addr}{v:Value}{u u':World}{g:Nat}(h:Q0l p v u)(y:u.grownBy u' (some g))(D:p.block≠g):Q0l p v u':=by
 unfold Q0l at h |-;have z:=World.block_lt_of_cell? u _ h;rw [<-h];exact World.cell?_of_block (w:=u) (y.block p.block z (by simpa using D))
theorem Q0a:Agg Tryz.prog 134 4:=⟨_,Tryz.underlying134,rfl,by kernel_rfl⟩
theorem Qei (l:List UInt8):(Q1e l=true/\Q3z l=0)∨(Q1e l=false/\Q3z l=1):=by
 unfold Q3z;cases h:Q1e l with
 | true=>left;simp
 | false=>right;simp
theorem Q6p (p:List UInt8)(leaf:Bool):(Q2d (tagL p leaf)).length<=p.length+2:=by
 unfold Q2d;split
 ·have h:=Qi4 (tagL p leaf);have y:=Qoz p leaf;omega
 simp
theorem Qn8 (pa D ka:Option Addr)(pn pc z E kn kc:Nat)(p v:List UInt8)(b':p.length=pn)(aT:v.length=z)(w:World)(hp:Q02 w (.slice pa pn pc) p)(hv:Q02 w (.slice D z E) v)(hP:pn<=4194304)(hV:z<=1048576) :
  Calls Tryz.prog 127 #[.agg #[.int .i64 1,.slice pa pn pc,.slice D z E,.slice ka kn kc]] w (Q1y (!Q0r p&&decide (1<=z)&&decide (z<=1024)) (lsB [Q2d (tagL p true),v]) w):=by
 have af:Blk 134 ((w.alloc (.cells #[.int .i64 1,.slice pa pn pc,.slice D z E,.slice ka kn kc] 134)).alloc (.cells #[.bool false,.slice none 0 0,.slice none 0 0] 77)) w.heap.size [.int .i64 1,.slice pa pn pc,.slice D z E,.slice ka kn kc]:=(D01 w 134 _).alloc _;have ag:Blk 77 ((w.alloc (.cells #[.int .i64 1,.slice pa pn pc,.slice D z E,.slice ka kn kc] 134)).alloc (.cells #[.bool false,.slice none 0 0,.slice none 0 0] 77)) (w.heap.size+1) [.bool false,.slice none 0 0,.slice none 0 0]:=by
  have:=D01 (w.alloc (.cells #[.int .i64 1,.slice pa pn pc,.slice D z E,.slice ka kn kc] 134)) 77 [.bool false,.slice none 0 0,.slice none 0 0];simpa using this
 have V:Below w.heap.size w ((w.alloc (.cells #[.int .i64 1,.slice pa pn pc,.slice D z E,.slice ka kn kc] 134)).alloc (.cells #[.bool false,.slice none 0 0,.slice none 0 0] 77)):=(Qba _ _).alloc (by simp) _;have ct:=fun x h=>Q8m pa pn pc p true b' x h (by omega);have aQ:=Q6p p true;rcases Qei (tagL p true) with ⟨ar,hE⟩|⟨ar,hE⟩
 ·rw [Q8n] at ar;rw [hE] at ct;have h3:z=0∨(0<z/\¬ z<=1024)∨(0<z/\z<=1024):=by omega
  obtain ⟨T,hT⟩:=Qe (Q2d (tagL p true));rw [<-hT] at aQ |-;simp only [<-hT] at ct;obtain ⟨ok,au⟩:=Qe ((!Q0r p&&decide (1<=z)&&decide (z<=1024)));rw [<-au];have aL:T.length<=4194310:=by omega
  obtain ⟨H,aM⟩:=Qe (T.length);have aJ:=Qhd aM;have Ct:=Qhd ct;have aI:=Qhd au;have aU:=Qhd ar;have aZ:=Qhd aL;have b0:=Qhd aT;clear ct hT aM aQ ar hE au aL aT;rcases h3 with aO|⟨aO,aW⟩|⟨aO,aW⟩
  ·have b5:decide ((0:Int)<(z:Int))=false:=by rw [decide_eq_false_iff_not];omega
   have bf:¬ 0<z:=by omega
   have b6:=Qhd aO;clear aO;go_enter Tryz.func127,Tryz.ntmps127
   go_wp2_with (go_at_call 150;refine (Ct.out _ (hp.below V)).mono ?_;rintro e O ⟨tv,rfl,aa,G⟩;have a':=af.kept G;have aC:=(a'.cell 0).trans (show _=some (Value.int .i64 1) from rfl);have ah:=ag.kept G;have a7:=D00 V G;obtain ⟨I,J,rfl,_⟩:=aa.form' H aJ.out.symm)
   have az:=hv.below a7;have c1:=fun x=>Q26 I H J x;have c2:=fun x=>Q26 D z E x;have C1:=Qhd c1;have C2:=Qhd c2;have a9:Q0l ⟨w.heap.size,2,none⟩ (.slice D z E) O:=(a'.cell 2).trans rfl;have k2:∀ u:In (Q0l ⟨w.heap.size,2,none⟩ (.slice D z E)),u.val.cell? ⟨w.heap.size,2,none⟩=some (.slice D z E):=fun u=>u.held;clear c1 c2 af ag V G aC;refine Q0w (Q0l ⟨w.heap.size,2,none⟩ (.slice D z E)) (by kernel_rfl) ?_;intro u0 ab;simp only [length_cons,length_nil,Nat.reduceAdd,replicate_succ,replicate_zero];have a6:Below O.heap.size O u0:=by rw [ab];exact (Below.refl _ _).drew
   have an:=a9.below a6;clear ab a9;refine Qtk 0 (fun K y=>?_);simp only [Qzs] at y;go_simp;(first|refine y _ ?_|refine ⟨_,fun _=>rfl,y _ ?_⟩);clear y K;refine Qtk 2 (fun K y=>?_);simp only [Qzs] at y;go_simp;(first|refine y _ ?_|refine ⟨_,fun _=>rfl,y _ ?_⟩);clear y K;refine Qtk 3 (fun K y=>?_);simp only [Qzs] at y;go_simp;(first|refine y _ ?_|refine ⟨_,fun _=>rfl,y _ ?_⟩);clear y K;refine Qtk 7 (fun K y=>?_);simp only [Qzs] at y;go_simp;(first|refine y _ ?_|refine ⟨_,fun _=>rfl,y _ ?_⟩);clear y K;refine Qtk 8 (fun K y=>?_);simp only [Qzs] at y;go_simp;(first|refine y _ ?_|refine ⟨_,fun _=>rfl,y _ ?_⟩);clear y K
   (refine Q0f 1 (by rfl) (by kernel_rfl) (fun K y=>?_);simp only [Qzs] at y;go_simp)
   (with_reducible refine (C1.out _).mono ?_)
   rintro e u1 ⟨rfl,Z⟩;have a2:=an.below Z;refine y _ _ a2 ?_;clear y K
   (refine Q0f 4 (by rfl) (by kernel_rfl) (fun K y=>?_);simp only [Qzs] at y;go_simp)
   (with_reducible refine (C2.out _).mono ?_)
   rintro e u2 ⟨rfl,G⟩;have a3:=a2.below G;refine y _ _ a3 ?_;clear y K;have L:=D00 (D00 a6 Z) G;have ay:=aa.below L;have aA:=az.below L;have ax:=D02 Q0k u2 77 [txt (.slice I H J) T,txt (.slice D z E) v] 2 rfl (by unfold maxLen;omega)
   (refine Q0f 5 (by rfl) (by kernel_rfl) (fun K y=>?_);simp only [Qzs] at y;go_simp)
   have b3:Below u2.heap.size u2 (u2.alloc (.cells #[.bool false,.slice I H J,.slice none 0 0,.bool false,.slice D z E,.slice none 0 0] 77)):=Qba _ _;have a4:=a3.below b3;refine y _ _ a4 ?_;clear y K
   (refine Q0f 6 (by rfl) (by kernel_rfl) (fun K y=>?_);simp only [Qzs] at y;go_simp)
   (with_reducible refine (Q4g _ _ _ _).mono ?_)
   rintro e u4 ⟨rfl,N⟩;have M:=D00 b3 N;have a5:=a4.below N;refine y _ _ a5 ?_;clear y K;have W:=D00 L M;have aS:=ay.below M;have aX:=aA.below M;have aR:=ax.kept N;have ai:=ah.kept W;have a8:=D00 a7 W;refine Qtk 9 (fun K y=>?_);simp only [Qzs] at y;go_simp;(first|refine y _ ?_|refine ⟨_,fun _=>rfl,y _ ?_⟩);clear y K;refine Qtk 10 (fun K y=>?_);simp only [Qzs] at y;go_simp;(first|refine y _ ?_|refine ⟨_,fun _=>rfl,y _ ?_⟩);clear y K;refine Qtk 11 (fun K y=>?_);simp only [Qzs] at y;go_simp;(first|refine y _ ?_|refine ⟨_,fun _=>rfl,y _ ?_⟩);clear y K;refine Qtk 12 (fun K y=>?_);simp only [Qzs] at y;go_simp;(first|refine y _ ?_|refine ⟨_,fun _=>rfl,y _ ?_⟩);clear y K;refine Qtk 13 (fun K y=>?_);simp only [Qzs] at y;go_simp;(first|refine y _ ?_|refine ⟨_,fun _=>rfl,y _ ?_⟩);clear y K;refine Qtk 14 (fun K y=>?_);simp only [Qzs] at y;go_simp;(first|refine y _ ?_|refine ⟨_,fun _=>rfl,y _ ?_⟩);clear y K;refine Qtk 15 (fun K y=>?_);simp only [Qzs] at y;go_simp;(first|refine y _ ?_|refine ⟨_,fun _=>rfl,y _ ?_⟩);clear y K;refine Qtk 16 (fun K y=>?_);simp only [Qzs] at y;go_simp;(first|refine y _ ?_|refine ⟨_,fun _=>rfl,y _ ?_⟩);clear y K;refine Qtk 17 (fun K y=>?_);simp only [Qzs] at y;go_simp;(first|refine y _ ?_|refine ⟨_,fun _=>rfl,y _ ?_⟩);clear y K;refine Qtk 18 (fun K y=>?_);simp only [Qzs] at y;go_simp;(first|refine y _ ?_|refine ⟨_,fun _=>rfl,y _ ?_⟩);clear y K;refine Qtk 19 (fun K y=>?_);simp only [Qzs] at y;go_simp;(first|refine y _ ?_|refine ⟨_,fun _=>rfl,y _ ?_⟩);clear y K;refine Qtk 20 (fun K y=>?_);simp only [Qzs] at y;go_simp;(first|refine y _ ?_|refine ⟨_,fun _=>rfl,y _ ?_⟩);clear y K;refine Q0f 21 (by rfl) (by kernel_rfl) (fun K y=>?_);refine Q1j (by rfl) 77 (.tmp 2) (.tmp 28) (by rfl) (w.heap.size+1) [.bool true,.slice none 0 0,.slice (some ⟨u2.heap.size,0,none⟩) 2 2] (by rfl) (by rfl) Q09 ai (by rfl) (by rfl) (by intro u S;simp at S;rcases S with rfl|rfl|rfl<;>rfl) (fun u5 o5 c5 U=>?_);have ao:=a5.grown U (by simp);refine y _ _ ao ?_;clear y K;have ae:=a8.grown U a8.size (fun j hj=>by cases hj;omega);refine Qtk 22 (fun K y=>?_);simp only [Qzs] at y;go_simp;(first|refine y _ ?_|refine ⟨_,fun _=>rfl,y _ ?_⟩);clear y K;refine Q11 (by kernel_rfl) ?_;clear k2
   go_wp2
   have av:ok=false:=by rw [aI.out,b6.out];simp
   subst av;exact bodyPost_ret (Q01 rfl _ _ (w.heap.size+1) Q09 o5 rfl rfl rfl) rfl ⟨true,none,0,0,[],some ⟨u2.heap.size,0,none⟩,2,2,[],rfl,fun h=>by simp at h,ae⟩
  ·have b5:(0:Int)<(z:Int):=by omega
   have b9:decide ((z:Int)<=1024)=false:=by rw [decide_eq_false_iff_not];omega
   go_enter Tryz.func127,Tryz.ntmps127
   go_wp2_with (go_at_call 150;refine (Ct.out _ (hp.below V)).mono ?_;rintro e O ⟨tv,rfl,aa,G⟩;have a':=af.kept G;have aC:=(a'.cell 0).trans (show _=some (Value.int .i64 1) from rfl);have ah:=ag.kept G;have a7:=D00 V G;obtain ⟨I,J,rfl,_⟩:=aa.form' H aJ.out.symm)
   have az:=hv.below a7;have c1:=fun x=>Q26 I H J x;have c2:=fun x=>Q26 D z E x;have C1:=Qhd c1;have C2:=Qhd c2;have a9:Q0l ⟨w.heap.size,2,none⟩ (.slice D z E) O:=(a'.cell 2).trans rfl;have k2:∀ u:In (Q0l ⟨w.heap.size,2,none⟩ (.slice D z E)),u.val.cell? ⟨w.heap.size,2,none⟩=some (.slice D z E):=fun u=>u.held;clear c1 c2 af ag V G aC;refine Q0w (Q0l ⟨w.heap.size,2,none⟩ (.slice D z E)) (by kernel_rfl) ?_;intro u0 ab;simp only [length_cons,length_nil,Nat.reduceAdd,replicate_succ,replicate_zero];have a6:Below O.heap.size O u0:=by rw [ab];exact (Below.refl _ _).drew
   have an:=a9.below a6;clear ab a9;refine Qtk 0 (fun K y=>?_);simp only [Qzs] at y;go_simp;(first|refine y _ ?_|refine ⟨_,fun _=>rfl,y _ ?_⟩);clear y K;refine Qtk 2 (fun K y=>?_);simp only [Qzs] at y;go_simp;(first|refine y _ ?_|refine ⟨_,fun _=>rfl,y _ ?_⟩);clear y K;refine Qtk 3 (fun K y=>?_);simp only [Qzs] at y;go_simp;(first|refine y _ ?_|refine ⟨_,fun _=>rfl,y _ ?_⟩);clear y K;refine Qtk 7 (fun K y=>?_);simp only [Qzs] at y;go_simp;(first|refine y _ ?_|refine ⟨_,fun _=>rfl,y _ ?_⟩);clear y K;refine Qtk 8 (fun K y=>?_);simp only [Qzs] at y;go_simp;(first|refine y _ ?_|refine ⟨_,fun _=>rfl,y _ ?_⟩);clear y K
   (refine Q0f 1 (by rfl) (by kernel_rfl) (fun K y=>?_);simp only [Qzs] at y;go_simp)
   (with_reducible refine (C1.out _).mono ?_)
   rintro e u1 ⟨rfl,Z⟩;have a2:=an.below Z;refine y _ _ a2 ?_;clear y K
   (refine Q0f 4 (by rfl) (by kernel_rfl) (fun K y=>?_);simp only [Qzs] at y;go_simp)
   (with_reducible refine (C2.out _).mono ?_)
   rintro e u2 ⟨rfl,G⟩;have a3:=a2.below G;refine y _ _ a3 ?_;clear y K;have L:=D00 (D00 a6 Z) G;have ay:=aa.below L;have aA:=az.below L;have ax:=D02 Q0k u2 77 [txt (.slice I H J) T,txt (.slice D z E) v] 2 rfl (by unfold maxLen;omega)
   (refine Q0f 5 (by rfl) (by kernel_rfl) (fun K y=>?_);simp only [Qzs] at y;go_simp)
   have b3:Below u2.heap.size u2 (u2.alloc (.cells #[.bool false,.slice I H J,.slice none 0 0,.bool false,.slice D z E,.slice none 0 0] 77)):=Qba _ _;have a4:=a3.below b3;refine y _ _ a4 ?_;clear y K
   (refine Q0f 6 (by rfl) (by kernel_rfl) (fun K y=>?_);simp only [Qzs] at y;go_simp)
   (with_reducible refine (Q4g _ _ _ _).mono ?_)
   rintro e u4 ⟨rfl,N⟩;have M:=D00 b3 N;have a5:=a4.below N;refine y _ _ a5 ?_;clear y K;have W:=D00 L M;have aS:=ay.below M;have aX:=aA.below M;have aR:=ax.kept N;have ai:=ah.kept W;have a8:=D00 a7 W;refine Qtk 9 (fun K y=>?_);simp only [Qzs] at y;go_simp;(first|refine y _ ?_|refine ⟨_,fun _=>rfl,y _ ?_⟩);clear y K;refine Qtk 10 (fun K y=>?_);simp only [Qzs] at y;go_simp;(first|refine y _ ?_|refine ⟨_,fun _=>rfl,y _ ?_⟩);clear y K;refine Qtk 11 (fun K y=>?_);simp only [Qzs] at y;go_simp;(first|refine y _ ?_|refine ⟨_,fun _=>rfl,y _ ?_⟩);clear y K;refine Qtk 12 (fun K y=>?_);simp only [Qzs] at y;go_simp;(first|refine y _ ?_|refine ⟨_,fun _=>rfl,y _ ?_⟩);clear y K;refine Qtk 13 (fun K y=>?_);simp only [Qzs] at y;go_simp;(first|refine y _ ?_|refine ⟨_,fun _=>rfl,y _ ?_⟩);clear y K;refine Qtk 14 (fun K y=>?_);simp only [Qzs] at y;go_simp;(first|refine y _ ?_|refine ⟨_,fun _=>rfl,y _ ?_⟩);clear y K;refine Qtk 15 (fun K y=>?_);simp only [Qzs] at y;go_simp;(first|refine y _ ?_|refine ⟨_,fun _=>rfl,y _ ?_⟩);clear y K;refine Qtk 16 (fun K y=>?_);simp only [Qzs] at y;go_simp;(first|refine y _ ?_|refine ⟨_,fun _=>rfl,y _ ?_⟩);clear y K;refine Qtk 17 (fun K y=>?_);simp only [Qzs] at y;go_simp;(first|refine y _ ?_|refine ⟨_,fun _=>rfl,y _ ?_⟩);clear y K;refine Qtk 18 (fun K y=>?_);simp only [Qzs] at y;go_simp;(first|refine y _ ?_|refine ⟨_,fun _=>rfl,y _ ?_⟩);clear y K;refine Qtk 19 (fun K y=>?_);simp only [Qzs] at y;go_simp;(first|refine y _ ?_|refine ⟨_,fun _=>rfl,y _ ?_⟩);clear y K;refine Qtk 20 (fun K y=>?_);simp only [Qzs] at y;go_simp;(first|refine y _ ?_|refine ⟨_,fun _=>rfl,y _ ?_⟩);clear y K;refine Q0f 21 (by rfl) (by kernel_rfl) (fun K y=>?_);refine Q1j (by rfl) 77 (.tmp 2) (.tmp 28) (by rfl) (w.heap.size+1) [.bool true,.slice none 0 0,.slice (some ⟨u2.heap.size,0,none⟩) 2 2] (by rfl) (by rfl) Q09 ai (by rfl) (by rfl) (by intro u S;simp at S;rcases S with rfl|rfl|rfl<;>rfl) (fun u5 o5 c5 U=>?_);have ao:=a5.grown U (by simp);refine y _ _ ao ?_;clear y K;have ae:=a8.grown U a8.size (fun j hj=>by cases hj;omega);refine Qtk 22 (fun K y=>?_);simp only [Qzs] at y;go_simp;(first|refine y _ ?_|refine ⟨_,fun _=>rfl,y _ ?_⟩);clear y K;refine Q11 (by kernel_rfl) ?_;clear k2
   go_wp2
   have av:ok=false:=by rw [aI.out];simp [aW]
   subst av;exact bodyPost_ret (Q01 rfl _ _ (w.heap.size+1) Q09 o5 rfl rfl rfl) rfl ⟨true,none,0,0,[],some ⟨u2.heap.size,0,none⟩,2,2,[],rfl,fun h=>by simp at h,ae⟩
  have b5:(0:Int)<(z:Int):=by omega
  have b9:(z:Int)<=1024:=by omega
  go_enter Tryz.func127,Tryz.ntmps127
  go_wp2_with (go_at_call 150;refine (Ct.out _ (hp.below V)).mono ?_;rintro e O ⟨tv,rfl,aa,G⟩;have a':=af.kept G;have aC:=(a'.cell 0).trans (show _=some (Value.int .i64 1) from rfl);have ah:=ag.kept G;have a7:=D00 V G;obtain ⟨I,J,rfl,_⟩:=aa.form' H aJ.out.symm)
  have az:=hv.below a7;have c1:=fun x=>Q26 I H J x;have c2:=fun x=>Q26 D z E x;have C1:=Qhd c1;have C2:=Qhd c2;have a9:Q0l ⟨w.heap.size,2,none⟩ (.slice D z E) O:=(a'.cell 2).trans rfl;have k2:∀ u:In (Q0l ⟨w.heap.size,2,none⟩ (.slice D z E)),u.val.cell? ⟨w.heap.size,2,none⟩=some (.slice D z E):=fun u=>u.held;clear c1 c2 af ag V G aC;refine Q0w (Q0l ⟨w.heap.size,2,none⟩ (.slice D z E)) (by kernel_rfl) ?_;intro u0 ab;simp only [length_cons,length_nil,Nat.reduceAdd,replicate_succ,replicate_zero];have a6:Below O.heap.size O u0:=by rw [ab];exact (Below.refl _ _).drew
  have an:=a9.below a6;clear ab a9;refine Qtk 0 (fun K y=>?_);simp only [Qzs] at y;go_simp;(first|refine y _ ?_|refine ⟨_,fun _=>rfl,y _ ?_⟩);clear y K;refine Qtk 2 (fun K y=>?_);simp only [Qzs] at y;go_simp;(first|refine y _ ?_|refine ⟨_,fun _=>rfl,y _ ?_⟩);clear y K;refine Qtk 3 (fun K y=>?_);simp only [Qzs] at y;go_simp;(first|refine y _ ?_|refine ⟨_,fun _=>rfl,y _ ?_⟩);clear y K;refine Qtk 7 (fun K y=>?_);simp only [Qzs] at y;go_simp;(first|refine y _ ?_|refine ⟨_,fun _=>rfl,y _ ?_⟩);clear y K;refine Qtk 8 (fun K y=>?_);simp only [Qzs] at y;go_simp;(first|refine y _ ?_|refine ⟨_,fun _=>rfl,y _ ?_⟩);clear y K
  (refine Q0f 1 (by rfl) (by kernel_rfl) (fun K y=>?_);simp only [Qzs] at y;go_simp)
  (with_reducible refine (C1.out _).mono ?_)
  rintro e u1 ⟨rfl,Z⟩;have a2:=an.below Z;refine y _ _ a2 ?_;clear y K
  (refine Q0f 4 (by rfl) (by kernel_rfl) (fun K y=>?_);simp only [Qzs] at y;go_simp)
  (with_reducible refine (C2.out _).mono ?_)
  rintro e u2 ⟨rfl,G⟩;have a3:=a2.below G;refine y _ _ a3 ?_;clear y K;have L:=D00 (D00 a6 Z) G;have ay:=aa.below L;have aA:=az.below L;have ax:=D02 Q0k u2 77 [txt (.slice I H J) T,txt (.slice D z E) v] 2 rfl (by unfold maxLen;omega)
  (refine Q0f 5 (by rfl) (by kernel_rfl) (fun K y=>?_);simp only [Qzs] at y;go_simp)
  have b3:Below u2.heap.size u2 (u2.alloc (.cells #[.bool false,.slice I H J,.slice none 0 0,.bool false,.slice D z E,.slice none 0 0] 77)):=Qba _ _;have a4:=a3.below b3;refine y _ _ a4 ?_;clear y K
  (refine Q0f 6 (by rfl) (by kernel_rfl) (fun K y=>?_);simp only [Qzs] at y;go_simp)
  (with_reducible refine (Q4g _ _ _ _).mono ?_)
  rintro e u4 ⟨rfl,N⟩;have M:=D00 b3 N;have a5:=a4.below N;refine y _ _ a5 ?_;clear y K;have W:=D00 L M;have aS:=ay.below M;have aX:=aA.below M;have aR:=ax.kept N;have ai:=ah.kept W;have a8:=D00 a7 W;refine Qtk 9 (fun K y=>?_);simp only [Qzs] at y;go_simp;(first|refine y _ ?_|refine ⟨_,fun _=>rfl,y _ ?_⟩);clear y K;refine Qtk 10 (fun K y=>?_);simp only [Qzs] at y;go_simp;(first|refine y _ ?_|refine ⟨_,fun _=>rfl,y _ ?_⟩);clear y K;refine Qtk 11 (fun K y=>?_);simp only [Qzs] at y;go_simp;(first|refine y _ ?_|refine ⟨_,fun _=>rfl,y _ ?_⟩);clear y K;refine Qtk 12 (fun K y=>?_);simp only [Qzs] at y;go_simp;(first|refine y _ ?_|refine ⟨_,fun _=>rfl,y _ ?_⟩);clear y K;refine Qtk 13 (fun K y=>?_);simp only [Qzs] at y;go_simp;(first|refine y _ ?_|refine ⟨_,fun _=>rfl,y _ ?_⟩);clear y K;refine Qtk 14 (fun K y=>?_);simp only [Qzs] at y;go_simp;(first|refine y _ ?_|refine ⟨_,fun _=>rfl,y _ ?_⟩);clear y K;refine Qtk 15 (fun K y=>?_);simp only [Qzs] at y;go_simp;(first|refine y _ ?_|refine ⟨_,fun _=>rfl,y _ ?_⟩);clear y K;refine Qtk 16 (fun K y=>?_);simp only [Qzs] at y;go_simp;(first|refine y _ ?_|refine ⟨_,fun _=>rfl,y _ ?_⟩);clear y K;refine Qtk 17 (fun K y=>?_);simp only [Qzs] at y;go_simp;(first|refine y _ ?_|refine ⟨_,fun _=>rfl,y _ ?_⟩);clear y K;refine Qtk 18 (fun K y=>?_);simp only [Qzs] at y;go_simp;(first|refine y _ ?_|refine ⟨_,fun _=>rfl,y _ ?_⟩);clear y K;refine Qtk 19 (fun K y=>?_);simp only [Qzs] at y;go_simp;(first|refine y _ ?_|refine ⟨_,fun _=>rfl,y _ ?_⟩);clear y K;refine Qtk 20 (fun K y=>?_);simp only [Qzs] at y;go_simp;(first|refine y _ ?_|refine ⟨_,fun _=>rfl,y _ ?_⟩);clear y K;refine Q0f 21 (by rfl) (by kernel_rfl) (fun K y=>?_);refine Q1j (by rfl) 77 (.tmp 2) (.tmp 28) (by rfl) (w.heap.size+1) [.bool true,.slice none 0 0,.slice (some ⟨u2.heap.size,0,none⟩) 2 2] (by rfl) (by rfl) Q09 ai (by rfl) (by rfl) (by intro u S;simp at S;rcases S with rfl|rfl|rfl<;>rfl) (fun u5 o5 c5 U=>?_);have ao:=a5.grown U (by simp);refine y _ _ ao ?_;clear y K;have ae:=a8.grown U a8.size (fun j hj=>by cases hj;omega);refine Qtk 22 (fun K y=>?_);simp only [Qzs] at y;go_simp;(first|refine y _ ?_|refine ⟨_,fun _=>rfl,y _ ?_⟩);clear y K;refine Q11 (by kernel_rfl) ?_;clear k2
  go_wp2
  have av:ok=true:=by rw [aI.out,aU.out];simp [show 1<=z from aO,aW]
  subst av;have bb:=Q02.off aS ai (by intro u S k;simp at S;rcases S with rfl|rfl|rfl<;>simp) U;have bc:=hv.below ae;have ba:=Q05.grownNe aR U (by have:=ah.lt;have:=L.size;omega);refine bodyPost_ret (Q01 rfl _ _ (w.heap.size+1) Q09 o5 rfl rfl rfl) rfl ⟨true,none,0,0,[],some ⟨u2.heap.size,0,none⟩,2,2,[txt (.slice I H J) T,txt (.slice D z E) v],rfl,fun _=>⟨?_,?_,?_⟩,ae⟩
  ·exact Q17.lst ba (Q76 (ps:=[(.slice I H J,T),(.slice D z E,v)]) (by intro p hp;simp at hp;rcases hp with rfl|rfl;exact bb;exact bc))
  ·exact Q29 _ [(.slice I H J,T),(.slice D z E,v)]
  refine le_trans (le_of_eq (Q5m _ (txts [(.slice I H J,T),(.slice D z E,v)]))) ?_;rw [Q38];have:=aZ.out;have:=b0.out;simp;omega
 rw [Q8n] at ar;rw [hE] at ct;obtain ⟨T,hT⟩:=Qe (Q2d (tagL p true));rw [<-hT] at aQ |-;simp only [<-hT] at ct;obtain ⟨ok,au⟩:=Qe ((!Q0r p&&decide (1<=z)&&decide (z<=1024)));rw [<-au];have aL:T.length<=4194310:=by omega
 obtain ⟨H,aM⟩:=Qe (T.length);have aJ:=Qhd aM;have Ct:=Qhd ct;have aI:=Qhd au;have aU:=Qhd ar;have aZ:=Qhd aL;have b0:=Qhd aT;clear ct hT aM aQ ar hE au aL aT;skip;go_enter Tryz.func127,Tryz.ntmps127
 go_wp2_with (go_at_call 150;refine (Ct.out _ (hp.below V)).mono ?_;rintro e O ⟨tv,rfl,aa,G⟩;have a':=af.kept G;have aC:=(a'.cell 0).trans (show _=some (Value.int .i64 1) from rfl);have ah:=ag.kept G;have a7:=D00 V G;obtain ⟨I,J,rfl,_⟩:=aa.form' H aJ.out.symm)
 have az:=hv.below a7;have c1:=fun x=>Q26 I H J x;have c2:=fun x=>Q26 D z E x;have C1:=Qhd c1;have C2:=Qhd c2;have a9:Q0l ⟨w.heap.size,2,none⟩ (.slice D z E) O:=(a'.cell 2).trans rfl;have k2:∀ u:In (Q0l ⟨w.heap.size,2,none⟩ (.slice D z E)),u.val.cell? ⟨w.heap.size,2,none⟩=some (.slice D z E):=fun u=>u.held;clear c1 c2 af ag V G aC;refine Q0w (Q0l ⟨w.heap.size,2,none⟩ (.slice D z E)) (by kernel_rfl) ?_;intro u0 ab;simp only [length_cons,length_nil,Nat.reduceAdd,replicate_succ,replicate_zero];have a6:Below O.heap.size O u0:=by rw [ab];exact (Below.refl _ _).drew
 have an:=a9.below a6;clear ab a9;refine Qtk 0 (fun K y=>?_);simp only [Qzs] at y;go_simp;(first|refine y _ ?_|refine ⟨_,fun _=>rfl,y _ ?_⟩);clear y K;refine Qtk 2 (fun K y=>?_);simp only [Qzs] at y;go_simp;(first|refine y _ ?_|refine ⟨_,fun _=>rfl,y _ ?_⟩);clear y K;refine Qtk 3 (fun K y=>?_);simp only [Qzs] at y;go_simp;(first|refine y _ ?_|refine ⟨_,fun _=>rfl,y _ ?_⟩);clear y K;refine Qtk 7 (fun K y=>?_);simp only [Qzs] at y;go_simp;(first|refine y _ ?_|refine ⟨_,fun _=>rfl,y _ ?_⟩);clear y K;refine Qtk 8 (fun K y=>?_);simp only [Qzs] at y;go_simp;(first|refine y _ ?_|refine ⟨_,fun _=>rfl,y _ ?_⟩);clear y K
 (refine Q0f 1 (by rfl) (by kernel_rfl) (fun K y=>?_);simp only [Qzs] at y;go_simp)
 (with_reducible refine (C1.out _).mono ?_)
 rintro e u1 ⟨rfl,Z⟩;have a2:=an.below Z;refine y _ _ a2 ?_;clear y K
 (refine Q0f 4 (by rfl) (by kernel_rfl) (fun K y=>?_);simp only [Qzs] at y;go_simp)
 (with_reducible refine (C2.out _).mono ?_)
 rintro e u2 ⟨rfl,G⟩;have a3:=a2.below G;refine y _ _ a3 ?_;clear y K;have L:=D00 (D00 a6 Z) G;have ay:=aa.below L;have aA:=az.below L;have ax:=D02 Q0k u2 77 [txt (.slice I H J) T,txt (.slice D z E) v] 2 rfl (by unfold maxLen;omega)
 (refine Q0f 5 (by rfl) (by kernel_rfl) (fun K y=>?_);simp only [Qzs] at y;go_simp)
 have b3:Below u2.heap.size u2 (u2.alloc (.cells #[.bool false,.slice I H J,.slice none 0 0,.bool false,.slice D z E,.slice none 0 0] 77)):=Qba _ _;have a4:=a3.below b3;refine y _ _ a4 ?_;clear y K
 (refine Q0f 6 (by rfl) (by kernel_rfl) (fun K y=>?_);simp only [Qzs] at y;go_simp)
 (with_reducible refine (Q4g _ _ _ _).mono ?_)
 rintro e u4 ⟨rfl,N⟩;have M:=D00 b3 N;have a5:=a4.below N;refine y _ _ a5 ?_;clear y K;have W:=D00 L M;have aS:=ay.below M;have aX:=aA.below M;have aR:=ax.kept N;have ai:=ah.kept W;have a8:=D00 a7 W;refine Qtk 9 (fun K y=>?_);simp only [Qzs] at y;go_simp;(first|refine y _ ?_|refine ⟨_,fun _=>rfl,y _ ?_⟩);clear y K;refine Qtk 10 (fun K y=>?_);simp only [Qzs] at y;go_simp;(first|refine y _ ?_|refine ⟨_,fun _=>rfl,y _ ?_⟩);clear y K;refine Qtk 11 (fun K y=>?_);simp only [Qzs] at y;go_simp;(first|refine y _ ?_|refine ⟨_,fun _=>rfl,y _ ?_⟩);clear y K;refine Qtk 12 (fun K y=>?_);simp only [Qzs] at y;go_simp;(first|refine y _ ?_|refine ⟨_,fun _=>rfl,y _ ?_⟩);clear y K;refine Qtk 13 (fun K y=>?_);simp only [Qzs] at y;go_simp;(first|refine y _ ?_|refine ⟨_,fun _=>rfl,y _ ?_⟩);clear y K;refine Qtk 14 (fun K y=>?_);simp only [Qzs] at y;go_simp;(first|refine y _ ?_|refine ⟨_,fun _=>rfl,y _ ?_⟩);clear y K;refine Qtk 15 (fun K y=>?_);simp only [Qzs] at y;go_simp;(first|refine y _ ?_|refine ⟨_,fun _=>rfl,y _ ?_⟩);clear y K;refine Qtk 16 (fun K y=>?_);simp only [Qzs] at y;go_simp;(first|refine y _ ?_|refine ⟨_,fun _=>rfl,y _ ?_⟩);clear y K;refine Qtk 17 (fun K y=>?_);simp only [Qzs] at y;go_simp;(first|refine y _ ?_|refine ⟨_,fun _=>rfl,y _ ?_⟩);clear y K;refine Qtk 18 (fun K y=>?_);simp only [Qzs] at y;go_simp;(first|refine y _ ?_|refine ⟨_,fun _=>rfl,y _ ?_⟩);clear y K;refine Qtk 19 (fun K y=>?_);simp only [Qzs] at y;go_simp;(first|refine y _ ?_|refine ⟨_,fun _=>rfl,y _ ?_⟩);clear y K;refine Qtk 20 (fun K y=>?_);simp only [Qzs] at y;go_simp;(first|refine y _ ?_|refine ⟨_,fun _=>rfl,y _ ?_⟩);clear y K;refine Q0f 21 (by rfl) (by kernel_rfl) (fun K y=>?_);refine Q1j (by rfl) 77 (.tmp 2) (.tmp 28) (by rfl) (w.heap.size+1) [.bool true,.slice none 0 0,.slice (some ⟨u2.heap.size,0,none⟩) 2 2] (by rfl) (by rfl) Q09 ai (by rfl) (by rfl) (by intro u S;simp at S;rcases S with rfl|rfl|rfl<;>rfl) (fun u5 o5 c5 U=>?_);have ao:=a5.grown U (by simp);refine y _ _ ao ?_;clear y K;have ae:=a8.grown U a8.size (fun j hj=>by cases hj;omega);refine Qtk 22 (fun K y=>?_);simp only [Qzs] at y;go_simp;(first|refine y _ ?_|refine ⟨_,fun _=>rfl,y _ ?_⟩);clear y K;refine Q11 (by kernel_rfl) ?_;clear k2
 go_wp2
 have av:ok=false:=by rw [aI.out];rw [aU.out];simp
 subst av;exact bodyPost_ret (Q01 rfl _ _ (w.heap.size+1) Q09 o5 rfl rfl rfl) rfl ⟨true,none,0,0,[],some ⟨u2.heap.size,0,none⟩,2,2,[],rfl,fun h=>by simp at h,ae⟩
def Q7r (B:Nat)(v1 v2:Value)(T V:List UInt8):Ty:=fun v w=>∃ g:Nat,v=.agg #[.bool true,.slice none 0 0,.slice (some ⟨g,0,none⟩) 2 2]/\(B<=g/\Q05 Q0j 3 w (.slice (some ⟨g,0,none⟩) 2 2) [txt v1 T,txt v2 V])
theorem Q7r.mono (B:Nat)(h y:Value)(T V:List UInt8):Mono (Q7r B h y T V):=fun _ _ _ ⟨g,h1,h0,h2⟩ hb=>⟨g,h1,h0,Q05.kept h2 hb⟩
def Qey (B:Nat)(v1 v2:Value)(T V:List UInt8):Ty:=fun v w=>∃ g:Nat,v=.slice (some ⟨g,0,none⟩) 2 2/\(B<=g/\Q05 Q0j 3 w v [txt v1 T,txt v2 V])
theorem Qey.mono (B:Nat)(h y:Value)(T V:List UInt8):Mono (Qey B h y T V):=fun _ _ _ ⟨g,h1,h0,h2⟩ hb=>⟨g,h1,h0,Q05.kept h2 hb⟩
theorem Qn5 (L va ka:Option Addr)(y M vn vc G V:Nat)(p:List UInt8)(ps:List (Value × List UInt8))(bk:p.length=y)(aX:ps.length=G)(w:World)(hp:Q02 w (.slice L y M) p)(hk:Q12 w (.slice ka G V) ps)(hP:y<=4194304)(H:G<=1048576)(ag:∀ q∈ps,q.2.length<=1048576) :
  Calls Tryz.prog 127 #[.agg #[.int .i64 2,.slice L y M,.slice va vn vc,.slice ka G V]] w (Q1y (!Q0r p&&decide (1<=y)&&decide (G=1)&&decide (((ps.map (·.2))[0]?.getD []).length=32)) (lsB [Q2d (tagL p false),(ps.map (·.2))[0]?.getD []]) w):=by
 have ar:Blk 134 ((w.alloc (.cells #[.int .i64 2,.slice L y M,.slice va vn vc,.slice ka G V] 134)).alloc (.cells #[.bool false,.slice none 0 0,.slice none 0 0] 77)) w.heap.size [.int .i64 2,.slice L y M,.slice va vn vc,.slice ka G V]:=(D01 w 134 _).alloc _;have av:Blk 77 ((w.alloc (.cells #[.int .i64 2,.slice L y M,.slice va vn vc,.slice ka G V] 134)).alloc (.cells #[.bool false,.slice none 0 0,.slice none 0 0] 77)) (w.heap.size+1) [.bool false,.slice none 0 0,.slice none 0 0]:=by
  have:=D01 (w.alloc (.cells #[.int .i64 2,.slice L y M,.slice va vn vc,.slice ka G V] 134)) 77 [.bool false,.slice none 0 0,.slice none 0 0];simpa using this
 have a1:Below w.heap.size w ((w.alloc (.cells #[.int .i64 2,.slice L y M,.slice va vn vc,.slice ka G V] 134)).alloc (.cells #[.bool false,.slice none 0 0,.slice none 0 0] 77)):=(Qba _ _).alloc (by simp) _;have J:=fun x h=>Q8m L y M p false bk x h (by omega);have aT:=Q6p p false;obtain ⟨T,hT⟩:=Qe (Q2d (tagL p false));rw [<-hT] at aT |-;simp only [<-hT] at J;obtain ⟨B,hB⟩:=Qe (lsB [T,(ps.map (·.2))[0]?.getD []]);rw [<-hB];obtain ⟨ok,aO⟩:=Qe ((!Q0r p&&decide (1<=y)&&decide (G=1)&&decide (((ps.map (·.2))[0]?.getD []).length=32)));rw [<-aO];have aY:T.length<=4194310:=by omega
 obtain ⟨O,b3⟩:=Qe (T.length);have hw:=Qei (tagL p false);rw [Q8n] at hw;have ao:=Qhd b3;have ay:=Qhd aO;have bf:=Qhd aY;have HB:=Qhd hB;have be:=Qhd aX;clear hT b3 aT aO aY hB aX;have bj:(Q3z (tagL p false)=1/\(!Q0r p)=false)∨((Q3z (tagL p false)=0/\(!Q0r p)=true)/\(y=0∨(0<y/\G≠1)∨(0<y/\G=1))):=by
  rcases hw with ⟨h1,h2⟩|⟨h1,h2⟩
  ·right;exact ⟨⟨h2,h1⟩,by omega⟩
  left;exact ⟨h2,h1⟩
 rcases bj with ⟨hE,aa⟩|⟨⟨hE,aa⟩,ae|⟨ae,aB⟩|⟨ae,aB⟩⟩
 ·rw [hE] at J;have Ct:=Qhd J;clear J;have aQ:=Qhd aa;clear hE aa hk ag;go_enter Tryz.func127,Tryz.ntmps127
  go_wp2_with (first
   |(go_at_call 150;refine (Ct.out _ (hp.below a1)).mono ?_;rintro e w2 ⟨tv,rfl,a3,z⟩;have D:=ar.kept z;have aw:=(D.cell 0).trans (show _=some (Value.int .i64 2) from rfl);have ax:=(D.cell 1).trans (show _=some (Value.slice L y M) from rfl);have aj:=(D.cell 3).trans (show _=some (Value.slice ka G V) from rfl);have a4:=av.kept z;have I:=D00 a1 z;obtain ⟨S,U,rfl,_⟩:=a3.form' O ao.out.symm)
   |((with_reducible show wpList _ _ _ (⟨none,.store _ _ _,_,_,_,_⟩::_) _ _);refine Qsa 77 2 67 (w.heap.size+1) [.bool false,.slice none 0 0,.slice none 0 0] Q09 a4 (by rfl) (by rfl) (by intro u E;simp at E;rcases E with rfl|rfl<;>rfl) (Below.refl _ _) (le_refl _) ?_;intro w5 a8 _ Z;have a2:=I.grown Z I.size (fun j hj=>by cases hj;omega)))
  have a':ok=false:=by rw [ay.out];rw [aQ.out];simp
  subst a';exact bodyPost_ret (Q01 rfl _ _ (w.heap.size+1) Q09 a8 rfl rfl rfl) rfl ⟨false,none,0,0,[],none,0,0,[],rfl,fun h=>by simp at h,a2⟩
 ·rw [hE] at J;have Ct:=Qhd J;clear J;have aQ:=Qhd aa;have bh:=Qhd ae;have b1:((y:Int)==0)=true:=by rw [beq_iff_eq];omega
  clear hE aa ae hk ag;go_enter Tryz.func127,Tryz.ntmps127
  go_wp2_with (first
   |(go_at_call 150;refine (Ct.out _ (hp.below a1)).mono ?_;rintro e w2 ⟨tv,rfl,a3,z⟩;have D:=ar.kept z;have aw:=(D.cell 0).trans (show _=some (Value.int .i64 2) from rfl);have ax:=(D.cell 1).trans (show _=some (Value.slice L y M) from rfl);have aj:=(D.cell 3).trans (show _=some (Value.slice ka G V) from rfl);have a4:=av.kept z;have I:=D00 a1 z;obtain ⟨S,U,rfl,_⟩:=a3.form' O ao.out.symm)
   |((with_reducible show wpList _ _ _ (⟨none,.store _ _ _,_,_,_,_⟩::_) _ _);refine Qsa 77 2 67 (w.heap.size+1) [.bool false,.slice none 0 0,.slice none 0 0] Q09 a4 (by rfl) (by rfl) (by intro u E;simp at E;rcases E with rfl|rfl<;>rfl) (Below.refl _ _) (le_refl _) ?_;intro w5 a8 _ Z;have a2:=I.grown Z I.size (fun j hj=>by cases hj;omega)))
  have a':ok=false:=by rw [ay.out];rw [bh.out];simp
  subst a';exact bodyPost_ret (Q01 rfl _ _ (w.heap.size+1) Q09 a8 rfl rfl rfl) rfl ⟨false,none,0,0,[],none,0,0,[],rfl,fun h=>by simp at h,a2⟩
 ·rw [hE] at J;have Ct:=Qhd J;clear J;have b1:((y:Int)==0)=false:=by rw [beq_eq_false_iff_ne];omega
  have bw:((G:Int) != 1)=true:=by rw [bne_iff_ne];omega
  have bd:=Qhd aB;clear hE aa hk ag;go_enter Tryz.func127,Tryz.ntmps127
  go_wp2_with (first
   |(go_at_call 150;refine (Ct.out _ (hp.below a1)).mono ?_;rintro e w2 ⟨tv,rfl,a3,z⟩;have D:=ar.kept z;have aw:=(D.cell 0).trans (show _=some (Value.int .i64 2) from rfl);have ax:=(D.cell 1).trans (show _=some (Value.slice L y M) from rfl);have aj:=(D.cell 3).trans (show _=some (Value.slice ka G V) from rfl);have a4:=av.kept z;have I:=D00 a1 z;obtain ⟨S,U,rfl,_⟩:=a3.form' O ao.out.symm)
   |((with_reducible show wpList _ _ _ (⟨none,.store _ _ _,_,_,_,_⟩::_) _ _);refine Qsa 77 2 67 (w.heap.size+1) [.bool false,.slice none 0 0,.slice none 0 0] Q09 a4 (by rfl) (by rfl) (by intro u E;simp at E;rcases E with rfl|rfl<;>rfl) (Below.refl _ _) (le_refl _) ?_;intro w5 a8 _ Z;have a2:=I.grown Z I.size (fun j hj=>by cases hj;omega)))
  have a':ok=false:=by rw [ay.out];simp [bd.out]
  subst a';exact bodyPost_ret (Q01 rfl _ _ (w.heap.size+1) Q09 a8 rfl rfl rfl) rfl ⟨false,none,0,0,[],none,0,0,[],rfl,fun h=>by simp at h,a2⟩
 rw [hE] at J;have Ct:=Qhd J;clear J;have b1:((y:Int)==0)=false:=by rw [beq_eq_false_iff_ne];omega
 obtain ⟨q,hq⟩:∃ q,ps=[q]:=List.length_eq_one_iff.1 (be.out.trans aB);subst hq;subst aB;obtain ⟨kb,aE,q',rfl,bm,ai,ap⟩:=Q12.at hk 0 (by simp);obtain rfl:q=q':=by simpa using bm
 obtain ⟨qv,N⟩:=q;simp only at ai ap;obtain ⟨qa,qc,rfl,_,bx⟩:=ap.form;have bn:N.length<=1048576:=ag (.slice qa N.length qc,N) (by simp);obtain ⟨W,aC⟩:=Qe (N.length);rw [<-aC] at ai ap bn;rw [Nat.add_zero] at ai;have aZ:=World.block_lt_of_cell? w _ ai;have cs:=fun x=>Qhc qa W qc false x (by omega);have aA:∀ qv:Value,((List.map (fun p:Value × List UInt8=>p.2) [(qv,N)])[0]?.getD [])=N:=fun _=>rfl;have az:=HB.out;have aq:=ay.out;rw [aA,aa] at aq;rw [aA] at az;have aI:=Qhd aC;by_cases h32:W=32
 ·have au:Q2j W false=true:=by unfold Q2j;simp [h32]
  rw [au] at cs;have Cs:=Qhd cs;have a':ok=true:=by rw [aq,<-aI.out];simp [h32,show 1<=y from ae]
  subst a';have bc:=Qhd az;clear hE aa hk ag cs au h32 aq aA az aC ae;go_enter Tryz.func127,Tryz.ntmps127
  go_wp2_with (first
   |(go_at_call 150;refine (Ct.out _ (hp.below a1)).mono ?_;rintro e w2 ⟨tv,rfl,a3,z⟩;have D:=ar.kept z;have aw:=(D.cell 0).trans (show _=some (Value.int .i64 2) from rfl);have ax:=(D.cell 1).trans (show _=some (Value.slice L y M) from rfl);have aj:=(D.cell 3).trans (show _=some (Value.slice (some ⟨kb,aE,none⟩) 1 V) from rfl);have a4:=av.kept z;have I:=D00 a1 z;have aW:=(I.cell (p:=⟨kb,aE,none⟩) aZ).trans ai;obtain ⟨S,U,rfl,_⟩:=a3.form' O ao.out.symm)
   |(go_at_call 151;(with_reducible refine (Cs.out _).mono ?_);rintro e w3 ⟨rfl,rfl⟩))
  have c1:=fun x=>Q26 S O U x;have c2:=fun x=>Q26 qa W qc x;have C1:=Qhd c1;have C2:=Qhd c2;clear c1 c2;have k3:=fun u:Ext w2=>u.cell aj;have k4:=fun u:Ext w2=>u.cell aW;have bz:=ap.below I;clear aw ax aj;refine Q03 w2 9 (by kernel_rfl) (by kernel_rfl) (Below.refl _ _) ?_;simp only [List.take_succ_cons,take_zero,take_nil]
  (refine Q06 (by rfl) (fun K H=>?_);go_simp;refine H _ ?_;clear H K)
  (refine Q06 (by rfl) (fun K H=>?_);go_simp;first|(refine H _ ?_;clear H K)|(apply Exists.intro;refine ⟨fun _=>?_,H _ ?_⟩;exact C1.out _;clear H K))
  iterate 4 (refine Q06 (by rfl) (fun K H=>?_);go_simp;refine H _ ?_;clear H K)
  (refine Q06 (by rfl) (fun K H=>?_);go_simp;first|(refine H _ ?_;clear H K)|(apply Exists.intro;refine ⟨fun _=>?_,H _ ?_⟩;exact C2.out _;clear H K))
  refine Q0e 75 (Qey w2.heap.size (.slice S O U) (.slice qa W qc) T N) rfl (of_decide_eq_true rfl) (Qey.mono _ _ _ _ _) (fun w3 b6=>?_) ?_
  ·simp only [Q18,filter_nil,Q00];refine ⟨rfl,?_⟩;go_simp;exact ⟨Qba _ _,w3.heap.size,rfl,b6.size,D02 Q0k w3 77 [txt (.slice S O U) T,txt (.slice qa W qc) N] 2 rfl (by unfold maxLen;omega)⟩
  refine Q0e 76 (Q7r w2.heap.size (.slice S O U) (.slice qa W qc) T N) rfl (of_decide_eq_true rfl) (Q7r.mono _ _ _ _ _) (fun w3 b6=>?_) ?_
  ·change Q00 w3 [(75,_)] _ _;rintro bA ⟨g,rfl,aV,hr⟩;simp only [Q00];refine ⟨rfl,?_⟩;go_simp;refine (Q4g _ 2 2 w3).mono ?_;rintro e w4 ⟨rfl,b4⟩;exact ⟨_,rfl,⟨g,rfl,aV,Q05.kept hr b4⟩,b4⟩
  refine Q0i ?_;intro u2 aN bB _ bC bi;change wpList _ _ _ [_,_] _ _;obtain ⟨g,rfl,aV,hr⟩:=bi;have b7:=a4.kept aN;have aU:=D00 I aN;have bp:=a3.below aN;clear k3 k4
  go_wp2_with ((with_reducible show wpList _ _ _ (⟨none,.store _ _ _,_,_,_,_⟩::_) _ _);refine Qsa 77 2 76 (w.heap.size+1) [.bool true,.slice none 0 0,.slice (some ⟨g,0,none⟩) 2 2] Q09 b7 (by rfl) (by rfl) (by intro u E;simp at E;rcases E with rfl|rfl|rfl<;>rfl) (Below.refl _ _) (le_refl _) ?_;intro w5 a8 _ Z;have a2:=aU.grown Z aU.size (fun j hj=>by cases hj;omega))
  have bq:=Q02.off bp b7 (by intro u E k;simp at E;rcases E with rfl|rfl|rfl<;>simp) Z;have br:=ap.below a2;have bo:=Q05.grownNe hr Z (by have:=a4.lt;omega);refine bodyPost_ret (Q01 rfl _ _ (w.heap.size+1) Q09 a8 rfl rfl rfl) rfl ⟨true,none,0,0,[],some ⟨g,0,none⟩,2,2,[txt (.slice S O U) T,txt (.slice qa W qc) N],rfl,fun _=>⟨?_,?_,?_⟩,a2⟩
  ·exact Q17.lst bo (Q76 (ps:=[(.slice S O U,T),(.slice qa W qc,N)]) (by intro p hp;simp at hp;rcases hp with rfl|rfl;exact bq;exact br))
  ·rw [bc.out];exact Q29 _ [(.slice S O U,T),(.slice qa W qc,N)]
  refine le_trans (le_of_eq (Q5m _ (txts [(.slice S O U,T),(.slice qa W qc,N)]))) ?_;rw [Q38];have:=bf.out;have:=aI.out;simp;omega
 have au:Q2j W false=false:=by unfold Q2j;simp [h32]
 rw [au] at cs;have Cs:=Qhd cs;have b0:ok=false:=by rw [aq,<-aI.out];simp [h32]
 have bg:=Qhd b0;clear hE aa hk ag cs au h32 aq aA az aC b0 ae;go_enter Tryz.func127,Tryz.ntmps127
 go_wp2_with (first
  |(go_at_call 150;refine (Ct.out _ (hp.below a1)).mono ?_;rintro e w2 ⟨tv,rfl,a3,z⟩;have D:=ar.kept z;have aw:=(D.cell 0).trans (show _=some (Value.int .i64 2) from rfl);have ax:=(D.cell 1).trans (show _=some (Value.slice L y M) from rfl);have aj:=(D.cell 3).trans (show _=some (Value.slice (some ⟨kb,aE,none⟩) 1 V) from rfl);have a4:=av.kept z;have I:=D00 a1 z;have aW:=(I.cell (p:=⟨kb,aE,none⟩) aZ).trans ai;obtain ⟨S,U,rfl,_⟩:=a3.form' O ao.out.symm)
  |((with_reducible show wpList _ _ _ (⟨none,.store _ _ _,_,_,_,_⟩::_) _ _);refine Qsa 77 2 67 (w.heap.size+1) [.bool false,.slice none 0 0,.slice none 0 0] Q09 a4 (by rfl) (by rfl) (by intro u E;simp at E;rcases E with rfl|rfl<;>rfl) (Below.refl _ _) (le_refl _) ?_;intro w5 a8 _ Z;have a2:=I.grown Z I.size (fun j hj=>by cases hj;omega))
  |(go_at_call 151;(with_reducible refine (Cs.out _).mono ?_);rintro e w3 ⟨rfl,rfl⟩))
 have a':ok=false:=by exact bg.out
 subst a';exact bodyPost_ret (Q01 rfl _ _ (w.heap.size+1) Q09 a8 rfl rfl rfl) rfl ⟨false,none,0,0,[],none,0,0,[],rfl,fun h=>by simp at h,a2⟩
theorem Qn6 (z J G:Option Addr)(y D L K I H:Nat)(p:List UInt8)(Z:p.length=y)(w:World)(hp:Q02 w (.slice z y D) p)(hP:y<=4194304) :
  Calls Tryz.prog 127 #[.agg #[.int .i64 0,.slice z y D,.slice J L K,.slice G I H]] w (Q1y true (Q1q []) w):=by
 have a8:Blk 134 ((w.alloc (.cells #[.int .i64 0,.slice z y D,.slice J L K,.slice G I H] 134)).alloc (.cells #[.bool false,.slice none 0 0,.slice none 0 0] 77)) w.heap.size [.int .i64 0,.slice z y D,.slice J L K,.slice G I H]:=(D01 w 134 _).alloc _;have a':Blk 77 ((w.alloc (.cells #[.int .i64 0,.slice z y D,.slice J L K,.slice G I H] 134)).alloc (.cells #[.bool false,.slice none 0 0,.slice none 0 0] 77)) (w.heap.size+1) [.bool false,.slice none 0 0,.slice none 0 0]:=by
  have:=D01 (w.alloc (.cells #[.int .i64 0,.slice z y D,.slice J L K,.slice G I H] 134)) 77 [.bool false,.slice none 0 0,.slice none 0 0];simpa using this
 have V:Below w.heap.size w ((w.alloc (.cells #[.int .i64 0,.slice z y D,.slice J L K,.slice G I H] 134)).alloc (.cells #[.bool false,.slice none 0 0,.slice none 0 0] 77)):=(Qba _ _).alloc (by simp) _;have N:=fun x h=>Q8m z y D p false Z x h (by omega);obtain ⟨T,U⟩:=Qe (Q2d (tagL p false));obtain ⟨E,S⟩:=Qe (Q3z (tagL p false));simp only [<-U,<-S] at N;have Ct:=Qhd N;clear N U S Z;go_enter Tryz.func127,Tryz.ntmps127
 go_wp2_with (first
  |(go_at_call 150;refine (Ct.out _ (hp.below V)).mono ?_;rintro e w2 ⟨tv,rfl,a9,M⟩;have ag:=((a8.kept M).cell 0).trans (show _=some (Value.int .i64 0) from rfl);have aa:=a'.kept M;have a2:=D00 V M;obtain ⟨ga,gc,rfl,_⟩:=a9.form)
  |(go_at_call 49;(with_reducible refine (Q26 _ _ _ _).mono ?_);rintro e w3 ⟨rfl,O⟩;have ab:=aa.kept O;have W:=D00 a2 O)
  |((with_reducible show wpList _ _ _ (⟨none,.store _ _ _,_,_,_,_⟩::_) _ _);refine Qsa 77 2 19 (w.heap.size+1) [.bool false,.slice none 0 0,.slice none 0 0] Q09 ab (by rfl) (by rfl) (by intro u hu;simp at hu;rcases hu with rfl|rfl<;>rfl) (Below.refl _ _) (le_refl _) ?_;intro w5 a5 _ a4;have a3:=W.grown a4 W.size (fun j hj=>by cases hj;omega)))
 exact bodyPost_ret (Q01 rfl _ _ (w.heap.size+1) Q09 a5 rfl rfl rfl) rfl ⟨false,none,0,0,[],none,0,0,[],rfl,fun _=>⟨Q17.txt (Q05.nil b8 1 w5),Qcw _ _,by rw [show Q1z (.mk false (.slice none 0 0) [] (.slice none 0 0) [])=Q1z (txt (.slice none 0 0) []) from rfl,Qd6];simp⟩,a3⟩
def Q4f (n:Nat)(ks:List (List UInt8))(k:Nat):Nat:=min n 1+((ks.take k).map fun t=>min t.length 1).sum
theorem Qay (n:Nat)(ks:List (List UInt8)):Q4f n ks 0=min n 1:=by simp [Q4f]
theorem Qaz (n:Nat)(ks:List (List UInt8))(k:Nat)(t:List UInt8)(h:ks[k]?=some t):Q4f n ks (k+1)=Q4f n ks k+min t.length 1:=by
 have z:=(List.getElem?_eq_some_iff.1 h).1;have y:=(List.getElem?_eq_some_iff.1 h).2;unfold Q4f;rw [List.take_succ_eq_append_getElem z,map_append,List.sum_append,y];simp;omega
theorem Q86 (n:Nat)(ks:List (List UInt8))(k:Nat):Q4f n ks k<=1+k:=by
 unfold Q4f;have:∀ l:List (List UInt8),(l.map fun t=>min t.length 1).sum<=l.length:=by
  intro l;induction l with
  | nil=>simp
  | cons x l ih=>simp only [map_cons,sum_cons,length_cons];omega
 have h:=this (ks.take k);have y:=List.length_take_le k ks;omega
theorem Qmu (v:List UInt8)(ks:List (List UInt8)):Q4f v.length ks ks.length=Q65 v ks:=by unfold Q4f Q65;rw [List.take_length]
theorem Qdi (ps:List (Value × List UInt8))(k:Nat)(p:Value × List UInt8)(h:ps[k]?=some p):txts (ps.take (k+1))=txts (ps.take k)++[txt p.1 p.2]:=by
 have z:=(List.getElem?_eq_some_iff.1 h).1;have y:=(List.getElem?_eq_some_iff.1 h).2;unfold txts;rw [List.take_succ_eq_append_getElem z,map_append,y];rfl
theorem Qf7 (a:Option Addr)(n c:Nat)(t:List UInt8):∀ u∈[txt (.slice a n c) t].flatMap Q0j,u.oneCell'=true:=by
 intro u h;simp [txt,Q0j] at h;rcases h with rfl|rfl|rfl<;>rfl
structure FkW (w:World)(g4:Nat)(box:List Value)(kv:Value)(its:List Itm)(u:World):Prop where
 hs:Blk 134 u w.heap.size box
 hz:Blk 77 u (w.heap.size+1) [.bool false,.slice none 0 0,.slice none 0 0]
 hi:Blk 77 u g4 [.bool true,.slice none 0 0,kv]
 hO:Q08 Q0j 3 77 u (g4+1) kv its
 hb:Below w.heap.size w u
 hg:w.heap.size+1<g4
theorem FkW.kept {w u u':World}{D:Nat}{z:List Value}{G:Value}{E:List Itm}(h:FkW w D z G E u)(y:Below u.heap.size u u'):FkW w D z G E u' :=
 ⟨h.hs.kept y,h.hz.kept y,h.hi.kept y,h.hO.kept y,D00 h.hb y,h.hg⟩
def Qqp (ok:Bool)(B:List UInt8)(w:World)(e:Ending)(w':World):Prop :=
 ∃ (l:Bool) (ta:Option Addr) (tn tc:Nat) (t:List UInt8) (ka:Option Addr) (kn kc:Nat) (ks:List Itm),e=.returned (.tuple #[.agg #[.bool l,.slice ta tn tc,.slice ka kn kc],.bool ok]) /\
  (ok=true->(∀ (g:Nat) (u:World) (cs:List Value),Blk 77 w' g cs->(∀ x∈cs,∀ k,x≠.int .u8 k)->g<w.heap.size->w'.grownBy u (some g)->Q17 u (.mk l (.slice ta tn tc) t (.slice ka kn kc) ks))/\encI (.mk l (.slice ta tn tc) t (.slice ka kn kc) ks)=B/\Q1z (.mk l (.slice ta tn tc) t (.slice ka kn kc) ks)<=100000000)/\Below w.heap.size w w'
theorem FkW.grew {w u u':World}{y:Nat}{I:List Value}{H z:Value}{T L:List Itm}(h:FkW w y I H T u)(D:u.grownBy u' H.ownBlock)(J:Q08 Q0j 3 77 u' (y+1) z L) :
  FkW w y I z L (u'.setCell ⟨y,2,none⟩ z):=by
 have G:∀ b,b<=y->H.ownBlock≠some b:=fun b K e=>by have:=(World.ownsRow.lt h.hO b e).1;omega
 have M:=h.hg;have O:=h.hs.grown D (G _ (by omega));have S:=h.hz.grown D (G _ (by omega));have N:=h.hi.grown D (G _ (le_refl _));have K:=h.hb.grown D h.hb.size (fun k E=>by have:=(World.ownsRow.lt h.hO k E).1;omega);refine ⟨O.other _ (by simp;omega) _,S.other _ (by simp;omega) _,N.set 2 z,J.grown (Q0s 2 z) (fun k E e=>?_),K.setCell (by show w.heap.size<=y;omega) _,M⟩;cases E;have:=(World.ownsRow.lt J _ e).1;omega
theorem Qqt (l:List (Value × List UInt8))(M:Nat)(h:∀ p∈l,p.2.length<=M):(l.map fun p=>1+p.2.length).sum<=l.length*(1+M):=by
 induction l with
 | nil=>simp
 | cons p l ih =>
  have z:=ih (fun q y=>h q (List.mem_cons_of_mem _ y));have D:=h p List.mem_cons_self;simp only [map_cons,sum_cons,length_cons,Nat.add_mul,Nat.one_mul];omega
theorem Qh0 (ps:List (Value × List UInt8))(k:Nat)(h:k<=ps.length):(txts (ps.take k)).length=k:=by simp [txts,h]
def OneB (B:Nat)(v:Value)(t:List UInt8):Ty:=fun u w=>∃ g,u=.slice (some ⟨g,0,none⟩) 1 1/\Q05 Q0j 3 w u [txt v t]
theorem OneB.mono (B:Nat)(v:Value)(t:List UInt8):Mono (OneB B v t):=fun _ _ _ ⟨g,h1,h2⟩ hb=>⟨g,h1,Q05.kept h2 hb⟩
theorem Qq9 (pv:Value)(c4:∃ a n c,pv=.slice a n c)(D T:Option Addr)(z E H U:Nat)(v:List UInt8)(ps:List (Value × List UInt8))(bB:v.length=z)(bv:ps.length=H)(w:World)(hv:Q02 w (.slice D z E) v)(hk:Q12 w (.slice T H U) ps)(hV:z<=1048576)(bk:∀ q∈ps,q.2.length<=1048576) :
  Calls Tryz.prog 152 #[.agg #[.int .i64 3,pv,.slice D z E,.slice T H U]] w (Qqp (decide (H=16)&&decide (z<=1024)&&((ps.map (·.2)).all fun t=>Q2j t.length true)&&decide (2<=Q65 v (ps.map (·.2)))) (lsB (ps.map (·.2)++[v])) w):=by
 obtain ⟨pa,pn,pc,rfl⟩:=c4;obtain ⟨a6,aD⟩:∃ a6:List Value,a6=[.int .i64 3,.slice pa pn pc,.slice D z E,.slice T H U]:=⟨_,rfl⟩;have ah:Blk 134 ((w.alloc (.cells #[.int .i64 3,.slice pa pn pc,.slice D z E,.slice T H U] 134)).alloc (.cells #[.bool false,.slice none 0 0,.slice none 0 0] 77)) w.heap.size a6:=by rw [aD];exact (D01 w 134 [.int .i64 3,.slice pa pn pc,.slice D z E,.slice T H U]).alloc _
 have aj:Blk 77 ((w.alloc (.cells #[.int .i64 3,.slice pa pn pc,.slice D z E,.slice T H U] 134)).alloc (.cells #[.bool false,.slice none 0 0,.slice none 0 0] 77)) (w.heap.size+1) [.bool false,.slice none 0 0,.slice none 0 0]:=by
  have:=D01 (w.alloc (.cells #[.int .i64 3,.slice pa pn pc,.slice D z E,.slice T H U] 134)) 77 [.bool false,.slice none 0 0,.slice none 0 0];simpa using this
 have aq:Below w.heap.size w ((w.alloc (.cells #[.int .i64 3,.slice pa pn pc,.slice D z E,.slice T H U] 134)).alloc (.cells #[.bool false,.slice none 0 0,.slice none 0 0] 77)):=(Qba _ _).alloc (by simp) _;have I:a6[2]?=some (.slice D z E):=by rw [aD];rfl
 have af:a6[3]?=some (.slice T H U):=by rw [aD];rfl
 have bI:=Qhd af;clear af;obtain ⟨ok,b6⟩:=Qe ((decide (H=16)&&decide (z<=1024)&&((ps.map (·.2)).all fun t=>Q2j t.length true)&&decide (2<=Q65 v (ps.map (·.2)))));rw [<-b6];have aN:=Qhd b6;have bi:=Qhd bB;have al:=Qhd bv;have bg:=Qhd bk;have aB:=Qhd I;clear b6 bB bv bk aD I;by_cases h0:H≠16∨1024<z
 ·have b5:ok=false:=by rw [aN.out];rcases h0 with h|h<;>simp [h]<;>omega
  subst b5;have a3:=(ah.cell 2).trans aB.out;have h3:(((H:Int) != 16)=true)∨(((H:Int) != 16)=false/\(1024:Int)<(z:Int)):=by
   rcases Nat.lt_trichotomy H 16 with h|h|h
   ·left;rw [bne_iff_ne];omega
   ·right;exact ⟨by rw [bne_eq_false_iff_eq];omega,by omega⟩
   left;rw [bne_iff_ne];omega
  clear h0;rcases h3 with h3|⟨h3,h4⟩
  all_goals
   go_enter Tryz.func152,Tryz.ntmps152
   go_wp2_with ((with_reducible show wpList _ _ _ (⟨none,.store _ _ _,_,_,_,_⟩::_) _ _);refine Qsa 77 2 18 (w.heap.size+1) [.bool false,.slice none 0 0,.slice none 0 0] Q09 aj (by rfl) (by rfl) (by intro u M;simp at M;rcases M with rfl|rfl<;>rfl) (Below.refl _ _) (le_refl _) ?_;intro w5 aW _ S;have aT:=aq.grown S aq.size (fun j Z=>by cases Z;omega))
   exact bodyPost_ret (Q01 rfl _ _ (w.heap.size+1) Q09 aW rfl rfl rfl) rfl ⟨false,none,0,0,[],none,0,0,[],rfl,fun h=>by simp at h,aT⟩
 have bP:((H:Int) != 16)=false:=by rw [bne_eq_false_iff_eq];omega
 have c':¬ (1024:Int)<(z:Int):=by omega
 have cy:decide ((1024:Int)<(z:Int))=false:=by rw [decide_eq_false_iff_not];exact c'
 have ca:z<=1024:=by omega
 obtain rfl:H=16:=by omega
 clear h0 bP;obtain ⟨w1,aH⟩:=Qe ((w.alloc (.cells #[.int .i64 3,.slice pa pn pc,.slice D z E,.slice T 16 U] 134)).alloc (.cells #[.bool false,.slice none 0 0,.slice none 0 0] 77));have bN:=Qhd aH;rw [<-aH] at ah aj aq;have a3:=(ah.cell 2).trans aB.out;rw [aH] at a3;clear aH;go_enter Tryz.func152,Tryz.ntmps152
 go_wp2_with fail
 rw [<-bN.out];clear a3;have W:Q0l ⟨w.heap.size,2,none⟩ (.slice D z E) w1:=(ah.cell 2).trans aB.out;have k2:∀ u:In (Q0l ⟨w.heap.size,2,none⟩ (.slice D z E)),u.val.cell? ⟨w.heap.size,2,none⟩=some (.slice D z E):=fun u=>u.held;obtain ⟨M0,bl⟩:=Qe (min z 1);have c2:min (z:Int) 1=(M0:Int):=by omega
 have bH:=Qhd bl;clear bl;refine Q1g (fun a b w'=>∃ L:Nat,b=(((((((a.put (some 20) (.pointer (some ⟨w.heap.size,2,none⟩))).put (some 21) (.slice D z E)).put (some 22) (.int .i64 (z:Int))).put (some 23) (.int .i64 (M0:Int))).put (some 19) (.agg #[.bool true,.slice none 0 0,.slice none 0 0])).put (some 4) (.pointer (some ⟨L,0,none⟩))).put (some 5) (.int .i64 (M0:Int)))/\w1.heap.size<=L/\Blk 77 w' L [.bool true,.slice none 0 0,.slice none 0 0]/\Below w1.heap.size w1 w') ?_ ?_
 ·refine Q0w (Q0l ⟨w.heap.size,2,none⟩ (.slice D z E)) (by kernel_rfl) ?_;intro u0 bA;simp only [length_cons,length_nil,Nat.reduceAdd,replicate_succ,replicate_zero];have ad:Below w1.heap.size w1 u0:=by rw [bA];exact (Below.refl _ _).drew
  have bm:=W.below ad;have cz:=aj.lt;clear bA W;refine Qtk 1 (fun K y=>?_);simp only [Qzs] at y;go_simp;(first|refine y _ ?_|refine ⟨_,fun _=>rfl,y _ ?_⟩);clear y K;refine Qtk 2 (fun K y=>?_);simp only [Qzs] at y;go_simp;(first|refine y _ ?_|refine ⟨_,fun _=>rfl,y _ ?_⟩);clear y K;refine Qtk 3 (fun K y=>?_);simp only [Qzs] at y;go_simp;(first|refine y _ ?_|refine ⟨_,fun _=>rfl,y _ ?_⟩);clear y K;refine Qtk 4 (fun K y=>?_);simp only [Qzs] at y;go_simp;(first|refine y _ ?_|refine ⟨_,fun _=>rfl,y _ ?_⟩);clear y K;refine Q4q [0,5] (by kernel_rfl) (by simp) ?_;intro i hi;simp only [List.mem_cons,List.not_mem_nil,or_false] at hi;rcases hi with rfl|rfl
  ·(refine Q31 (i:=0) (by rfl) (fun K y=>?_);simp only [Qzs] at y;go_simp)
   (with_reducible refine (Q4g _ _ _ _).mono ?_)
   rintro e u1 ⟨rfl,b1⟩;have W:=bm.below b1;refine y _ _ W ?_;clear y K;have ae:=D00 ad b1
   (refine Q0f 5 (by rfl) (by kernel_rfl) (fun K y=>?_);simp only [Qzs] at y;go_simp)
   have h5:=D01 u1 77 [.bool false,.slice none 0 0,.slice none 0 0];have b2:Below u1.heap.size u1 (u1.alloc (.cells #[.bool false,.slice none 0 0,.slice none 0 0] 77)):=Qba _ _;have ao:=W.below b2;refine y _ _ ao ?_;clear y K;have I:=D00 ae b2;refine Q0f 6 (by rfl) (by kernel_rfl) (fun K y=>?_);refine Q1j (by rfl) 77 (.tmp 4) (.tmp 19) (by rfl) u1.heap.size [.bool true,.slice none 0 0,.slice none 0 0] (by rfl) (by rfl) Q09 h5 (by rfl) (by rfl) (by intro u M;simp at M;rcases M with rfl|rfl<;>rfl) (fun v1 o5 c5 r5=>?_);have aS:=ao.grown r5 (by have:=ae.size;simp;omega);refine y _ _ aS ?_;clear y K;have af:=I.grown r5 I.size (fun j Z=>by cases Z;exact ae.size);have b7:=ae.size;clear k2;refine Qtk 7 (fun K y=>?_);simp only [Qzs] at y;go_simp;(first|refine y _ ?_|refine ⟨_,fun _=>rfl,y _ ?_⟩);clear y K;exact Q11 (by kernel_rfl) ⟨rfl,u1.heap.size,rfl,b7,o5,af⟩
  (refine Q31 (i:=5) (by rfl) (fun K y=>?_);simp only [Qzs] at y;go_simp)
  have h5:=D01 u0 77 [.bool false,.slice none 0 0,.slice none 0 0];have b1:Below u0.heap.size u0 (u0.alloc (.cells #[.bool false,.slice none 0 0,.slice none 0 0] 77)):=Qba _ _;have W:=bm.below b1;refine y _ _ W ?_;clear y K;have ae:=D00 ad b1
  (refine Q0f 0 (by rfl) (by kernel_rfl) (fun K y=>?_);simp only [Qzs] at y;go_simp)
  (with_reducible refine (Q4g _ _ _ _).mono ?_)
  rintro e u2 ⟨rfl,b2⟩;have ao:=W.below b2;have h6:=h5.kept b2;refine y _ _ ao ?_;clear y K;have I:=D00 ae b2;refine Q0f 6 (by rfl) (by kernel_rfl) (fun K y=>?_);refine Q1j (by rfl) 77 (.tmp 4) (.tmp 19) (by rfl) u0.heap.size [.bool true,.slice none 0 0,.slice none 0 0] (by rfl) (by rfl) Q09 h6 (by rfl) (by rfl) (by intro u M;simp at M;rcases M with rfl|rfl<;>rfl) (fun v1 o5 c5 r5=>?_);have aS:=ao.grown r5 (by have:=ad.size;simp;omega);refine y _ _ aS ?_;clear y K;have af:=I.grown r5 I.size (fun j Z=>by cases Z;exact ad.size);have b7:=ad.size;clear k2;refine Qtk 7 (fun K y=>?_);simp only [Qzs] at y;go_simp;(first|refine y _ ?_|refine ⟨_,fun _=>rfl,y _ ?_⟩);clear y K;exact Q11 (by kernel_rfl) ⟨rfl,u0.heap.size,rfl,b7,o5,af⟩
 rintro b w2 ⟨L,rfl,bY,bt,I⟩;simp only [Act.put,Qzs];have b9:=ah.kept I;have bC:=aj.kept I;have bo:=D00 aq I;have kk:=(b9.cell 3).trans (show _=_ from bI.out);clear k2 c2 W
 go_wp2_with fail
 have bX:w.heap.size+1<L:=by have:=aj.lt;omega
 have a2:(M0:Nat)=Q4f z (ps.map (·.2)) 0:=by rw [Qay];exact bH.out
 have bj:FkW w L a6 (.slice none 0 0) (txts (ps.take 0)) w2:=⟨b9,bC,bt,Q08.nil Q0j 3 _ _ _,bo,bX⟩;have bJ:=Qhd a2;clear a2 b9 bC bt bo ah aj aq kk I bY
 go_loopw [5,27] (fun t5 ix wr=>∃ (k:Nat) (aI:Option Addr) (a3:Nat),k<=16/\ix=.int .i64 (k:Int)/\t5=.int .i64 ((Q4f z (ps.map (·.2)) k:Nat):Int)/\Hid (∀ q∈ps.take k,Q2j q.2.length true=true)/\FkW w L a6 (.slice aI k a3) (txts (ps.take k)) wr) (fun _ ix _=>16 - (intOf ix).toNat)
 case atStart=>exact ⟨0,none,0,by omega,rfl,by rw [<-bJ.out],Qhd (fun q G=>by simp at G),bj⟩
 case round =>
  clear bj;obtain ⟨k,aI,a3,ct,rfl,rfl,ap,N⟩:=hrel;by_cases hlt:k<16
  ·have cu:(k:Int)<16:=by omega
   have bu:k<ps.length:=by rw [al.out];exact hlt
   obtain ⟨b,off,q,rfl,G,hc,aE⟩:=Q12.at (hk.below N.hb) k bu;have bz:=bg.out q (List.mem_of_getElem? G);have aw:=Qdi ps k q G;have aZ:(ps.map (·.2))[k]?=some q.2:=by rw [List.getElem?_map,G];rfl
   have au:=Qaz z (ps.map (·.2)) k q.2 aZ;have ar:=Q86 z (ps.map (·.2)) k;have aY:=List.mem_of_getElem? G;have ai:ps.take (k+1)=ps.take k++[q]:=by rw [List.take_succ_eq_append_getElem bu];rw [(List.getElem?_eq_some_iff.1 G).2]
   obtain ⟨qv,ql⟩:=q;simp only at hc aE bz aw au;obtain ⟨qa,qc,rfl,_,cx⟩:=aE.form;obtain ⟨qn,aG⟩:=Qe (ql.length);rw [<-aG] at hc aE bz au aw;have cs:=fun x=>Qhc qa qn qc true x (by omega);obtain ⟨m0,a2⟩:=Qe (Q4f z (ps.map (·.2)) k);obtain ⟨m1,aF⟩:=Qe (Q4f z (ps.map (·.2)) (k+1));obtain ⟨mq,b3⟩:=Qe (min qn 1);rw [<-a2,<-aF,<-b3] at au;rw [<-a2] at ar;have bw:min (qn:Int) 1=(mq:Int):=by omega
   have bx:(m0:Int)+(mq:Int)=(m1:Int):=by omega
   have cv:mq<=1:=by omega
   rw [<-a2];have bh:=Qhd aG;have bM:=Qhd aw;have bK:=Qhd aF;have bL:=Qhd ai;by_cases hso:Q2j qn true=true
   ·rw [hso] at cs;have Cs:=Qhd cs;have bU:Hid (∀ q∈ps.take (k+1),Q2j q.2.length true=true):=Qhd (fun q G=>by
     rw [bL.out] at G;rcases mem_append.1 G with G|G
     ·exact ap.out q G
     rw [mem_singleton] at G;rw [G,<-bh.out];exact hso)
    have c1:=fun x=>Q26 qa qn qc x;have C1:=Qhd c1;have cc:IntKind.i64.wrap ((m0:Int)+(mq:Int))=(m1:Int):=by rw [bx];exact IntWalk.i64_in _ (by omega)
    have av:=Qh0 ps k (by omega);have a4:=Qhd av;have k3:=fun u:Ext wr=>u.cell ((N.hi.cell 2).trans (show _=some (Value.slice aI k a3) from rfl));have aO:=Qf7 qa qn qc ql;clear cs c1 hso a2 aF b3 au aw aZ ai aY G aG av ap
    go_wp2_with (go_at_call 151;(with_reducible refine (Cs.out _).mono ?_);rintro e w3 ⟨rfl,rfl⟩)
    clear cc bw;refine Q03 wr 5 (by kernel_rfl) (by kernel_rfl) (Below.refl _ _) ?_;simp only [List.take_succ_cons,take_zero,take_nil]
    iterate 3 (refine Q06 (by rfl) (fun K y=>?_);go_simp;refine y _ ?_;clear y K)
    (refine Q06 (by rfl) (fun K y=>?_);go_simp;first|(refine y _ ?_;clear y K)|(apply Exists.intro;refine ⟨fun _=>?_,y _ ?_⟩;exact C1.out _;clear y K))
    refine Q0e 44 (OneB 0 (.slice qa qn qc) ql) rfl (of_decide_eq_true rfl) (OneB.mono _ _ _) (fun w3 cb=>?_) ?_
    ·simp only [Q18,filter_nil,Q00];refine ⟨rfl,?_⟩;go_simp;exact ⟨Qba _ _,w3.heap.size,rfl,D02 Q0k w3 77 [txt (.slice qa qn qc) ql] 1 rfl (by unfold maxLen;omega)⟩
    refine Q0i ?_;intro u2 I cB bR;change wpList _ _ _ [_,_,_] _ _;obtain ⟨cn,rfl,c6⟩:=bR;have O:=N.kept I;have a7:=O.hO;have ba:L+1<=u2.heap.size:=O.hi.lt;clear k3 N
    go_wp2_with (refine Q0t (o:=⟨some 45,_,_,_,_,_⟩) (by rfl) (.tmp 41) (.tmp 44) 75 (by rfl) Q5t aO (by rfl) a7 (by rfl) c6 ba (by rw [a4.out];simp;omega) (by rw [a4.out];unfold maxLen;simp;omega) ?_;intro v5 w5 an S _;obtain ⟨a5,c5,rfl,_⟩:=an.form' (k+1) (by rw [length_append,a4.out];rfl);have V:=O.grew S an;have aV:=(O.hi.grown S (fun e=>by have:=(World.ownsRow.lt a7 L e).1;omega)).has 2 (by simp);have bW:=(O.hi.grown S (fun e=>by have:=(World.ownsRow.lt a7 L e).1;omega)).free 2;obtain ⟨y5,cd⟩:=aV)
    rw [<-bM.out] at V
    go_roundw
    case rel=>exact ⟨k+1,a5,c5,by omega,by go_num,by rw [bK.out],bU,V⟩
    case measure=>simp [intOf];omega
   have b':Q2j qn true=false:=by simpa using hso
   have b5:ok=false:=by
    rw [aN.out];have:((ps.map (·.2)).all fun t=>Q2j t.length true)=false:=by
     rw [List.all_eq_false];exact ⟨ql,mem_map.2 ⟨_,aY,rfl⟩,by rw [<-bh.out,b'];simp⟩
    rw [this];simp
   rw [b'] at cs;have Cs:=Qhd cs;have hz:=N.hz;have bn:=N.hb;subst b5;clear cs hso b' a2 aF b3 au aw aZ ai aY G aG bx bw ar aE
   go_wp2_with (first
    |(go_at_call 151;(with_reducible refine (Cs.out _).mono ?_);rintro e w3 ⟨rfl,rfl⟩)
    |((with_reducible show wpList _ _ _ (⟨none,.store _ _ _,_,_,_,_⟩::_) _ _);refine Qsa 77 2 34 (w.heap.size+1) [.bool false,.slice none 0 0,.slice none 0 0] Q09 hz (by rfl) (by rfl) (by intro u M;simp at M;rcases M with rfl|rfl<;>rfl) (Below.refl _ _) (le_refl _) ?_;intro w5 aW _ S;have aT:=bn.grown S bn.size (fun j Z=>by cases Z;omega)))
   exact bodyPost_ret (Q01 rfl _ _ (w.heap.size+1) Q09 aW rfl rfl rfl) rfl ⟨false,none,0,0,[],none,0,0,[],rfl,fun h=>by simp at h,aT⟩
  obtain rfl:k=16:=by omega
  have ai:ps.take 16=ps:=List.take_of_length_le (by rw [al.out];omega);rw [ai] at N ap;have aX:Q4f z (ps.map (·.2)) 16=Q65 v (ps.map (·.2)):=by
   rw [<-bi.out,<-Qmu,List.length_map,al.out]
  rw [aX];have ar:=Q86 z (ps.map (·.2)) 16;rw [aX] at ar;have b4:ok=decide (2<=Q65 v (ps.map (·.2))):=by
   rw [aN.out];have:((ps.map (·.2)).all fun t=>Q2j t.length true)=true:=by
    rw [List.all_eq_true];intro t ht;obtain ⟨q,G,rfl⟩:=mem_map.1 ht;exact ap.out q G
   rw [this];simp [ca]
  obtain ⟨mm,b0⟩:=Qe (Q65 v (ps.map (·.2)));rw [<-b0] at ar b4;rw [<-b0];have cw:decide ((2:Int)<=(mm:Int))=ok:=by
   rw [b4];by_cases h2:2<=mm
   ·rw [decide_eq_true h2,decide_eq_true (by omega)]
   rw [decide_eq_false h2,decide_eq_false (by omega)]
  have c1:=fun x=>Q26 D z E x;have C1:=Qhd c1;have av:(txts ps).length=16:=by simp [txts,al.out]
  have a4:=Qhd av;have k3:=fun u:Ext wr=>u.cell ((N.hi.cell 2).trans (show _=some (Value.slice aI 16 a3) from rfl));have k4:=fun u:Ext wr=>u.cell ((N.hs.cell 2).trans aB.out);have aO:=Qf7 D z E v;clear c1 b0 aX b4 ai av ap
  go_wp2_with fail
  refine Q03 wr 6 (by kernel_rfl) (by kernel_rfl) (Below.refl _ _) ?_;simp only [List.take_succ_cons,take_zero,take_nil]
  iterate 4 (refine Q06 (by rfl) (fun K y=>?_);go_simp;refine y _ ?_;clear y K)
  (refine Q06 (by rfl) (fun K y=>?_);go_simp;first|(refine y _ ?_;clear y K)|(apply Exists.intro;refine ⟨fun _=>?_,y _ ?_⟩;exact C1.out _;clear y K))
  refine Q0e 53 (OneB 0 (.slice D z E) v) rfl (of_decide_eq_true rfl) (OneB.mono _ _ _) (fun w3 cb=>?_) ?_
  ·simp only [Q18,filter_nil,Q00];refine ⟨rfl,?_⟩;go_simp;exact ⟨Qba _ _,w3.heap.size,rfl,D02 Q0k w3 77 [txt (.slice D z E) v] 1 rfl (by unfold maxLen;omega)⟩
  refine Q0i ?_;intro u2 I cC bS;change wpList _ _ _ [_,_,_] _ _;obtain ⟨co,rfl,c7⟩:=bS;have O:=N.kept I;have a7:=O.hO;have ba:L+1<=u2.heap.size:=O.hi.lt;clear k3 k4 N
  go_wp2_with (first
   |(refine Q0t (o:=⟨some 54,_,_,_,_,_⟩) (by rfl) (.tmp 49) (.tmp 53) 75 (by rfl) Q5t aO (by rfl) a7 (by rfl) c7 ba (by rw [a4.out];simp) (by rw [a4.out];unfold maxLen;simp) ?_;intro v5 w5 an S _;obtain ⟨a5,c5,rfl,_⟩:=an.form' 17 (by rw [length_append,a4.out];rfl);have V:=O.grew S an;have aV:=(O.hi.grown S (fun e=>by have:=(World.ownsRow.lt a7 L e).1;omega)).has 2 (by simp);have bW:=(O.hi.grown S (fun e=>by have:=(World.ownsRow.lt a7 L e).1;omega)).free 2;obtain ⟨y5,cd⟩:=aV)
   |(refine Qla 77 4 L Q09 V.hi (by rfl) ?_)
   |((with_reducible refine Qgs 56 ?_);refine Qsa 77 2 56 (w.heap.size+1) [.bool true,.slice none 0 0,.slice a5 17 c5] Q09 V.hz (by rfl) (by rfl) (by intro u M;simp at M;rcases M with rfl|rfl|rfl<;>rfl) (Below.refl _ _) (le_refl _) ?_;intro w6 bZ _ bq;have aU:=V.hb.grown bq V.hb.size (fun j Z=>by cases Z;omega);have aR:=V.hO.grown bq (fun k hk e=>by cases hk;have:=(World.ownsRow.lt V.hO _ e).1;omega)))
  have e1:txts ps++[txt (.slice D z E) v]=txts (ps++[(.slice D z E,v)]):=by unfold txts;rw [map_append];rfl
  rw [e1] at aR;have bV:∀ p∈ps++[(Value.slice D z E,v)],Q02 w6 p.1 p.2:=fun p J=>by
   rcases mem_append.1 J with J|J
   ·exact (hk.2 p J).below aU
   rw [mem_singleton] at J;rw [J];exact hv.below aU
  have c0:∀ p∈ps++[(Value.slice D z E,v)],p.2.length<=1048576:=fun p J=>by
   rcases mem_append.1 J with J|J
   ·exact bg.out p J
   rw [mem_singleton] at J;rw [J];have:=bi.out;simp;omega
  refine bodyPost_ret (Q01 rfl _ _ (w.heap.size+1) Q09 bZ rfl rfl rfl) rfl ⟨true,none,0,0,[],a5,17,c5,txts (ps++[(.slice D z E,v)]),rfl,fun _=>⟨?_,?_,?_⟩,aU⟩
  ·intro g u cs hcs c3 cr br;exact Q17.lst (aR.grown br (fun k hk e=>by cases hk;have:=(World.ownsRow.lt aR _ e).1;omega)).row (Q76 (fun p J=>Q02.off_v (bV p J) hcs c3 br))
  ·have:=Q29 (.slice a5 17 c5) (ps++[(.slice D z E,v)]);rw [map_append] at this;exact this
  refine le_trans (le_of_eq (Q5m (.slice a5 17 c5) (txts (ps++[(Value.slice D z E,v)])))) ?_;rw [Q38];have:=Qqt _ 1048576 c0;rw [length_append,al.out] at this;simp only [List.length_singleton] at this;omega
theorem Qn9 (G K I:Option Addr)(y H z L D J:Nat)(p v:List UInt8)(ps:List (Value × List UInt8))(a9:p.length=y)(aa:v.length=z)(a8:ps.length=D)(w:World)(hp:Q02 w (.slice G y H) p)(hv:Q02 w (.slice K z L) v)(hk:Q12 w (.slice I D J) ps)(hP:y<=4194304)(hV:z<=1048576)(a1:∀ q∈ps,q.2.length<=1048576) :
  Calls Tryz.prog 127 #[.agg #[.int .i64 3,.slice G y H,.slice K z L,.slice I D J]] w (Q1y (decide (D=16)&&decide (z<=1024)&&((ps.map (·.2)).all fun t=>Q2j t.length true)&&decide (2<=Q65 v (ps.map (·.2)))) (lsB (ps.map (·.2)++[v])) w):=by
 have av:Blk 134 ((w.alloc (.cells #[.int .i64 3,.slice G y H,.slice K z L,.slice I D J] 134)).alloc (.cells #[.bool false,.slice none 0 0,.slice none 0 0] 77)) w.heap.size [.int .i64 3,.slice G y H,.slice K z L,.slice I D J]:=(D01 w 134 _).alloc _;have ay:Blk 77 ((w.alloc (.cells #[.int .i64 3,.slice G y H,.slice K z L,.slice I D J] 134)).alloc (.cells #[.bool false,.slice none 0 0,.slice none 0 0] 77)) (w.heap.size+1) [.bool false,.slice none 0 0,.slice none 0 0]:=by
  have:=D01 (w.alloc (.cells #[.int .i64 3,.slice G y H,.slice K z L,.slice I D J] 134)) 77 [.bool false,.slice none 0 0,.slice none 0 0];simpa using this
 have a4:Below w.heap.size w ((w.alloc (.cells #[.int .i64 3,.slice G y H,.slice K z L,.slice I D J] 134)).alloc (.cells #[.bool false,.slice none 0 0,.slice none 0 0] 77)):=(Qba _ _).alloc (by simp) _;have U:=fun x h=>Q8m G y H p false a9 x h (by omega);obtain ⟨T,hT⟩:=Qe (Q2d (tagL p false));obtain ⟨E,hE⟩:=Qe (Q3z (tagL p false));simp only [<-hT,<-hE] at U;have S:=fun x hb=>Qq9 (.slice G y H) ⟨G,y,H,rfl⟩ K I z L D J v ps aa a8 x (hv.below hb) (hk.below hb) hV a1;obtain ⟨ok,M⟩:=Qe ((decide (D=16)&&decide (z<=1024)&&((ps.map (·.2)).all fun t=>Q2j t.length true)&&decide (2<=Q65 v (ps.map (·.2)))));obtain ⟨B,V⟩:=Qe (lsB (ps.map (·.2)++[v]));simp only [<-M,<-V] at S;rw [<-M,<-V];have Ct:=Qhd U;have Cf:=Qhd S;clear U S hT hE a9 aa a8 M V a1;go_enter Tryz.func127,Tryz.ntmps127
 go_wp2_with (first
  |(go_at_call 150;refine (Ct.out _ (hp.below a4)).mono ?_;rintro e w2 ⟨tv,rfl,aw,O⟩;have a':=av.kept O;have aE:=(a'.cell 0).trans (show _=some (Value.int .i64 3) from rfl);have ab:=ay.kept O;have a5:=D00 a4 O;obtain ⟨ga,gc,rfl,_⟩:=aw.form)
  |(refine Qla 134 1 w.heap.size Q0a a' (by rfl) ?_)
  |(go_at_call 152;refine (Cf.out _ a5).mono ?_;rintro e w3 ⟨il,ta,tn,tc,t,ae,ag,af,ks,rfl,W,Z⟩;have ac:=ab.kept Z;have a6:=D00 a5 Z)
  |((with_reducible show wpList _ _ _ (⟨none,.store _ _ _,_,_,_,_⟩::_) _ _);refine Qsa 77 2 81 (w.heap.size+1) [.bool il,.slice ta tn tc,.slice ae ag af] Q09 ac (by rfl) (by rfl) (by intro u N;simp at N;rcases N with rfl|rfl|rfl<;>rfl) (Below.refl _ _) (le_refl _) ?_;intro w5 ap _ a7;have an:=a6.grown a7 a6.size (fun j hj=>by cases hj;omega)))
 have ao:w.heap.size+1<w2.heap.size:=ab.lt;refine bodyPost_ret (Q01 rfl _ _ (w.heap.size+1) Q09 ap rfl rfl rfl) rfl ⟨il,ta,tn,tc,t,ae,ag,af,ks,rfl,fun M=>⟨?_,(W M).2.1,(W M).2.2⟩,an⟩;exact (W M).1 (w.heap.size+1) w5 [.bool false,.slice none 0 0,.slice none 0 0] ac (by intro u N k;simp at N;rcases N with rfl|rfl|rfl<;>simp) ao a7
theorem Qna (kd:Int)(O:kd≠0)(S:kd≠1)(U:kd≠2)(V:kd≠3)(z J G:Option Addr)(y D L K I H:Nat)(p:List UInt8)(a2:p.length=y)(w:World)(hp:Q02 w (.slice z y D) p)(hP:y<=4194304) :
  Calls Tryz.prog 127 #[.agg #[.int .i64 kd,.slice z y D,.slice J L K,.slice G I H]] w (Q1y false [] w):=by
 have a':Blk 134 ((w.alloc (.cells #[.int .i64 kd,.slice z y D,.slice J L K,.slice G I H] 134)).alloc (.cells #[.bool false,.slice none 0 0,.slice none 0 0] 77)) w.heap.size [.int .i64 kd,.slice z y D,.slice J L K,.slice G I H]:=(D01 w 134 _).alloc _;have ab:Blk 77 ((w.alloc (.cells #[.int .i64 kd,.slice z y D,.slice J L K,.slice G I H] 134)).alloc (.cells #[.bool false,.slice none 0 0,.slice none 0 0] 77)) (w.heap.size+1) [.bool false,.slice none 0 0,.slice none 0 0]:=by
  have:=D01 (w.alloc (.cells #[.int .i64 kd,.slice z y D,.slice J L K,.slice G I H] 134)) 77 [.bool false,.slice none 0 0,.slice none 0 0];simpa using this
 have a0:Below w.heap.size w ((w.alloc (.cells #[.int .i64 kd,.slice z y D,.slice J L K,.slice G I H] 134)).alloc (.cells #[.bool false,.slice none 0 0,.slice none 0 0] 77)):=(Qba _ _).alloc (by simp) _;have N:=fun x h=>Q8m z y D p false a2 x h (by omega);obtain ⟨T,Z⟩:=Qe (Q2d (tagL p false));obtain ⟨E,W⟩:=Qe (Q3z (tagL p false));simp only [<-Z,<-W] at N;have Ct:=Qhd N;have e0:(kd==0)=false:=by rw [beq_eq_false_iff_ne];exact O
 have e1:(kd==1)=false:=by rw [beq_eq_false_iff_ne];exact S
 have e2:(kd==2)=false:=by rw [beq_eq_false_iff_ne];exact U
 have e3:(kd==3)=false:=by rw [beq_eq_false_iff_ne];exact V
 clear N Z W a2 O S U V;go_enter Tryz.func127,Tryz.ntmps127
 go_wp2_with (first
  |(go_at_call 150;refine (Ct.out _ (hp.below a0)).mono ?_;rintro e w2 ⟨tv,rfl,aa,M⟩;have ak:=((a'.kept M).cell 0).trans (show _=some (Value.int .i64 kd) from rfl);have ac:=ab.kept M;have a1:=D00 a0 M;obtain ⟨ga,gc,rfl,_⟩:=aa.form)
  |((with_reducible show wpList _ _ _ (⟨none,.store _ _ _,_,_,_,_⟩::_) _ _);refine Qsa 77 2 83 (w.heap.size+1) [.bool false,.slice none 0 0,.slice none 0 0] Q09 ac (by rfl) (by rfl) (by intro u hu;simp at hu;rcases hu with rfl|rfl<;>rfl) (Below.refl _ _) (le_refl _) ?_;intro w5 a7 _ a6;have a5:=a1.grown a6 a1.size (fun j hj=>by cases hj;omega)))
 exact bodyPost_ret (Q01 rfl _ _ (w.heap.size+1) Q09 a7 rfl rfl rfl) rfl ⟨false,none,0,0,[],none,0,0,[],rfl,fun h=>by simp at h,a5⟩
theorem Qcl (kd:Int)(H J E:Option Addr)(z I D K y G:Nat)(p v:List UInt8)(ps:List (Value × List UInt8))(L:p.length=z)(S:v.length=D)(O:ps.length=y)(w:World)(N:Q02 w (.slice H z I) p)(W:Q02 w (.slice J D K) v)(V:Q12 w (.slice E y G) ps)(M:z<=4194304)(U:D<=1048576)(Z:y<=1048576)(T:∀ q∈ps,q.2.length<=1048576) :
  Calls Tryz.prog 127 #[.agg #[.int .i64 kd,.slice H z I,.slice J D K,.slice E y G]] w (Q1y (shOk kd p v (ps.map (·.2))) (shB kd p v (ps.map (·.2))) w):=by
 unfold shOk shB;rw [List.length_map,L,S,O];by_cases h0:kd=0
 ·subst h0;rw [if_pos rfl,if_pos rfl];exact Qn6 H J E z I D K y G p L w N M
 rw [if_neg h0,if_neg h0];by_cases h1:kd=1
 ·subst h1;rw [if_pos rfl,if_pos rfl];exact Qn8 H J E z I D K y G p v L S w N W M U
 rw [if_neg h1,if_neg h1];by_cases h2:kd=2
 ·subst h2;rw [if_pos rfl,if_pos rfl];exact Qn5 H J E z I D K y G p ps L O w N V M Z T
 rw [if_neg h2,if_neg h2];by_cases h3:kd=3
 ·subst h3;rw [if_pos rfl];exact Qn9 H J E z I D K y G p v ps L S O w N W V M U T
 rw [if_neg h3];refine (Qna kd h0 h1 h2 h3 H J E z I D K y G p L w N M).mono ?_;rintro e w' ⟨l,ta,tn,tc,t,a1,a3,a2,ks,rfl,_,hb⟩;exact ⟨l,ta,tn,tc,t,a1,a3,a2,ks,rfl,fun h=>by simp at h,hb⟩
def Q8e (ok:Bool)(B:List UInt8)(w:World)(e:Ending)(w':World):Prop :=
 ∃ v,e=.returned (.tuple #[v,.int .i64 (if ok=true then 0 else 1)])/\Q02 w' v (if ok=true then B else [])/\Below w.heap.size w w'
end Go.Proofs.YtbdmkfjgnjfjbaaGreat
