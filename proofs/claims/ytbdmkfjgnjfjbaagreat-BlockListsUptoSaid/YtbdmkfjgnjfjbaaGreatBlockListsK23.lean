/- The reference's pread. | The reference's pread, put together; what lies there while the reference reads a list. | The reference's PSplit. -/
import Derived.Test.YtbdmkfjgnjfjbaaGreatBlockListsK21
import Derived.Test.YtbdmkfjgnjfjbaaGreatBlockListsK13
import Derived.Test.YtbdmkfjgnjfjbaaGreatBlockListsK01
import Derived.Test.YtbdmkfjgnjfjbaaGreatBlockListsK14
set_option linter.unusedSimpArgs false
set_option linter.unusedVariables false
set_option maxHeartbeats 4000000
set_option maxRecDepth 100000
open List (drop_drop drop_succ_cons getElem?_cons_succ getElem?_cons_zero length_drop length_take)
open Nat (add_zero le_refl not_le)
namespace Go.Proofs.YtbdmkfjgnjfjbaaGreat
open Go.RowKit
theorem Blk.range0 {e:TypeId}{w:World}{g:Nat}{cs:List Value}(h:Blk e w g cs):w.rangeAt g 0 cs:=fun j v hv=>by rw [Nat.zero_add,h.cell,hv]
def prdB:List UInt8->Option (Nat × Nat × Bool)
 | []=>none
 | c::r =>
  if c.toNat<128 then some (0,1,false)
  else match hdr c.toNat (if c.toNat<192 then 128 else 192) r with
   | none=>none
   | some (k,r')=>if r'.length<k∨(c.toNat<192/\own1 k r'=true) then none else some (1+(r.length - r'.length),1+(r.length - r'.length)+k,decide (192<=c.toNat))
def Q73 (o:Option (Nat × Nat × Bool))(w:World)(e:Ending)(w':World):Prop :=
 Below w.heap.size w w'/\match o with
 | none=>e=.returned (.tuple #[.int .i64 0,.int .i64 0,.bool false,.bool false])
 | some (f,t,l)=>e=.returned (.tuple #[.int .i64 (f:Int),.int .i64 (t:Int),.bool l,.bool true])
theorem ret4 {P:Program}{h:Func}{R:Ending->World->Prop}{a:Act}{w:World}{v:Value}(D:(results h a.tmps).run P w=.ok v w)(z:a.defers=[])(y:R (.returned v) w):bodyPost P h R .ret a w:=bodyPost_ret D z y

theorem Qe0 (a:Option Addr)(L c:Nat)(b:List UInt8)(y:b.length=L)(z:∀ x r,b=x::r->x.toNat<128)(w:World)(h:Q02 w (.slice a L c) b):Calls Tryz.prog 116 #[.slice a L c] w (Q73 (prdB b) w):=by
 cases b with
 | nil =>
  obtain rfl:L=0:=y.symm;unfold prdB;go_enter Tryz.func116,Tryz.ntmps116
  go_wp2
  refine ret4 (v:=.tuple #[.int .i64 0,.int .i64 0,.bool false,.bool false]) (by simp [results,Tryz.results116,go_sem]) rfl ⟨Below.refl _ _,rfl⟩
 | cons x r =>
  have G:=z x r rfl;have D:prdB (x::r)=some (0,1,false):=by simp [prdB,G]
  rw [D];obtain ⟨q,off,rfl,E⟩:=h.at 0 (by simp);simp only [List.getElem_cons_zero,add_zero] at E;have J:(0:Int)<(L:Int):=by simp at y;omega
  have I:((L:Int)==0)=false:=by rw [beq_eq_false_iff_ne];omega
  have K:IntKind.i64.wrap (x.toNat:Int)=(x.toNat:Int):=IntWalk.i64_in _ (by omega);have H:(x.toNat:Int)<128:=by omega
  have M:decide ((x.toNat:Int)<128)=true:=by rw [decide_eq_true_eq];exact H
  clear y D h z;go_enter Tryz.func116,Tryz.ntmps116
  go_wp2
  refine ret4 (v:=.tuple #[.int .i64 0,.int .i64 1,.bool false,.bool true]) (by simp [results,Tryz.results116,go_sem]) rfl ⟨Below.refl _ _,rfl⟩
theorem Qfq (a:Option Addr)(L c:Nat)(x:UInt8)(r:List UInt8)(N:(x::r).length=L)(ag:L<=16777216)(af:128<=x.toNat)(G n:Nat)(lst:Bool)(E:G=if x.toNat<192 then 128 else 192)(O:lst=decide (192<=x.toNat))(S:n=x.toNat - G)(al:n<48)(w:World)(h:Q02 w (.slice a L c) (x::r)):Calls Tryz.prog 116 #[.slice a L c] w (Q73 (prdB (x::r)) w):=by
 have ax:=x.toNat_lt;have a8:n<64/\(x.toNat - 128) % 64=n:=by
  rw [S,E];split<;>omega
 obtain ⟨q,off,rfl,hc⟩:=h.at 0 (by simp);simp only [List.getElem_cons_zero,add_zero] at hc;have ao:(0:Int)<(L:Int):=by simp at N;omega
 have ap:0<L:=by omega
 have an:((L:Int)==0)=false:=by rw [beq_eq_false_iff_ne];omega
 have hw:IntKind.i64.wrap (x.toNat:Int)=(x.toNat:Int):=IntWalk.i64_in _ (by omega);have aa:¬ (x.toNat:Int)<128:=by omega
 have aw:decide ((x.toNat:Int)<128)=false:=by rw [decide_eq_false_iff_not];exact aa
 have ak:decide ((192:Int)<=(x.toNat:Int))=lst:=by rw [O];by_cases h192:192<=x.toNat<;>simp [h192]<;>omega
 obtain ⟨m,hm⟩:=Qe (x.toNat - 128);have ar:IntKind.i64.wrap ((x.toNat:Int) - 128)=(m:Int):=by rw [show (x.toNat:Int) - 128=(m:Int) from by omega];exact IntWalk.i64_in _ (by omega)
 have au:(x.toNat:Int) - 128=(m:Int):=by omega
 have a9:(m:Int) % 64=(n:Int):=by omega
 have aq:Int.tmod (m:Int) 64=(n:Int):=by rw [Int.tmod_eq_emod_of_nonneg (by omega)];exact a9
 have W:prdB (x::r)=match hdr x.toNat G r with
   | none=>none
   | some (k,I)=>if I.length<k∨(lst=false/\own1 k I=true) then none else some (1+(r.length - I.length),1+(r.length - I.length)+k,lst):=by
  rw [prdB,if_neg (by omega),<-E,O];cases hdr x.toNat G r with
  | none=>rfl
  | some kr =>
   obtain ⟨k,I⟩:=kr;simp only [decide_eq_false_iff_not,not_le]
 rw [W];have a':r.length=L - 1:=by rw [<-N];simp
 have a5:G<=x.toNat:=by rw [E];split<;>omega
 have z:hdr x.toNat G r=some (n,r):=by unfold hdr;rw [if_pos (by omega),S]
 rw [z];dsimp only;obtain ⟨M,hM⟩:=Qe (L - 1);have D:r.length=M:=by omega
 obtain ⟨to,Z⟩:=Qe (1+n);rw [D,Nat.sub_self,add_zero,<-Z];have w1:IntKind.i64.wrap ((L:Int) - 1)=(M:Int):=by rw [show (L:Int) - 1=(M:Int) from by omega];exact IntWalk.i64_in _ (by omega)
 have w2:IntKind.i64.wrap (1+(n:Int))=(to:Int):=by rw [show 1+(n:Int)=(to:Int) from by omega];exact IntWalk.i64_in _ (by omega)
 have aA:(L:Int) - 1=(M:Int):=by omega
 have aC:1+(n:Int)=(to:Int):=by omega
 have ad:decide ((48:Int)<=(n:Int))=false:=by rw [decide_eq_false_iff_not];omega
 have ae:¬ (48:Int)<=(n:Int):=by omega
 have H:∀ (y:UInt8) (t:List UInt8),r=y::t->(1:Int)<(L:Int)/\1<L/\w.cell? ⟨q,off+1,none⟩=some (.int .u8 (y.toNat:Int)):=by
  intro y t e;subst e;obtain ⟨b',ay,V,e2⟩:=h.at 1 (by simp);simp only [Option.some.injEq,Addr.mk.injEq,and_true] at V;obtain ⟨rfl,rfl⟩:=V;simp at D;exact ⟨by omega,by omega,by simpa using e2⟩
 have am:(n:Int)<64:=by omega
 clear W z O S a8 hm hM Z N a' a5;by_cases hbig:M<n
 ·rw [if_pos (.inl hbig)];have g1:decide ((M:Int)<(n:Int))=true:=by rw [decide_eq_true_eq];omega
  have g2:decide (M<n)=true:=by rw [decide_eq_true_eq];omega
  have J:=Qhd D;clear D H h E;go_enter Tryz.func116,Tryz.ntmps116
  go_wp2
  refine ret4 (v:=.tuple #[.int .i64 0,.int .i64 0,.bool false,.bool false]) (by simp [results,Tryz.results116,go_sem]) rfl ⟨Below.refl _ _,rfl⟩
 have g1:decide ((M:Int)<(n:Int))=false:=by rw [decide_eq_false_iff_not];omega
 have g2:decide (M<n)=false:=by rw [decide_eq_false_iff_not];omega
 cases lst with
 | true =>
  rw [if_neg (by rintro (z|⟨z,_⟩);exact hbig z;cases z)];have J:=Qhd D;clear D H h E;go_enter Tryz.func116,Tryz.ntmps116
  go_wp2
  refine ret4 (v:=.tuple #[.int .i64 1,.int .i64 ((to:Nat):Int),.bool true,.bool true]) (by simp [results,Tryz.results116,go_sem]) rfl ⟨Below.refl _ _,rfl⟩
 | false =>
  by_cases h1:n=1
  ·have g3:((n:Int)==1)=true:=by rw [h1];rfl
   obtain ⟨y,t,K⟩:∃ y t,r=y::t:=by
    cases hr':r with
    | nil=>rw [hr'] at D;simp at D;omega
    | cons y t=>exact ⟨y,t,rfl⟩
   have T:own1 n r=decide (y.toNat<128):=by unfold own1;rw [K,h1];simp
   rw [T];obtain ⟨ai,aj,ah⟩:(1:Int)<(L:Int)/\1<L/\w.cell? ⟨q,off+1,none⟩=some (.int .u8 (y.toNat:Int)):=H y t K;by_cases hy:y.toNat<128
   ·rw [if_pos (.inr ⟨rfl,decide_eq_true hy⟩)];have U:(y.toNat:Int)<128:=by omega
    have ab:decide ((y.toNat:Int)<128)=true:=by rw [decide_eq_true_eq];exact U
    clear T K h1;have J:=Qhd D;clear D H h E;go_enter Tryz.func116,Tryz.ntmps116
    go_wp2
    refine ret4 (v:=.tuple #[.int .i64 0,.int .i64 0,.bool false,.bool false]) (by simp [results,Tryz.results116,go_sem]) rfl ⟨Below.refl _ _,rfl⟩
   rw [if_neg (by rintro (z|⟨_,z⟩);exact hbig z;exact hy (of_decide_eq_true z))];have U:¬ (y.toNat:Int)<128:=by omega
   have ab:decide ((y.toNat:Int)<128)=false:=by rw [decide_eq_false_iff_not];exact U
   clear T K h1;have J:=Qhd D;clear D H h E;go_enter Tryz.func116,Tryz.ntmps116
   go_wp2
   refine ret4 (v:=.tuple #[.int .i64 1,.int .i64 ((to:Nat):Int),.bool false,.bool true]) (by simp [results,Tryz.results116,go_sem]) rfl ⟨Below.refl _ _,rfl⟩
  have g3:((n:Int)==1)=false:=by rw [beq_eq_false_iff_ne];omega
  rw [if_neg (by rintro (z|⟨_,z⟩);exact hbig z;unfold own1 at z;simp at z;exact h1 z.1)];have J:=Qhd D;clear D H h E;go_enter Tryz.func116,Tryz.ntmps116
  go_wp2
  refine ret4 (v:=.tuple #[.int .i64 1,.int .i64 ((to:Nat):Int),.bool false,.bool true]) (by simp [results,Tryz.results116,go_sem]) rfl ⟨Below.refl _ _,rfl⟩
theorem Qlx (a:Option Addr)(L c:Nat)(x:UInt8)(r:List UInt8)(hL:(x::r).length=L)(bj:L<=16777216)(bi:128<=x.toNat)(a0 n:Nat)(lst:Bool)(W:a0=if x.toNat<192 then 128 else 192)(ac:lst=decide (192<=x.toNat))(hn:n=x.toNat - a0)(bo:48<=n)(w:World)(h:Q02 w (.slice a L c) (x::r)):Calls Tryz.prog 116 #[.slice a L c] w (Q73 (prdB (x::r)) w):=by
 have bB:=x.toNat_lt;have an:n<64/\(x.toNat - 128) % 64=n:=by
  rw [hn,W];split<;>omega
 obtain ⟨q,off,rfl,hc⟩:=h.at 0 (by simp);simp only [List.getElem_cons_zero,add_zero] at hc;have br:(0:Int)<(L:Int):=by simp at hL;omega
 have bs:0<L:=by omega
 have bq:((L:Int)==0)=false:=by rw [beq_eq_false_iff_ne];omega
 have hw:IntKind.i64.wrap (x.toNat:Int)=(x.toNat:Int):=IntWalk.i64_in _ (by omega);have bd:¬ (x.toNat:Int)<128:=by omega
 have bA:decide ((x.toNat:Int)<128)=false:=by rw [decide_eq_false_iff_not];exact bd
 have bn:decide ((192:Int)<=(x.toNat:Int))=lst:=by rw [ac];by_cases h192:192<=x.toNat<;>simp [h192]<;>omega
 obtain ⟨m,hm⟩:=Qe (x.toNat - 128);have bu:IntKind.i64.wrap ((x.toNat:Int) - 128)=(m:Int):=by rw [show (x.toNat:Int) - 128=(m:Int) from by omega];exact IntWalk.i64_in _ (by omega)
 have bv:(x.toNat:Int) - 128=(m:Int):=by omega
 have bc:(m:Int) % 64=(n:Int):=by omega
 have bt:Int.tmod (m:Int) 64=(n:Int):=by rw [Int.tmod_eq_emod_of_nonneg (by omega)];exact bc
 have hp:prdB (x::r)=match hdr x.toNat a0 r with
   | none=>none
   | some (k,r')=>if r'.length<k∨(lst=false/\own1 k r'=true) then none else some (1+(r.length - r'.length),1+(r.length - r'.length)+k,lst):=by
  rw [prdB,if_neg (by omega),<-W,ac];cases hdr x.toNat a0 r with
  | none=>rfl
  | some kr =>
   obtain ⟨k,r'⟩:=kr;simp only [decide_eq_false_iff_not,not_le]
 rw [hp];have ao:r.length=L - 1:=by rw [<-hL];simp
 have ak:a0<=x.toNat:=by rw [W];split<;>omega
 obtain ⟨k,hk⟩:=Qe (n - 47);have ae:x.toNat - a0 - 48+1=k:=by omega
 have bg:decide ((48:Int)<=(n:Int))=true:=by rw [decide_eq_true_eq];omega
 have bh:(48:Int)<=(n:Int):=by omega
 have bm:k<=16/\1<=k:=by omega
 have wk:IntKind.i64.wrap ((n:Int) - 47)=(k:Int):=by rw [show (n:Int) - 47=(k:Int) from by omega];exact IntWalk.i64_in _ (by omega)
 have bK:(n:Int) - 47=(k:Int):=by omega
 have H:hdr x.toNat a0 r=if r.length<k then none else if (r.take k).head?=some 0∨8<k then none else if numL (r.take k)<48 then none else some (numL (r.take k),r.drop k):=by
  unfold hdr;rw [if_neg (by omega),ae]
 have bp:(n:Int)<64:=by omega
 by_cases h8:8<k
 ·have E:hdr x.toNat a0 r=none:=by rw [H];split;rfl;rw [if_pos (.inr h8)]
  rw [E];have d8:decide ((8:Int)<(k:Int))=true:=by rw [decide_eq_true_eq];omega
  have aV:(8:Int)<(k:Int):=by omega
  clear hp E H ac hn an hm hL ao ak ae hk W;go_enter Tryz.func116,Tryz.ntmps116
  go_wp2
  refine ret4 (v:=.tuple #[.int .i64 0,.int .i64 0,.bool false,.bool false]) (by simp [results,Tryz.results116,go_sem]) rfl ⟨Below.refl _ _,rfl⟩
 have d8:decide ((8:Int)<(k:Int))=false:=by rw [decide_eq_false_iff_not];omega
 have aV:¬ (8:Int)<(k:Int):=by omega
 obtain ⟨f,hf⟩:=Qe (1+k);have wf:IntKind.i64.wrap (1+(k:Int))=(f:Int):=by rw [show 1+(k:Int)=(f:Int) from by omega];exact IntWalk.i64_in _ (by omega)
 have bI:1+(k:Int)=(f:Int):=by omega
 by_cases hsh:L<f
 ·have E:hdr x.toNat a0 r=none:=by rw [H,if_pos (by omega)]
  rw [E];have ds:decide ((L:Int)<(f:Int))=true:=by rw [decide_eq_true_eq];omega
  have aZ:decide (L<f)=true:=by rw [decide_eq_true_eq];omega
  clear hp E H ac hn an hm hL ao ak ae hk W hf;go_enter Tryz.func116,Tryz.ntmps116
  go_wp2
  refine ret4 (v:=.tuple #[.int .i64 0,.int .i64 0,.bool false,.bool false]) (by simp [results,Tryz.results116,go_sem]) rfl ⟨Below.refl _ _,rfl⟩
 have ds:decide ((L:Int)<(f:Int))=false:=by rw [decide_eq_false_iff_not];omega
 have aZ:decide (L<f)=false:=by rw [decide_eq_false_iff_not];omega
 have hl:((x::r).take f).drop 1=r.take k:=by rw [hf,Nat.add_comm,List.take_succ_cons,drop_succ_cons,List.drop_zero]
 have h':=h;rw [<-hL] at h';obtain ⟨a1,c1,q1,r1⟩:=h'.between elU8 1 f (by omega) (by omega) 1 (f:Int) rfl rfl;rw [hL] at q1;rw [hl,show f - 1=k from by omega] at r1;rw [show f - 1=k from by omega] at q1;have a3:(r.take k).length=k:=by rw [length_take];omega
 have pt:=fun (u:World) (hb:Q02 u (.slice a1 (r.take k).length c1) (r.take k))=>Qjh a1 c1 (r.take k) u hb;rw [a3] at pt;have bx:IntKind.u64.wrap (L:Int)=(L:Int):=IntWalk.u64_in _ (by omega);obtain ⟨l,aR⟩:=Qe (r.take k);rw [<-aR] at pt a3 r1 H;have ab:Hid (Q02 w (.slice a1 k c1) l):=Qhd r1;have aq:=Qhd a3;have aP:¬ r.length<k:=by omega
 rw [if_neg aP] at H;clear r1 hl h' aR;by_cases hz:l.head?=some 0
 ·have E:hdr x.toNat a0 r=none:=by rw [H,if_pos (.inl hz)]
  rw [E];have aI:Q3y l=false:=by unfold Q3y;rw [hz];simp
  rw [(Qe9 aI).1,(Qe9 aI).2] at pt;obtain ⟨V,hV⟩:=Qe 0;have O:=Qhd (show lim V 0=V from by rw [hV];rfl);rw [<-hV] at pt;have Pt:=Qhd pt;clear hp E H ac hn an hm hL ao ak ae hk W hf pt a3 hz aI hV;go_enter Tryz.func116,Tryz.ntmps116
  go_wp2_with (first
   |(go_at_call 73;(with_reducible refine (Pt.out _ (ab.out)).mono ?_);rintro e D ⟨rfl,I⟩)
   |((with_reducible refine Qgs 44 ?_);refine Qsa 24 9 44 D.heap.size (wcs V) Q0u (D01 D 24 z4) (Q14 _) (by rfl) (Q1n _) (Below.alloc (Below.refl D.heap.size D) (le_refl _) _) (le_refl _) ?_;intro w3 G K _;have N:=G.wat 0 (by omega);rw [O.out] at N;have J:=D00 I K;have Z:=G.range0))
  refine ret4 (v:=.tuple #[.int .i64 0,.int .i64 0,.bool false,.bool false]) (by simp [results,Tryz.results116,go_sem]) rfl ⟨J,rfl⟩
 have aB:Q3y l=true:=by unfold Q3y;simp [a3,hz];omega
 have ba:=Qhw l (by rw [a3];omega);have aH:Q21 l=l:=Q46 l (by rw [a3];omega);rw [(Q98 aB).1,(Q98 aB).2,aH] at pt;have aK:numB (numL l)=l:=by have:=Qc6 l;rw [aB,aH] at this;simpa using this
 rw [if_neg (by rintro (E|E);exact hz E;exact h8 E)] at H;obtain ⟨V,hV⟩:=Qe (numL l);rw [<-hV] at pt ba aK H;have pn:∀ u:World,Calls Tryz.prog 53 #[.agg (wcs V).toArray] u _:=fun u=>Qby V u;rw [aK] at pn;have O:=Qhd (show lim V 0=V from by unfold lim;simp;omega);have Pt:=Qhd pt;have Pn:=Qhd pn;clear pt pn aK aB aH hV hz;by_cases hv48:V<48
 ·have E:hdr x.toNat a0 r=none:=by rw [H,if_pos hv48]
  rw [E];have dv:decide ((V:Int)<48)=true:=by rw [decide_eq_true_eq];omega
  have b1:(V:Int)<48:=by omega
  clear hp E H ac hn an hm hL ao ak ae hk W hf a3;go_enter Tryz.func116,Tryz.ntmps116
  go_wp2_with (first
   |(go_at_call 73;(with_reducible refine (Pt.out _ (ab.out)).mono ?_);rintro e D ⟨rfl,I⟩)
   |((with_reducible refine Qgs 44 ?_);refine Qsa 24 9 44 D.heap.size (wcs V) Q0u (D01 D 24 z4) (Q14 _) (by rfl) (Q1n _) (Below.alloc (Below.refl D.heap.size D) (le_refl _) _) (le_refl _) ?_;intro w3 G K _;have N:=G.wat 0 (by omega);rw [O.out] at N;have J:=D00 I K;have Z:=G.range0))
  refine ret4 (v:=.tuple #[.int .i64 0,.int .i64 0,.bool false,.bool false]) (by simp [results,Tryz.results116,go_sem]) rfl ⟨J,rfl⟩
 rw [if_neg hv48] at H;rw [H];dsimp only;have dv:decide ((V:Int)<48)=false:=by rw [decide_eq_false_iff_not];omega
 have b1:¬ (V:Int)<48:=by omega
 by_cases hLV:L<V
 ·rw [if_pos (.inl (by rw [length_drop];omega))];have dl:decide ((L:Int)<(V:Int))=true:=by rw [decide_eq_true_eq];omega
  have aX:decide (L<V)=true:=by rw [decide_eq_true_eq];omega
  clear hp H ac hn an hm hL ao ak ae hk W hf a3;go_enter Tryz.func116,Tryz.ntmps116
  go_wp2_with (first
   |(go_at_call 73;(with_reducible refine (Pt.out _ (ab.out)).mono ?_);rintro e D ⟨rfl,I⟩)
   |((with_reducible refine Qgs 44 ?_);refine Qsa 24 9 44 D.heap.size (wcs V) Q0u (D01 D 24 z4) (Q14 _) (by rfl) (Q1n _) (Below.alloc (Below.refl D.heap.size D) (le_refl _) _) (le_refl _) ?_;intro w3 G K _;have N:=G.wat 0 (by omega);rw [O.out] at N;have J:=D00 I K;have Z:=G.range0))
  refine ret4 (v:=.tuple #[.int .i64 0,.int .i64 0,.bool false,.bool false]) (by simp [results,Tryz.results116,go_sem]) rfl ⟨J,rfl⟩
 have dl:decide ((L:Int)<(V:Int))=false:=by rw [decide_eq_false_iff_not];omega
 have aX:decide (L<V)=false:=by rw [decide_eq_false_iff_not];omega
 have bz:IntKind.i64.wrap (V:Int)=(V:Int):=IntWalk.i64_in _ (by omega);obtain ⟨M,hM⟩:=Qe (L - f);have U:(r.drop k).length=M:=by rw [length_drop];omega
 obtain ⟨to,aS⟩:=Qe (f+V);have e1:1+(r.length - (r.drop k).length)=f:=by rw [length_drop];omega
 rw [e1,U,<-aS];have w1:IntKind.i64.wrap ((L:Int) - (f:Int))=(M:Int):=by rw [show (L:Int) - (f:Int)=(M:Int) from by omega];exact IntWalk.i64_in _ (by omega)
 have D:IntKind.i64.wrap ((f:Int)+(V:Int))=(to:Int):=by rw [show (f:Int)+(V:Int)=(to:Int) from by omega];exact IntWalk.i64_in _ (by omega)
 have bF:(L:Int) - (f:Int)=(M:Int):=by omega
 have bG:(f:Int)+(V:Int)=(to:Int):=by omega
 have ah:∀ (y:UInt8) (t:List UInt8),r.drop k=y::t->(f:Int)<(L:Int)/\f<L/\w.cell? ⟨q,off+f,none⟩=some (.int .u8 (y.toNat:Int)):=by
  intro y t e;have hy:=congrArg (fun z=>z[0]?) e;simp only [List.getElem?_drop,add_zero,getElem?_cons_zero] at hy;have bC:=(List.getElem?_eq_some_iff.1 hy).1;obtain ⟨b',bD,e1,e2⟩:=h.at f (by simp;omega);simp only [Option.some.injEq,Addr.mk.injEq,and_true] at e1;obtain ⟨rfl,rfl⟩:=e1;have e3:(x::r)[f]?=some y:=by rw [hf,Nat.add_comm,getElem?_cons_succ];exact hy
  rw [List.getElem?_eq_getElem (by simp;omega)] at e3;rw [Option.some.inj e3] at e2;exact ⟨by omega,by omega,e2⟩
 obtain ⟨r',av⟩:=Qe (r.drop k);rw [<-av] at U ah;rw [<-av];clear hp H ac hn an hm hM aS hL ao ak ae hk hf a3 e1 aP av;by_cases hbig:M<V
 ·rw [if_pos (.inl hbig)];have g1:decide ((M:Int)<(V:Int))=true:=by rw [decide_eq_true_eq];omega
  have g2:decide (M<V)=true:=by rw [decide_eq_true_eq];omega
  have aw:=Qhd U;have a8:Hid (∀ u:World,Below w.heap.size w u->True):=Qhd (fun _ _=>trivial);clear U ah h W;go_enter Tryz.func116,Tryz.ntmps116
  go_wp2_with (first
   |(go_at_call 73;(with_reducible refine (Pt.out _ (ab.out)).mono ?_);rintro e D ⟨rfl,I⟩)
   |((with_reducible refine Qgs 44 ?_);refine Qsa 24 9 44 D.heap.size (wcs V) Q0u (D01 D 24 z4) (Q14 _) (by rfl) (Q1n _) (Below.alloc (Below.refl D.heap.size D) (le_refl _) _) (le_refl _) ?_;intro w3 G K _;have N:=G.wat 0 (by omega);rw [O.out] at N;have J:=D00 I K;have Z:=G.range0)
   |(refine Qlw 24 9 D.heap.size 0 Q0u (Q14 _) Z ?_)
   |(go_at_call 53;(with_reducible refine (Pn.out _).mono ?_);rintro e w4 ⟨v4,rfl,r4,T⟩;obtain ⟨a4,c4,rfl,_⟩:=r4.form' k aq.out;have S:=D00 J T;have a7:=(G.kept T).wat 0 (by omega);rw [O.out] at a7;have aA:=a8.out w4 S))
  refine ret4 (v:=.tuple #[.int .i64 0,.int .i64 0,.bool false,.bool false]) (by simp [results,Tryz.results116,go_sem]) rfl ⟨S,rfl⟩
 have g1:decide ((M:Int)<(V:Int))=false:=by rw [decide_eq_false_iff_not];omega
 have g2:decide (M<V)=false:=by rw [decide_eq_false_iff_not];omega
 cases lst with
 | true =>
  rw [if_neg (by rintro (E|⟨E,_⟩);exact hbig E;cases E)];have aw:=Qhd U;have a8:Hid (∀ u:World,Below w.heap.size w u->True):=Qhd (fun _ _=>trivial);clear U ah h W;go_enter Tryz.func116,Tryz.ntmps116
  go_wp2_with (first
   |(go_at_call 73;(with_reducible refine (Pt.out _ (ab.out)).mono ?_);rintro e D ⟨rfl,I⟩)
   |((with_reducible refine Qgs 44 ?_);refine Qsa 24 9 44 D.heap.size (wcs V) Q0u (D01 D 24 z4) (Q14 _) (by rfl) (Q1n _) (Below.alloc (Below.refl D.heap.size D) (le_refl _) _) (le_refl _) ?_;intro w3 G K _;have N:=G.wat 0 (by omega);rw [O.out] at N;have J:=D00 I K;have Z:=G.range0)
   |(refine Qlw 24 9 D.heap.size 0 Q0u (Q14 _) Z ?_)
   |(go_at_call 53;(with_reducible refine (Pn.out _).mono ?_);rintro e w4 ⟨v4,rfl,r4,T⟩;obtain ⟨a4,c4,rfl,_⟩:=r4.form' k aq.out;have S:=D00 J T;have a7:=(G.kept T).wat 0 (by omega);rw [O.out] at a7;have aA:=a8.out w4 S))
  refine ret4 (v:=.tuple #[.int .i64 f,.int .i64 ((to:Nat):Int),.bool true,.bool true]) (by simp [results,Tryz.results116,go_sem]) rfl ⟨S,rfl⟩
 | false =>
  by_cases h1:V=1
  ·have g3:((V:Int)==1)=true:=by rw [h1];rfl
   obtain ⟨y,t,ht⟩:∃ y t,r'=y::t:=by
    cases av:r' with
    | nil=>rw [av] at U;simp at U;omega
    | cons y t=>exact ⟨y,t,rfl⟩
   have aJ:own1 V r'=decide (y.toNat<128):=by unfold own1;rw [ht,h1];simp
   rw [aJ];obtain ⟨bk,bl,az⟩:(f:Int)<(L:Int)/\f<L/\w.cell? ⟨q,off+f,none⟩=some (.int .u8 (y.toNat:Int)):=ah y t ht;by_cases hy:y.toNat<128
   ·rw [if_pos (.inr ⟨rfl,decide_eq_true hy⟩)];have aL:(y.toNat:Int)<128:=by omega
    have be:decide ((y.toNat:Int)<128)=true:=by rw [decide_eq_true_eq];exact aL
    clear aJ ht h1;have aw:=Qhd U;have a8:Hid (∀ u:World,Below w.heap.size w u->u.cell? ⟨q,off+f,none⟩=some (.int .u8 (y.toNat:Int))):=Qhd (fun u hb=>by rw [hb.cell (World.block_lt_of_cell? w _ az)];exact az);clear U ah h W;go_enter Tryz.func116,Tryz.ntmps116
    go_wp2_with (first
     |(go_at_call 73;(with_reducible refine (Pt.out _ (ab.out)).mono ?_);rintro e D ⟨rfl,I⟩)
     |((with_reducible refine Qgs 44 ?_);refine Qsa 24 9 44 D.heap.size (wcs V) Q0u (D01 D 24 z4) (Q14 _) (by rfl) (Q1n _) (Below.alloc (Below.refl D.heap.size D) (le_refl _) _) (le_refl _) ?_;intro w3 G K _;have N:=G.wat 0 (by omega);rw [O.out] at N;have J:=D00 I K;have Z:=G.range0)
     |(refine Qlw 24 9 D.heap.size 0 Q0u (Q14 _) Z ?_)
     |(go_at_call 53;(with_reducible refine (Pn.out _).mono ?_);rintro e w4 ⟨v4,rfl,r4,T⟩;obtain ⟨a4,c4,rfl,_⟩:=r4.form' k aq.out;have S:=D00 J T;have a7:=(G.kept T).wat 0 (by omega);rw [O.out] at a7;have aA:=a8.out w4 S))
    refine ret4 (v:=.tuple #[.int .i64 0,.int .i64 0,.bool false,.bool false]) (by simp [results,Tryz.results116,go_sem]) rfl ⟨S,rfl⟩
   rw [if_neg (by rintro (E|⟨_,E⟩);exact hbig E;exact hy (of_decide_eq_true E))];have aL:¬ (y.toNat:Int)<128:=by omega
   have be:decide ((y.toNat:Int)<128)=false:=by rw [decide_eq_false_iff_not];exact aL
   clear aJ ht h1;have aw:=Qhd U;have a8:Hid (∀ u:World,Below w.heap.size w u->u.cell? ⟨q,off+f,none⟩=some (.int .u8 (y.toNat:Int))):=Qhd (fun u hb=>by rw [hb.cell (World.block_lt_of_cell? w _ az)];exact az);clear U ah h W;go_enter Tryz.func116,Tryz.ntmps116
   go_wp2_with (first
    |(go_at_call 73;(with_reducible refine (Pt.out _ (ab.out)).mono ?_);rintro e D ⟨rfl,I⟩)
    |((with_reducible refine Qgs 44 ?_);refine Qsa 24 9 44 D.heap.size (wcs V) Q0u (D01 D 24 z4) (Q14 _) (by rfl) (Q1n _) (Below.alloc (Below.refl D.heap.size D) (le_refl _) _) (le_refl _) ?_;intro w3 G K _;have N:=G.wat 0 (by omega);rw [O.out] at N;have J:=D00 I K;have Z:=G.range0)
    |(refine Qlw 24 9 D.heap.size 0 Q0u (Q14 _) Z ?_)
    |(go_at_call 53;(with_reducible refine (Pn.out _).mono ?_);rintro e w4 ⟨v4,rfl,r4,T⟩;obtain ⟨a4,c4,rfl,_⟩:=r4.form' k aq.out;have S:=D00 J T;have a7:=(G.kept T).wat 0 (by omega);rw [O.out] at a7;have aA:=a8.out w4 S))
   refine ret4 (v:=.tuple #[.int .i64 f,.int .i64 ((to:Nat):Int),.bool false,.bool true]) (by simp [results,Tryz.results116,go_sem]) rfl ⟨S,rfl⟩
  have g3:((V:Int)==1)=false:=by rw [beq_eq_false_iff_ne];omega
  rw [if_neg (by rintro (E|⟨_,E⟩);exact hbig E;unfold own1 at E;simp at E;exact h1 E.1)];have aw:=Qhd U;have a8:Hid (∀ u:World,Below w.heap.size w u->True):=Qhd (fun _ _=>trivial);clear U ah h W;go_enter Tryz.func116,Tryz.ntmps116
  go_wp2_with (first
   |(go_at_call 73;(with_reducible refine (Pt.out _ (ab.out)).mono ?_);rintro e D ⟨rfl,I⟩)
   |((with_reducible refine Qgs 44 ?_);refine Qsa 24 9 44 D.heap.size (wcs V) Q0u (D01 D 24 z4) (Q14 _) (by rfl) (Q1n _) (Below.alloc (Below.refl D.heap.size D) (le_refl _) _) (le_refl _) ?_;intro w3 G K _;have N:=G.wat 0 (by omega);rw [O.out] at N;have J:=D00 I K;have Z:=G.range0)
   |(refine Qlw 24 9 D.heap.size 0 Q0u (Q14 _) Z ?_)
   |(go_at_call 53;(with_reducible refine (Pn.out _).mono ?_);rintro e w4 ⟨v4,rfl,r4,T⟩;obtain ⟨a4,c4,rfl,_⟩:=r4.form' k aq.out;have S:=D00 J T;have a7:=(G.kept T).wat 0 (by omega);rw [O.out] at a7;have aA:=a8.out w4 S))
  refine ret4 (v:=.tuple #[.int .i64 f,.int .i64 ((to:Nat):Int),.bool false,.bool true]) (by simp [results,Tryz.results116,go_sem]) rfl ⟨S,rfl⟩
theorem Q90 (a:Option Addr)(L c:Nat)(b:List UInt8)(z:b.length=L)(D:L<=16777216)(w:World)(h:Q02 w (.slice a L c) b):Calls Tryz.prog 116 #[.slice a L c] w (Q73 (prdB b) w):=by
 cases b with
 | nil=>exact Qe0 a L c [] z (by simp) w h
 | cons x r =>
  by_cases h128:x.toNat<128
  ·exact Qe0 a L c (x::r) z (fun y s e=>by cases e;exact h128) w h
  by_cases h48:x.toNat - (if x.toNat<192 then 128 else 192)<48
  ·exact Qfq a L c x r z D (by omega) _ _ _ rfl rfl rfl h48 w h
  exact Qlx a L c x r z D (by omega) _ _ _ rfl rfl rfl (by omega) w h
theorem Qe1 (x:UInt8)(r:List UInt8):prdB (x::r)=if x.toNat<128 then some (0,1,false)
  else match hdr x.toNat (if x.toNat<192 then 128 else 192) r with
   | none=>none
   | some (k,r')=>if r'.length<k∨(x.toNat<192/\own1 k r'=true) then none else some (1+(r.length - r'.length),1+(r.length - r'.length)+k,decide (192<=x.toNat)):=rfl
theorem Qe3 (n:Nat)(b:List UInt8)(h:prdB b=none):par (n+1) b=none:=by
 cases b with
 | nil=>rfl
 | cons x r =>
  rw [Qe1] at h;by_cases h128:x.toNat<128
  ·rw [if_pos h128] at h;simp at h
  rw [if_neg h128] at h;rw [par,if_neg h128];by_cases h192:x.toNat<192
  ·rw [if_pos h192] at h;rw [if_pos h192];cases hh:hdr x.toNat 128 r with
   | none=>rfl
   | some kr =>
    obtain ⟨k,y⟩:=kr;rw [hh] at h;dsimp only at h |-;by_cases hc:y.length<k∨own1 k y=true
    ·rw [if_pos hc]
    rw [if_neg (by rintro (h|⟨_,h⟩);exact hc (.inl h);exact hc (.inr h))] at h;simp at h
  rw [if_neg h192] at h;rw [if_neg h192];cases hh:hdr x.toNat 192 r with
  | none=>rfl
  | some kr =>
   obtain ⟨k,y⟩:=kr;rw [hh] at h;dsimp only at h |-;by_cases hc:y.length<k
   ·rw [if_pos hc]
   rw [if_neg (by rintro (h|⟨h,_⟩);exact hc h;exact h192 h)] at h;simp at h
theorem Q7k (n:Nat)(b:List UInt8)(f t:Nat)(l:Bool)(h:prdB b=some (f,t,l)):f<=t/\t<=b.length/\(l=true->1<=f)/\par (n+1) b=if l=true then (match parL (par n) (t - f) ((b.take t).drop f) with
   | none=>none
   | some ks=>some (.lst ks,b.drop t)) else some (.txt ((b.take t).drop f),b.drop t):=by
 cases b with
 | nil=>simp [prdB] at h
 | cons x r =>
  rw [Qe1] at h;by_cases h128:x.toNat<128
  ·rw [if_pos h128] at h;simp only [Option.some.injEq,Prod.mk.injEq] at h;obtain ⟨rfl,rfl,rfl⟩:=h;refine ⟨by omega,by simp,by simp,?_⟩;simp [par,h128]
  rw [if_neg h128] at h;rw [par,if_neg h128];by_cases h192:x.toNat<192
  ·rw [if_pos h192] at h;rw [if_pos h192];cases hh:hdr x.toNat 128 r with
   | none=>rw [hh] at h;simp at h
   | some kr =>
    obtain ⟨k,y⟩:=kr;obtain ⟨j,z,E⟩:=Q50 hh;rw [hh] at h;dsimp only at h |-;by_cases hc:y.length<k∨own1 k y=true
    ·rw [if_pos (by rcases hc with h|h;exact .inl h;exact .inr ⟨h192,h⟩)] at h;simp at h
    rw [if_neg (by rintro (h|⟨_,h⟩);exact hc (.inl h);exact hc (.inr h))] at h;rw [if_neg hc];have G:y.length=r.length - j:=by rw [z,length_drop]
    have H:k<=y.length:=by have:¬ y.length<k:=fun h=>hc (.inl h);omega
    have D:1+(r.length - y.length)=j+1:=by omega
    rw [D] at h;simp only [Option.some.injEq,Prod.mk.injEq] at h;obtain ⟨rfl,rfl,rfl⟩:=h;refine ⟨by omega,by simp;omega,by omega,?_⟩;rw [if_neg (by simp;omega),show j+1+k=(j+k)+1 from by omega,List.take_succ_cons,drop_succ_cons,drop_succ_cons,z,drop_drop,List.take_drop]
  rw [if_neg h192] at h;rw [if_neg h192];cases hh:hdr x.toNat 192 r with
  | none=>rw [hh] at h;simp at h
  | some kr =>
   obtain ⟨k,y⟩:=kr;obtain ⟨j,z,E⟩:=Q50 hh;rw [hh] at h;dsimp only at h |-;by_cases hc:y.length<k
   ·rw [if_pos (.inl hc)] at h;simp at h
   rw [if_neg (by rintro (h|⟨h,_⟩);exact hc h;exact h192 h)] at h;rw [if_neg hc];have G:y.length=r.length - j:=by rw [z,length_drop]
   have D:1+(r.length - y.length)=j+1:=by omega
   rw [D] at h;simp only [Option.some.injEq,Prod.mk.injEq] at h;obtain ⟨rfl,rfl,rfl⟩:=h;refine ⟨by omega,by simp;omega,by omega,?_⟩;rw [if_pos (by simp;omega),show j+1+k - (j+1)=k from by omega,show j+1+k=(j+k)+1 from by omega,List.take_succ_cons,drop_succ_cons,drop_succ_cons,z,drop_drop,List.take_drop];rfl
structure LrW (w:World)(g9:Nat)(kv:Value)(ks:List Itm)(u:World):Prop where
 hb:Below w.heap.size w u
 hz:Blk 77 u w.heap.size [.bool false,.slice none 0 0,.slice none 0 0]
 hm:Blk 77 u g9 [.bool true,.slice none 0 0,kv]
 hO:Q08 Q0j 3 77 u (g9+1) kv ks
 hF:∀ k∈ks,Fp (fun x=>g9+1<=x/\kv.ownBlock≠some x) u k/\Q40 k
 h1:w.heap.size<g9
section
variable {w:World} {g9:Nat} {kv:Value} {ks:List Itm} {u:World}
theorem LrW.kept {u':World}(h:LrW w g9 kv ks u)(y:Below u.heap.size u u'):LrW w g9 kv ks u' :=
 ⟨D00 h.hb y,h.hz.kept y,h.hm.kept y,h.hO.kept y,fun k z=>⟨(h.hF k z).1.to y.size (fun x E D=>⟨y.block x D,E⟩),(h.hF k z).2⟩,h.h1⟩
theorem Qs2 {α:Type}{f:α->List Value}{size:Nat}{e:TypeId}{w:World}{B:Nat}{v:Value}{l:List α}(h:Q08 f size e w B v l){k:Nat}(hk:v.ownBlock=some k):k<w.heap.size:=(World.ownsRow.lt h k hk).2
theorem LrW.grew {u':World}{z:Value}{E:Itm}(h:LrW w g9 kv ks u)(O:Fp (fun x=>g9+1<=x/\kv.ownBlock≠some x) u E)(N:Q40 E)(D:u.grownBy u' kv.ownBlock)(I:Q08 Q0j 3 77 u' (g9+1) z (ks++[E]))
  (hp:∀ k,z.ownBlock=some k->kv.ownBlock=some k∨u.heap.size<=k):LrW w g9 z (ks++[E]) (u'.setCell ⟨g9,2,none⟩ z):=by
 have T:=h.h1;have L:∀ b,b<=g9->kv.ownBlock≠some b:=fun b S e=>by have:=h.hO.lt b e;omega
 have hst:u'.grownBy (u'.setCell ⟨g9,2,none⟩ z) (some g9):=Q0s 2 z;have J:∀ k,Fp (fun x=>g9+1<=x/\kv.ownBlock≠some x) u k->Fp (fun x=>g9+1<=x/\z.ownBlock≠some x) (u'.setCell ⟨g9,2,none⟩ z) k:=by
  intro k y;refine y.to (Nat.le_trans D.size hst.size) (fun x G K=>⟨?_,G.1,fun e=>?_⟩)
  ·rw [hst.block x (Nat.lt_of_lt_of_le K D.size) (by simp;omega),D.block x K (fun e=>G.2 e.symm)]
  rcases hp x e with H|H
  ·exact G.2 H
  omega
 have M:=h.hb.grown D h.hb.size (fun k y=>by have:=h.hO.lt k y;omega);refine ⟨M.setCell (by show w.heap.size<=g9;omega) _,(h.hz.grown D (L _ (by omega))).other _ (by simp;omega) _,(h.hm.grown D (L _ (le_refl _))).set 2 z,I.grown hst (fun k y e=>by cases y;have:=I.lt _ e;omega),fun k y=>?_,h.h1⟩;rcases List.mem_append.1 y with y|y
 ·exact ⟨J k (h.hF k y).1,(h.hF k y).2⟩
 rw [List.mem_singleton] at y;subst y;exact ⟨J k O,N⟩
theorem LrW.apart {u':World}{y:Itm}(h:LrW w g9 kv ks u)(z:Fp (fun x=>u.heap.size<=x) u' y):Fp (fun x=>g9+1<=x/\kv.ownBlock≠some x) u' y:=by
 have D:=h.hm.lt;exact z.to (le_refl _) (fun x E _=>⟨rfl,by omega,fun e=>by have:=Qs2 h.hO e;omega⟩)
end
def Q2s (o:Option (Pit × List UInt8))(L:Nat)(w:World)(e:Ending)(w':World):Prop :=
 match o with
 | none=>e=.returned (.tuple #[.agg #[.bool false,.slice none 0 0,.slice none 0 0],.int .i64 0,.int .i64 1])/\Below w.heap.size w w'
 | some (p,r)=>∃ it,e=.returned (.tuple #[.agg (Q0j it).toArray,.int .i64 ((L - r.length:Nat):Int),.int .i64 0])/\Below w.heap.size w w'/\Fp (fun x=>w.heap.size<=x) w' it/\erI it=p/\Q40 it
theorem Q3n (L:Nat)(w:World):Q2s none L w=fun e w'=>e=.returned (.tuple #[.agg #[.bool false,.slice none 0 0,.slice none 0 0],.int .i64 0,.int .i64 1])/\Below w.heap.size w w':=rfl
theorem Q3m (p:Pit)(r:List UInt8)(L:Nat)(w:World):Q2s (some (p,r)) L w=fun e w'=>∃ it,e=.returned (.tuple #[.agg (Q0j it).toArray,.int .i64 ((L - r.length:Nat):Int),.int .i64 0])/\Below w.heap.size w w'/\Fp (fun x=>w.heap.size<=x) w' it/\erI it=p/\Q40 it:=rfl
theorem Q8z (n:Nat)(a:Option Addr)(L c:Nat)(b:List UInt8)(H:b.length=L)(N:L<=16777216)(w:World)(h:Q02 w (.slice a L c) b)(D:prdB b=none):Calls Tryz.prog 86 #[.slice a L c] w (Q2s (par (n+1) b) L w):=by
 rw [Qe3 n b D,Q3n];have U:=D01 w 77 [.bool false,.slice none 0 0,.slice none 0 0];have O:Below w.heap.size w (w.alloc (.cells #[.bool false,.slice none 0 0,.slice none 0 0] 77)):=Qba _ _;have E:=fun u (y:Q02 u (.slice a L c) b)=>Q90 a L c b H N u y;rw [D] at E;have M:=Qhd E;clear E D H;go_enter Tryz.func86,Tryz.ntmps86
 go_wp2_with (first
  |(go_at_call 116;(with_reducible refine (M.out _ (h.alloc _)).mono ?_);rintro e W ⟨G,rfl⟩;have V:=U.kept G;have S:=D00 O G)
  |((with_reducible refine Qgs 23 ?_);refine Qsa 77 2 23 w.heap.size [.bool false,.slice none 0 0,.slice none 0 0] Q09 V (by rfl) (by rfl) (by intro u y;simp at y;rcases y with rfl|rfl<;>rfl) S (le_refl _) ?_;intro Z z T _))
 have I:=z.cell 0;have J:=z.cell 1;have K:=z.cell 2;simp only [getElem?_cons_zero,getElem?_cons_succ] at I J K;exact bodyPost_ret (v:=.tuple #[.agg #[.bool false,.slice none 0 0,.slice none 0 0],.int .i64 0,.int .i64 1]) (by simp [results,Tryz.results86,go_sem,I,J,K]) rfl ⟨rfl,T⟩
theorem Qfo (n:Nat)(a:Option Addr)(L c:Nat)(b:List UInt8)(z:b.length=L)(ac:L<=16777216)(w:World)(h:Q02 w (.slice a L c) b)(f t:Nat)(S:prdB b=some (f,t,false)):Calls Tryz.prog 86 #[.slice a L c] w (Q2s (par (n+1) b) L w):=by
 obtain ⟨a0,T,_,a3⟩:=Q7k n b f t false S;rw [a3,if_neg (by simp),Q3m];have ai:L - (b.drop t).length=t:=by rw [length_drop];omega
 rw [ai];have hz:=D01 w 77 [.bool false,.slice none 0 0,.slice none 0 0];have ad:Below w.heap.size w (w.alloc (.cells #[.bool false,.slice none 0 0,.slice none 0 0] 77)):=Qba _ _;have av:w.heap.size<(w.alloc (.cells #[.bool false,.slice none 0 0,.slice none 0 0] 77)).heap.size:=by simp
 have U:=fun u (D:Q02 u (.slice a L c) b)=>Q90 a L c b z ac u D;rw [S] at U;have K:=h;rw [<-z] at K;obtain ⟨a1,c1,q1,V⟩:=K.between elU8 f t a0 T (f:Int) (t:Int) rfl rfl;rw [z] at q1 T;obtain ⟨k,hk⟩:=Qe (t - f);rw [<-hk] at q1 V;have O:((b.take t).drop f).length=k:=by rw [length_drop,length_take];omega
 obtain ⟨l,N⟩:=Qe ((b.take t).drop f);rw [<-N] at O V;rw [<-N];have E:=Qhd O;have Pr:=Qhd U;have ar:k<=16777216:=by omega
 clear U S z a3 N O K hk a0 T;go_enter Tryz.func86,Tryz.ntmps86
 go_wp2_with (first
  |(go_at_call 116;(with_reducible refine (Pr.out _ (h.alloc _)).mono ?_);rintro e w1 ⟨H,rfl⟩;have al:=hz.kept H;have Z:=D00 ad H;have au:=H.size)
  |(refine Q0x (o:=⟨some 31,_,_,_,_,_⟩) (by rfl) (.tmp 26) (.tmp 30) 25 (by rfl) elU8 (by rfl) (Q08.empty b8 1 5 w1 (w.heap.size+1) (by omega)) (by rfl) ((V.below Z).alloc _) (by simp;omega) (by rw [E.out];simp;omega) (by rw [E.out];unfold maxLen;simp;omega) ?_;intro v6 w6 o6 W p6;have am:=(al.alloc (.cells #[] 5)).grown W (by simp [Value.ownBlock];omega);have ae:=(Z.alloc (by omega) (.cells #[] 5)).grown W (by simp;omega) (by intro y hy;simp [Value.ownBlock] at hy;omega);obtain ⟨G,J,rfl,_⟩:=o6.form' k (by rw [List.nil_append];exact E.out))
  |(go_at_call 55;(with_reducible refine (Q3c _ _ _ _).mono ?_);rintro e w7 ⟨rfl,I⟩;have an:=am.kept I;have o7:=o6.kept I;have af:=D00 ae I)
  |((with_reducible refine Qgs 32 ?_);refine Qsa 77 2 32 w.heap.size [.bool false,.slice G k J,.slice none 0 0] Q09 an (by rfl) (by rfl) (by intro u D;simp at D;rcases D with rfl|rfl|rfl<;>rfl) af (le_refl _) ?_;intro w8 M ag g8;have o8:=o7.grown g8 (fun j hj e=>by cases hj;have:=o7.lt _ e;omega)))
 have k0:=M.cell 0;have k1:=M.cell 1;have k2:=M.cell 2;simp only [getElem?_cons_zero,getElem?_cons_succ] at k0 k1 k2;exact bodyPost_ret (v:=.tuple #[.agg #[.bool false,.slice G k J,.slice none 0 0],.int .i64 (t:Int),.int .i64 0]) (by simp [results,Tryz.results86,go_sem,k0,k1,k2]) rfl ⟨.mk false (.slice G k J) l (.slice none 0 0) [],rfl,ag,Fp.txt o8 (fun _ h=>by omega),by rw [Q1w];rfl,.txt _ _ _⟩
theorem Qfp (n:Nat)(ih:∀ (b:List UInt8),b.length<=n->b.length<=16777216->∀ (a:Option Addr) (L c:Nat) (w:World),b.length=L->Q02 w (.slice a L c) b->Calls Tryz.prog 86 #[.slice a L c] w (Q2s (par n b) L w))
  (a:Option Addr) (L c:Nat) (b:List UInt8) (hL:b.length=L) (hn:L<=n+1) (hLs:L<=16777216) (w:World) (h:Q02 w (.slice a L c) b) (f t:Nat) (hp:prdB b=some (f,t,true)):Calls Tryz.prog 86 #[.slice a L c] w (Q2s (par (n+1) b) L w):=by
 obtain ⟨bF,bf,b3,D⟩:=Q7k n b f t true hp;have b3:=b3 rfl;rw [D,if_pos rfl];have aE:L - (b.drop t).length=t:=by rw [length_drop];omega
 obtain ⟨d,hd⟩:=Qe (b.drop t);rw [<-hd] at aE;rw [<-hd];obtain ⟨PL,au⟩:=Qe (parL (par n) (t - f) ((b.take t).drop f));rw [<-au];have hz:=D01 w 77 [.bool false,.slice none 0 0,.slice none 0 0];have aW:Below w.heap.size w (w.alloc (.cells #[.bool false,.slice none 0 0,.slice none 0 0] 77)):=Qba _ _;have bL:w.heap.size<(w.alloc (.cells #[.bool false,.slice none 0 0,.slice none 0 0] 77)).heap.size:=by simp
 have pr:=fun u (z:Q02 u (.slice a L c) b)=>Q90 a L c b hL hLs u z;rw [hp] at pr;have h':=h;rw [<-hL] at h';have be:∀ i,i<=t->∃ a' c',(∀ k k' w',(Instr.slice 25 (.slice a L c) (some (.int k (i:Int))) (some (.int k' (t:Int))) none).run Tryz.prog w'=.ok (.slice a' (t - i) c') w')/\Q02 w (.slice a' (t - i) c') ((b.take t).drop i):=by
  intro i hi;obtain ⟨a1,c1,q1,r1⟩:=h'.between elU8 i t hi bf (i:Int) (t:Int) rfl rfl;rw [hL] at q1;exact ⟨a1,c1,q1,r1⟩
 have ba:∀ i,i<=t->((b.take t).drop i).length=t - i:=fun i hi=>by rw [length_drop,length_take];omega
 have bv:=Qhd au;have Pr:=Qhd pr;have bz:=Qhd be;have aR:=Qhd ba;have Ih:=Qhd ih;have bx:=Qhd aE;have c0:t<=n+1:=by omega
 have bZ:t<=16777216:=by omega
 clear pr hp hL D h' hd au be ba ih aE bf;go_enter Tryz.func86,Tryz.ntmps86
 go_wp2_with (first
  |(go_at_call 116;(with_reducible refine (Pr.out _ (h.alloc _)).mono ?_);rintro e w1 ⟨b1,rfl⟩;have bh:=hz.kept b1;have aX:=D00 aW b1;have bJ:=b1.size)
  |(go_at_call 52;refine (Q6i none 0 0 _).mono ?_;rintro e w2 ⟨rfl,b2⟩;have bi:=bh.kept b2;have aY:=D00 aX b2;have bK:=b2.size)
  |((with_reducible refine Qgs 34 ?_);refine Qsa 77 9 34 w2.heap.size [.bool true,.slice none 0 0,.slice none 0 0] Q09 (D01 w2 77 [.bool false,.slice none 0 0,.slice none 0 0]) (by rfl) (by rfl) (by intro u z;simp at z;rcases z with rfl|rfl<;>rfl) (aY.alloc (by omega) (.cells #[.bool false,.slice none 0 0,.slice none 0 0] 77)) (by omega) ?_;intro w3 bb aZ g3;have bj:=(bi.alloc (.cells #[.bool false,.slice none 0 0,.slice none 0 0] 77)).grown g3 (by simp<;>omega)))
 have F3:LrW w w2.heap.size (.slice none 0 0) [] w3:=⟨aZ,bj,bb,Q08.nil Q0j 3 _ _ _,by simp,by omega⟩;obtain ⟨S,G⟩:=Qe (w2.heap.size);rw [<-G] at F3;rw [<-G];clear hz aW bL b1 bh aX bJ b2 bi aY bK bb aZ g3 bj G
 try simp only [Act.put]
 go_loopw [10] (fun i wr=>∃ (at' m:Nat) (kv:Value) (ks:List Itm),i=.int .i64 (at':Int)/\f<=at'/\at'<=t/\LrW w S kv ks wr/\t - at'<=m/\ks.length+(t - at')<=t - f/\PL=(parL (par n) m ((b.take t).drop at')).map (fun ps=>ks.map erI++ps)) (fun i _=>t - (intOf i).toNat)
 case atStart=>exact ⟨f,t - f,.slice none 0 0,[],rfl,le_refl _,bF,F3,le_refl _,by simp,by rw [bv.out];cases parL (par n) (t - f) ((b.take t).drop f)<;>simp⟩
 case round =>
  clear F3;obtain ⟨i,m,kv,ks,rfl,bT,az,F,hm,b',bd⟩:=hrel;have am:=Qhd bd;clear bd;obtain ⟨ka,kc,rfl,_⟩:=F.hO.form;by_cases hlt:i<t
  ·have bX:(i:Int)<(t:Int):=by omega
   obtain ⟨a1,c1,q1,r1⟩:=bz.out i az;have H:=aR.out i az;obtain ⟨a8,V⟩:=Qe ((b.take t).drop i);rw [<-V] at r1 H;have U:=am.out;rw [<-V] at U;obtain ⟨L6,ag⟩:=Qe (t - i);rw [<-ag] at q1 r1 H hm b';have ah:a8≠[]:=fun e=>by rw [e] at H;simp at H;omega
   obtain ⟨m',rfl⟩:∃ m',m=m'+1:=⟨m - 1,by omega⟩;have M:=fun (u:World) (z:Q02 u (.slice a1 L6 c1) a8)=>Ih.out a8 (by omega) (by omega) a1 L6 c1 u H z;have bo:=r1.below F.hb;cases D:par n a8 with
   | none =>
    have K:PL=none:=by rw [U,Qe5 ah D];rfl
    subst K;simp only [D,Q3n] at M;have Hc:=Qhd M;clear M D ah U V H ag
    go_wp2_with (first
     |(go_at_call 86;(with_reducible refine (Hc.out _ bo).mono ?_);rintro e E ⟨rfl,b4⟩;have F4:=F.kept b4)
     |((with_reducible refine Qgs 45 ?_);refine Qsa 77 11 45 E.heap.size [.bool false,.slice none 0 0,.slice none 0 0] Q09 (D01 E 77 [.bool false,.slice none 0 0,.slice none 0 0]) (by rfl) (by rfl) (by intro u z;simp at z;rcases z with rfl|rfl<;>rfl) (((Below.refl E.heap.size E).alloc (le_refl _) (.cells #[.bool false,.slice none 0 0,.slice none 0 0] 77))) (le_refl _) ?_;intro w5 aT O g5;have N:=F4.kept O)
     |((with_reducible refine Qgs 50 ?_);refine Qsa 77 2 50 w.heap.size [.bool false,.slice none 0 0,.slice none 0 0] Q09 N.hz (by rfl) (by rfl) (by intro u z;simp at z;rcases z with rfl|rfl<;>rfl) N.hb (le_refl _) ?_;intro w6 aw bD _))
    have W:=aw.cell 0;have Z:=aw.cell 1;have k2:=aw.cell 2;simp only [getElem?_cons_zero,getElem?_cons_succ] at W Z k2;exact bodyPost_ret (v:=.tuple #[.agg #[.bool false,.slice none 0 0,.slice none 0 0],.int .i64 0,.int .i64 1]) (by simp [results,Tryz.results86,go_sem,W,Z,k2]) rfl ⟨rfl,bD⟩
   | some pr =>
    obtain ⟨p,r2⟩:=pr;obtain ⟨j,hj,bU,bG⟩:=Qm4 n a8 p r2 D;have b9:L6 - r2.length=j:=by rw [hj,length_drop];omega
    have K:PL=(parL (par n) m' ((b.take t).drop (i+j))).map (fun ps=>(ks.map erI++[p])++ps):=by
     rw [U,Q94 ah D,hj,V,drop_drop];cases parL (par n) m' (List.drop (i+j) (List.take t b))<;>simp
    simp only [D,Q3m,b9] at M;have Hc:=Qhd M;have bw:=Qhd K;have bV:j<=L6:=by omega
    have hst:IntKind.i64.wrap ((i:Int)+(j:Int))=((i+j:Nat):Int):=by rw [show (i:Int)+(j:Int)=((i+j:Nat):Int) from by omega];exact IntWalk.i64_in _ (by omega)
    obtain ⟨i2,ay⟩:=Qe (i+j);rw [<-ay] at hst;have bY:(i:Int)+(j:Int)=(i2:Int):=by omega
    obtain ⟨kn,aC⟩:=Qe (ks.length);rw [<-aC] at F b';have aa:=Qhd aC.symm;have J:=Qhd ay;have al:=Qhd ag;clear M D ah U V H K hj b9 aC ay ag am bG
    go_wp2_with (first
     |(go_at_call 86;(with_reducible refine (Hc.out _ bo).mono ?_);rintro e E ⟨it,rfl,b4,aQ,b0,aV⟩;have F4:=F.kept b4;have a9:=F.apart aQ;obtain ⟨l2,c6,t2,c5,bm⟩:=it;obtain ⟨aN,aO,rfl,_,_⟩:=a9.is.inv.1.form;obtain ⟨aI,aJ,rfl,_,_⟩:=a9.is.inv.2.1.form;obtain ⟨aP,aF⟩:=Qe (t2.length);obtain ⟨aL,aD⟩:=Qe (bm.length);rw [<-aF,<-aD] at a9 b0 aV;rw [<-aF,<-aD];clear aF aD aQ;simp only [Q0j])
     |((with_reducible refine Qgs 45 ?_);refine Qsa 77 11 45 E.heap.size [.bool l2,.slice aN aP aO,.slice aI aL aJ] Q09 (D01 E 77 [.bool false,.slice none 0 0,.slice none 0 0]) (by rfl) (by rfl) (by intro u z;simp at z;rcases z with rfl|rfl|rfl<;>rfl) (((Below.refl E.heap.size E).alloc (le_refl _) (.cells #[.bool false,.slice none 0 0,.slice none 0 0] 77))) (le_refl _) ?_;intro w5 aT O g5;have N:=F4.kept O;have bt:=a9.to O.size (fun x hx T=>⟨O.block x T,hx⟩);have bW:w5.cell? ⟨S,2,none⟩=some (.slice ka kn kc):=N.hm.cell 2)
     |(refine Qla 77 11 E.heap.size Q09 aT (by rfl) ?_)
     |(refine Q0o (o:=⟨some 54,_,_,_,_,_⟩) (by rfl) 75 1 [(0,.tmp 53)] (by rfl) Q5t [.mk l2 (.slice aN aP aO) t2 (.slice aI aL aJ) bm] [.agg #[.bool l2,.slice aN aP aO,.slice aI aL aJ]] (by rfl) (by rfl) (by rfl) (by omega) (by omega) ?_;intro w6 _ bI b6;have I:=N.kept b6;have bu:=bt.to b6.size (fun x hx T=>⟨b6.block x T,hx⟩))
     |(refine Q0t (o:=⟨some 55,_,_,_,_,_⟩) (by rfl) (.tmp 52) (.tmp 54) 75 (by rfl) Q5t (by intro u z;simp [Q0j] at z;rcases z with rfl|rfl|rfl<;>rfl) (by rfl) I.hO (by rfl) bI I.hm.lt (by rw [aa.out];simp;omega) (by rw [aa.out];unfold maxLen;simp;omega) ?_;intro v7 w7 aU aq bO;obtain ⟨c3,c4,rfl,_⟩:=aU.form' (kn+1) (by rw [List.length_append,aa.out];rfl);have F7:=I.grew bu aV aq aU bO;have bc:(Value.slice ka kn kc).ownBlock≠some S:=fun e=>(by have:=I.hO.lt S e;omega);obtain ⟨y7,c2⟩:=(I.hm.grown aq bc).has 2 (by simp);have bS:=(I.hm.grown aq bc).free 2))
    go_roundw
    case rel=>exact ⟨i2,m',_,_,rfl,by have:=J.out;omega,by have:=J.out;have:=al.out;omega,F7,by have:=J.out;have:=al.out;omega,by have:=J.out;have:=al.out;rw [List.length_append,aa.out];simp;omega,by rw [bw.out,List.map_append,List.map_singleton,b0,J.out]⟩
    case measure=>have:=J.out;simp [intOf];omega
  obtain rfl:i=t:=by omega
  have K:PL=some (ks.map erI):=by
   rw [am.out,show (b.take i).drop i=[] from List.eq_nil_of_length_eq_zero (by have:=aR.out i az;omega),Q6l];simp
  subst K
  go_wp2_with (first
   |(refine Qla 77 9 S Q09 F.hm (by rfl) ?_)
   |((with_reducible refine Qgs 60 ?_);refine Qsa 77 2 60 w.heap.size [.bool true,.slice none 0 0,.slice ka ks.length kc] Q09 F.hz (by rfl) (by rfl) (by intro u z;simp at z;rcases z with rfl|rfl|rfl<;>rfl) F.hb (le_refl _) ?_;intro w9 ax bE G))
  have q1:=F.h1;have o9:=F.hO.grown G (fun y hy e=>by cases hy;have:=F.hO.lt _ e;omega);have W:=ax.cell 0;have Z:=ax.cell 1;have k2:=ax.cell 2;simp only [getElem?_cons_zero,getElem?_cons_succ] at W Z k2;refine bodyPost_ret (v:=.tuple #[.agg #[.bool true,.slice none 0 0,.slice ka ks.length kc],.int .i64 (i:Int),.int .i64 0]) (by simp [results,Tryz.results86,go_sem,W,Z,k2]) rfl ⟨.mk true (.slice none 0 0) [] (.slice ka ks.length kc) ks,?_,bE,Fp.lst o9 (fun k hk=>(F.hF k hk).1.to G.size (fun y hy T=>⟨G.block y T (by simp;omega),by omega⟩)) (fun y hy=>by omega),by rw [Q1w];rfl,.lst _ _ _ (fun k hk=>(F.hF k hk).2)⟩;rw [bx.out];rfl
theorem Qat:∀ (n:Nat)(b:List UInt8),b.length<=n->b.length<=16777216->∀ (a:Option Addr) (L c:Nat) (w:World),b.length=L->Q02 w (.slice a L c) b->Calls Tryz.prog 86 #[.slice a L c] w (Q2s (par n b) L w)
 | 0,[],_,h1,a,L,c,w,hL,h=>Q8z 0 a L c [] hL (by omega) w h rfl
 | 0,x::r,h0,_,_,_,_,_,_,_=>by simp at h0
 | n+1,b,h0,h1,a,L,c,w,hL,h=>by
  cases hp:prdB b with
  | none=>exact Q8z n a L c b hL (by omega) w h hp
  | some q =>
   obtain ⟨f,t,l⟩:=q;cases l with
   | false=>exact Qfo n a L c b hL (by omega) w h f t hp
   | true=>exact Qfp n (Qat n) a L c b hL (by omega) (by omega) w h f t hp
end Go.Proofs.YtbdmkfjgnjfjbaaGreat
