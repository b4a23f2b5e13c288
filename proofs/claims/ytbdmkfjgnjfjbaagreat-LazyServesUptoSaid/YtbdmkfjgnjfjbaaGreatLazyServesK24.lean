/- The reference's shapeItem: of nothing, of no kind. | The reference's shapeItem of a leaf. | The reference's shapeItem of a road. | The reference's shapeItem of  -/
import Derived.Test.YtbdmkfjgnjfjbaaGreatLazyServesK23
set_option linter.unusedSimpArgs false
set_option linter.unusedVariables false
set_option maxHeartbeats 4000000
set_option maxRecDepth 100000
namespace Go.Proofs.YtbdmkfjgnjfjbaaGreat
open Go.RowKit
theorem Q2p (p:List UInt8)(k:Nat)(hk:k<p.length):(!wrongB (p.take (k+1)))=((!wrongB (p.take k)) && decide ((p[k]).toNat<16)):=by
 rw [List.take_succ_eq_append_getElem hk,Q9e]
 unfold wrongB
 simp only [List.any_cons,List.any_nil,Bool.or_false]
 cases ((p.take k).any fun x=>decide (15<x.toNat)) with
 | true=>simp
 | false =>
  rw [Bool.false_or,Bool.not_false,Bool.true_and,Bool.eq_iff_iff]
  simp
  omega
theorem Qe1 (pa va ka:Option Addr)(pn pc vn vc kn kc:Nat)(p:List UInt8)(hpn:p.length=pn)(w:World)(hp:Bytes w (.slice pa pn pc) p)(hP:pn≤4194304) :
  Calls Tryz.prog 160 #[.agg #[.int .i64 0,.slice pa pn pc,.slice va vn vc,.slice ka kn kc]] w (Q1l true (textB []) w):=by
 have hs1:Blk 134 ((w.alloc (.cells #[.int .i64 0,.slice pa pn pc,.slice va vn vc,.slice ka kn kc] 134)).alloc (.cells #[.bool false,.slice none 0 0,.slice none 0 0] 77)) w.heap.size [.int .i64 0,.slice pa pn pc,.slice va vn vc,.slice ka kn kc]:=(Blk.new w 134 _).alloc _
 have hz1:Blk 77 ((w.alloc (.cells #[.int .i64 0,.slice pa pn pc,.slice va vn vc,.slice ka kn kc] 134)).alloc (.cells #[.bool false,.slice none 0 0,.slice none 0 0] 77)) (w.heap.size+1) [.bool false,.slice none 0 0,.slice none 0 0]:=by
  have:=Blk.new (w.alloc (.cells #[.int .i64 0,.slice pa pn pc,.slice va vn vc,.slice ka kn kc] 134)) 77 [.bool false,.slice none 0 0,.slice none 0 0]
  simpa using this
 have hbel1:Below w.heap.size w ((w.alloc (.cells #[.int .i64 0,.slice pa pn pc,.slice va vn vc,.slice ka kn kc] 134)).alloc (.cells #[.bool false,.slice none 0 0,.slice none 0 0] 77)):=(Qba _ _).alloc (by simp) _
 obtain ⟨w1,hw1⟩:∃ w1,w1=(w.alloc (.cells #[.int .i64 0,.slice pa pn pc,.slice va vn vc,.slice ka kn kc] 134)).alloc (.cells #[.bool false,.slice none 0 0,.slice none 0 0] 77):=⟨_,rfl⟩
 rw [←hw1] at hs1 hz1 hbel1
 have hp1:=hp.below hbel1
 have Hw1:=Qhd hw1
 have Hpn:=Qhd hpn
 clear hw1
 go_enter Tryz.func160,Tryz.ntmps160
 go_wp2_with fail
 rw [←Hw1.out]
 have c0:=(hs1.cell 0).trans (show _=some (Value.int .i64 0) from rfl)
 have c1:=(hs1.cell 1).trans (show _=some (Value.slice pa pn pc) from rfl)
 have c2:=(hs1.cell 2).trans (show _=some (Value.slice va vn vc) from rfl)
 have c3:=(hs1.cell 3).trans (show _=some (Value.slice ka kn kc) from rfl)
 go_loopw [4,20] (fun t4 ix wr=>∃ k:Nat,k≤pn∧ix=.int .i64 (k:Int)∧t4=.bool (!wrongB (p.take k))∧wr=w1) (fun _ ix _=>pn - (intOf ix).toNat)
 case atStart=>exact ⟨0,by omega,rfl,by simp [wrongB],rfl⟩
 case round =>
  obtain ⟨k,hk',rfl,rfl,rfl⟩:=hrel
  by_cases hlt:k<pn
  ·have hki:(k:Int)<(pn:Int):=by omega
   obtain ⟨b,off,rfl,hc⟩:=Bytes.at hp1 k (by rw [Hpn.out];exact hlt)
   have hstep:=Q2p p k (by rw [Hpn.out];exact hlt)
   obtain ⟨x,hx⟩:∃ x,x=p[k]'(by rw [Hpn.out];exact hlt):=⟨_,rfl⟩
   rw [←hx] at hc hstep
   obtain ⟨b0,hb0⟩:∃ b0,b0=(!wrongB (p.take k)):=⟨_,rfl⟩
   obtain ⟨b1,hb1⟩:∃ b1,b1=(!wrongB (p.take (k+1))):=⟨_,rfl⟩
   rw [←hb0,←hb1] at hstep
   rw [←hb0]
   have Hb1:=Qhd hb1
   have hxd:decide ((x.toNat:Int)<16)=decide (x.toNat<16):=by
    rw [Bool.eq_iff_iff];simp only [decide_eq_true_eq];omega
   obtain ⟨bx,hbx⟩:∃ bx,bx=decide (x.toNat<16):=⟨_,rfl⟩
   rw [←hbx] at hxd hstep
   have Hstep:=Qhd hstep
   clear hstep hb0 hb1 hx hbx
   cases b0
   all_goals
    go_wp2
    go_roundw
    case rel=>exact ⟨k+1,by omega,by go_num,by rw [←Hb1.out,Hstep.out];rfl,by first|trivial|rfl⟩
    case measure=>simp [intOf];omega
  ·obtain rfl:k=pn:=by omega
   have htk:p.take k=p:=List.take_of_length_le (by rw [Hpn.out];omega)
   rw [htk]
   clear htk hp1
   go_wp2_with (first
    |(go_at_call 55;(with_reducible refine (Q2d _ _ _ _).mono ?_);rintro e w3 ⟨rfl,b3⟩;have hz3:=hz1.kept b3;have hbel3:=Below.then hbel1 b3)
    |((with_reducible refine Qgs 34 ?_);refine Qsa 77 2 34 (w.heap.size+1) [.bool false,.slice none 0 0,.slice none 0 0] Q0a hz3 (by rfl) (by rfl) (by intro u hu;simp at hu;rcases hu with rfl|rfl<;>rfl) (Below.refl _ _) (Nat.le_refl _) ?_;intro w5 hh5 _ hg5;have hbel5:=hbel3.grown hg5 hbel3.size (fun j hj=>by cases hj;omega)))
   exact bodyPost_ret (Q04 rfl _ _ (w.heap.size+1) Q0a hh5 rfl rfl rfl) rfl ⟨false,none,0,0,[],none,0,0,[],rfl,fun _=>⟨IsItm.txt (RowOf.nil b8 1 w5),Q8x _ _,by rw [show bulkI (.mk false (.slice none 0 0) [] (.slice none 0 0) [])=bulkI (txt (.slice none 0 0) []) from rfl,Q33];simp⟩,hbel5⟩
theorem Qe4 (kd:Int)(h0:kd≠0)(h1:kd≠1)(h2:kd≠2)(h3:kd≠3)(pa va ka:Option Addr)(pn pc vn vc kn kc:Nat)(p:List UInt8)(hpn:p.length=pn)(w:World)(hp:Bytes w (.slice pa pn pc) p)(hP:pn≤4194304) :
  Calls Tryz.prog 160 #[.agg #[.int .i64 kd,.slice pa pn pc,.slice va vn vc,.slice ka kn kc]] w (Q1l false [] w):=by
 have hs1:Blk 134 ((w.alloc (.cells #[.int .i64 kd,.slice pa pn pc,.slice va vn vc,.slice ka kn kc] 134)).alloc (.cells #[.bool false,.slice none 0 0,.slice none 0 0] 77)) w.heap.size [.int .i64 kd,.slice pa pn pc,.slice va vn vc,.slice ka kn kc]:=(Blk.new w 134 _).alloc _
 have hz1:Blk 77 ((w.alloc (.cells #[.int .i64 kd,.slice pa pn pc,.slice va vn vc,.slice ka kn kc] 134)).alloc (.cells #[.bool false,.slice none 0 0,.slice none 0 0] 77)) (w.heap.size+1) [.bool false,.slice none 0 0,.slice none 0 0]:=by
  have:=Blk.new (w.alloc (.cells #[.int .i64 kd,.slice pa pn pc,.slice va vn vc,.slice ka kn kc] 134)) 77 [.bool false,.slice none 0 0,.slice none 0 0]
  simpa using this
 have hbel1:Below w.heap.size w ((w.alloc (.cells #[.int .i64 kd,.slice pa pn pc,.slice va vn vc,.slice ka kn kc] 134)).alloc (.cells #[.bool false,.slice none 0 0,.slice none 0 0] 77)):=(Qba _ _).alloc (by simp) _
 obtain ⟨w1,hw1⟩:∃ w1,w1=(w.alloc (.cells #[.int .i64 kd,.slice pa pn pc,.slice va vn vc,.slice ka kn kc] 134)).alloc (.cells #[.bool false,.slice none 0 0,.slice none 0 0] 77):=⟨_,rfl⟩
 rw [←hw1] at hs1 hz1 hbel1
 have hp1:=hp.below hbel1
 have Hw1:=Qhd hw1
 have Hpn:=Qhd hpn
 clear hw1
 have e0:(kd==0)=false:=by rw [beq_eq_false_iff_ne];exact h0
 have e1:(kd==1)=false:=by rw [beq_eq_false_iff_ne];exact h1
 have e2:(kd==2)=false:=by rw [beq_eq_false_iff_ne];exact h2
 have e3:(kd==3)=false:=by rw [beq_eq_false_iff_ne];exact h3
 clear h0 h1 h2 h3
 go_enter Tryz.func160,Tryz.ntmps160
 go_wp2_with fail
 rw [←Hw1.out]
 have c0:=(hs1.cell 0).trans (show _=some (Value.int .i64 kd) from rfl)
 have c1:=(hs1.cell 1).trans (show _=some (Value.slice pa pn pc) from rfl)
 have c2:=(hs1.cell 2).trans (show _=some (Value.slice va vn vc) from rfl)
 have c3:=(hs1.cell 3).trans (show _=some (Value.slice ka kn kc) from rfl)
 go_loopw [4,20] (fun t4 ix wr=>∃ k:Nat,k≤pn∧ix=.int .i64 (k:Int)∧t4=.bool (!wrongB (p.take k))∧wr=w1) (fun _ ix _=>pn - (intOf ix).toNat)
 case atStart=>exact ⟨0,by omega,rfl,by simp [wrongB],rfl⟩
 case round =>
  obtain ⟨k,hk',rfl,rfl,rfl⟩:=hrel
  by_cases hlt:k<pn
  ·have hki:(k:Int)<(pn:Int):=by omega
   obtain ⟨b,off,rfl,hc⟩:=Bytes.at hp1 k (by rw [Hpn.out];exact hlt)
   have hstep:=Q2p p k (by rw [Hpn.out];exact hlt)
   obtain ⟨x,hx⟩:∃ x,x=p[k]'(by rw [Hpn.out];exact hlt):=⟨_,rfl⟩
   rw [←hx] at hc hstep
   obtain ⟨b0,hb0⟩:∃ b0,b0=(!wrongB (p.take k)):=⟨_,rfl⟩
   obtain ⟨b1,hb1⟩:∃ b1,b1=(!wrongB (p.take (k+1))):=⟨_,rfl⟩
   rw [←hb0,←hb1] at hstep
   rw [←hb0]
   have Hb1:=Qhd hb1
   have hxd:decide ((x.toNat:Int)<16)=decide (x.toNat<16):=by
    rw [Bool.eq_iff_iff];simp only [decide_eq_true_eq];omega
   obtain ⟨bx,hbx⟩:∃ bx,bx=decide (x.toNat<16):=⟨_,rfl⟩
   rw [←hbx] at hxd hstep
   have Hstep:=Qhd hstep
   clear hstep hb0 hb1 hx hbx
   cases b0
   all_goals
    go_wp2
    go_roundw
    case rel=>exact ⟨k+1,by omega,by go_num,by rw [←Hb1.out,Hstep.out];rfl,by first|trivial|rfl⟩
    case measure=>simp [intOf];omega
  ·obtain rfl:k=pn:=by omega
   have htk:p.take k=p:=List.take_of_length_le (by rw [Hpn.out];omega)
   rw [htk]
   clear htk hp1
   go_wp2_with ((with_reducible refine Qgs 172 ?_);refine Qsa 77 2 172 (w.heap.size+1) [.bool false,.slice none 0 0,.slice none 0 0] Q0a hz1 (by rfl) (by rfl) (by intro u hu;simp at hu;rcases hu with rfl|rfl<;>rfl) (Below.refl _ _) (Nat.le_refl _) ?_;intro w5 hh5 _ hg5;have hbel5:=hbel1.grown hg5 hbel1.size (fun j hj=>by cases hj;omega))
   exact bodyPost_ret (Q04 rfl _ _ (w.heap.size+1) Q0a hh5 rfl rfl rfl) rfl ⟨false,none,0,0,[],none,0,0,[],rfl,fun h=>by simp at h,hbel5⟩
theorem Qe2 (pa va ka:Option Addr)(pn pc vn vc kn kc:Nat)(p v:List UInt8)(hpn:p.length=pn)(hvn:v.length=vn)(w:World)(hp:Bytes w (.slice pa pn pc) p)(hv:Bytes w (.slice va vn vc) v)(hP:pn≤4194304)(hV:vn≤1048576) :
  Calls Tryz.prog 160 #[.agg #[.int .i64 1,.slice pa pn pc,.slice va vn vc,.slice ka kn kc]] w (Q1l (!wrongB p&&decide (1≤vn)&&decide (vn≤1024)) (lsB [joinR (tagL p true),v]) w):=by
 have ct:=fun x h=>Qd4 pa pn pc p true hpn x h (by omega)
 have hTl:=Q4e p true
 obtain ⟨T,hT⟩:∃ T,T=joinR (tagL p true):=⟨_,rfl⟩
 obtain ⟨E,hE⟩:∃ E,E=joinE (tagL p true):=⟨_,rfl⟩
 rw [←hT] at hTl ⊢
 simp only [←hT,←hE] at ct
 obtain ⟨ok,hokk⟩:∃ ok,ok=(!wrongB p&&decide (1≤vn)&&decide (vn≤1024)):=⟨_,rfl⟩
 rw [←hokk]
 have hlT:T.length≤4194310:=by omega
 obtain ⟨tn,htn⟩:∃ tn,tn=T.length:=⟨_,rfl⟩
 have Htn:=Qhd htn
 have Ct:=Qhd ct
 have Hokk:=Qhd hokk
 have HlT:=Qhd hlT
 have Hvn:=Qhd hvn
 clear ct hT htn hTl hE hokk hlT hvn
 have hs1:Blk 134 ((w.alloc (.cells #[.int .i64 1,.slice pa pn pc,.slice va vn vc,.slice ka kn kc] 134)).alloc (.cells #[.bool false,.slice none 0 0,.slice none 0 0] 77)) w.heap.size [.int .i64 1,.slice pa pn pc,.slice va vn vc,.slice ka kn kc]:=(Blk.new w 134 _).alloc _
 have hz1:Blk 77 ((w.alloc (.cells #[.int .i64 1,.slice pa pn pc,.slice va vn vc,.slice ka kn kc] 134)).alloc (.cells #[.bool false,.slice none 0 0,.slice none 0 0] 77)) (w.heap.size+1) [.bool false,.slice none 0 0,.slice none 0 0]:=by
  have:=Blk.new (w.alloc (.cells #[.int .i64 1,.slice pa pn pc,.slice va vn vc,.slice ka kn kc] 134)) 77 [.bool false,.slice none 0 0,.slice none 0 0]
  simpa using this
 have hbel1:Below w.heap.size w ((w.alloc (.cells #[.int .i64 1,.slice pa pn pc,.slice va vn vc,.slice ka kn kc] 134)).alloc (.cells #[.bool false,.slice none 0 0,.slice none 0 0] 77)):=(Qba _ _).alloc (by simp) _
 obtain ⟨w1,hw1⟩:∃ w1,w1=(w.alloc (.cells #[.int .i64 1,.slice pa pn pc,.slice va vn vc,.slice ka kn kc] 134)).alloc (.cells #[.bool false,.slice none 0 0,.slice none 0 0] 77):=⟨_,rfl⟩
 rw [←hw1] at hs1 hz1 hbel1
 have hp1:=hp.below hbel1
 have Hw1:=Qhd hw1
 have Hpn:=Qhd hpn
 clear hw1
 go_enter Tryz.func160,Tryz.ntmps160
 go_wp2_with fail
 rw [←Hw1.out]
 have c0:=(hs1.cell 0).trans (show _=some (Value.int .i64 1) from rfl)
 have c1:=(hs1.cell 1).trans (show _=some (Value.slice pa pn pc) from rfl)
 have c2:=(hs1.cell 2).trans (show _=some (Value.slice va vn vc) from rfl)
 have c3:=(hs1.cell 3).trans (show _=some (Value.slice ka kn kc) from rfl)
 go_loopw [4,20] (fun t4 ix wr=>∃ k:Nat,k≤pn∧ix=.int .i64 (k:Int)∧t4=.bool (!wrongB (p.take k))∧wr=w1) (fun _ ix _=>pn - (intOf ix).toNat)
 case atStart=>exact ⟨0,by omega,rfl,by simp [wrongB],rfl⟩
 case round =>
  obtain ⟨k,hk',rfl,rfl,rfl⟩:=hrel
  by_cases hlt:k<pn
  ·have hki:(k:Int)<(pn:Int):=by omega
   obtain ⟨b,off,rfl,hc⟩:=Bytes.at hp1 k (by rw [Hpn.out];exact hlt)
   have hstep:=Q2p p k (by rw [Hpn.out];exact hlt)
   obtain ⟨x,hx⟩:∃ x,x=p[k]'(by rw [Hpn.out];exact hlt):=⟨_,rfl⟩
   rw [←hx] at hc hstep
   obtain ⟨b0,hb0⟩:∃ b0,b0=(!wrongB (p.take k)):=⟨_,rfl⟩
   obtain ⟨b1,hb1⟩:∃ b1,b1=(!wrongB (p.take (k+1))):=⟨_,rfl⟩
   rw [←hb0,←hb1] at hstep
   rw [←hb0]
   have Hb1:=Qhd hb1
   have hxd:decide ((x.toNat:Int)<16)=decide (x.toNat<16):=by
    rw [Bool.eq_iff_iff];simp only [decide_eq_true_eq];omega
   obtain ⟨bx,hbx⟩:∃ bx,bx=decide (x.toNat<16):=⟨_,rfl⟩
   rw [←hbx] at hxd hstep
   have Hstep:=Qhd hstep
   clear hstep hb0 hb1 hx hbx
   cases b0
   all_goals
    go_wp2
    go_roundw
    case rel=>exact ⟨k+1,by omega,by go_num,by rw [←Hb1.out,Hstep.out];rfl,by first|trivial|rfl⟩
    case measure=>simp [intOf];omega
  ·obtain rfl:k=pn:=by omega
   have htk:p.take k=p:=List.take_of_length_le (by rw [Hpn.out];omega)
   rw [htk]
   clear htk hp1
   obtain ⟨bo,hbo⟩:∃ bo,bo=(!wrongB p):=⟨_,rfl⟩
   rw [←hbo]
   have Hbo:=Qhd hbo
   clear hbo
   have h3:bo=false∨(bo=true∧vn=0)∨(bo=true∧0<vn∧¬ vn≤1024)∨(bo=true∧0<vn∧vn≤1024):=by cases bo<;>simp;omega
   rcases h3 with rfl|⟨rfl,hv0⟩|⟨rfl,hv0,hv1⟩|⟨rfl,hv0,hv1⟩
   ·go_wp2_with ((with_reducible refine Qgs 172 ?_);refine Qsa 77 2 172 (w.heap.size+1) [.bool false,.slice none 0 0,.slice none 0 0] Q0a hz1 (by rfl) (by rfl) (by intro u hu;simp at hu;rcases hu with rfl|rfl<;>rfl) (Below.refl _ _) (Nat.le_refl _) ?_;intro w5 hh5 _ hg5;have hbel5:=hbel1.grown hg5 hbel1.size (fun j hj=>by cases hj;omega))
    have hokf:ok=false:=by rw [Hokk.out,←Hbo.out];simp
    subst hokf
    exact bodyPost_ret (Q04 rfl _ _ (w.heap.size+1) Q0a hh5 rfl rfl rfl) rfl ⟨false,none,0,0,[],none,0,0,[],rfl,fun h=>by simp at h,hbel5⟩
   ·have hi0:decide ((1:Int)≤(vn:Int))=false:=by rw [decide_eq_false_iff_not];omega
    have hi2:¬ 1≤vn:=by omega
    have Hv0:=Qhd hv0
    clear hv0
    go_wp2_with ((with_reducible refine Qgs 172 ?_);refine Qsa 77 2 172 (w.heap.size+1) [.bool false,.slice none 0 0,.slice none 0 0] Q0a hz1 (by rfl) (by rfl) (by intro u hu;simp at hu;rcases hu with rfl|rfl<;>rfl) (Below.refl _ _) (Nat.le_refl _) ?_;intro w5 hh5 _ hg5;have hbel5:=hbel1.grown hg5 hbel1.size (fun j hj=>by cases hj;omega))
    have hokf:ok=false:=by rw [Hokk.out,Hv0.out];simp
    subst hokf
    exact bodyPost_ret (Q04 rfl _ _ (w.heap.size+1) Q0a hh5 rfl rfl rfl) rfl ⟨false,none,0,0,[],none,0,0,[],rfl,fun h=>by simp at h,hbel5⟩
   ·have hi0:(1:Int)≤(vn:Int):=by omega
    have hi1:decide ((vn:Int)≤1024)=false:=by rw [decide_eq_false_iff_not];omega
    go_wp2_with ((with_reducible refine Qgs 172 ?_);refine Qsa 77 2 172 (w.heap.size+1) [.bool false,.slice none 0 0,.slice none 0 0] Q0a hz1 (by rfl) (by rfl) (by intro u hu;simp at hu;rcases hu with rfl|rfl<;>rfl) (Below.refl _ _) (Nat.le_refl _) ?_;intro w5 hh5 _ hg5;have hbel5:=hbel1.grown hg5 hbel1.size (fun j hj=>by cases hj;omega))
    have hokf:ok=false:=by rw [Hokk.out];simp [hv1]
    subst hokf
    exact bodyPost_ret (Q04 rfl _ _ (w.heap.size+1) Q0a hh5 rfl rfl rfl) rfl ⟨false,none,0,0,[],none,0,0,[],rfl,fun h=>by simp at h,hbel5⟩
   ·have hi0:(1:Int)≤(vn:Int):=by omega
    have hi1:(vn:Int)≤1024:=by omega
    go_wp2_with (go_at_call 167;refine (Ct.out _ (hp.below hbel1)).mono ?_;rintro e w2 ⟨tv,rfl,ht2,b2⟩;have hs2:=hs1.kept b2;have hz2:=hz1.kept b2;have hbel2:=Below.then hbel1 b2;obtain ⟨ga,gc,rfl,_⟩:=ht2.form' tn Htn.out.symm)
    have hv2:=hv.below hbel2
    have d1:=fun x=>Q2d ga tn gc x
    have d2:=fun x=>Q2d va vn vc x
    have D1:=Qhd d1
    have D2:=Qhd d2
    clear d1 d2
    have k2:=fun u:Ext w2=>u.cell ((hs2.cell 2).trans (show _=some (Value.slice va vn vc) from rfl))
    refine Q02 w2 7 (by kernel_rfl) (by kernel_rfl) (Below.refl _ _) ?_;simp only [List.take_succ_cons,List.take_zero,List.take_nil]
    (refine Q01 (by rfl) (fun K hK=>?_);go_simp;refine hK _ ?_;clear hK K)
    (refine Q01 (by rfl) (fun K hK=>?_);go_simp;first|(refine hK _ ?_;clear hK K)|(apply Exists.intro;refine ⟨fun _=>?_,hK _ ?_⟩;exact D1.out _;clear hK K))
    iterate 2 (refine Q01 (by rfl) (fun K hK=>?_);go_simp;refine hK _ ?_;clear hK K)
    (refine Q01 (by rfl) (fun K hK=>?_);go_simp;first|(refine hK _ ?_;clear hK K)|(apply Exists.intro;refine ⟨fun _=>?_,hK _ ?_⟩;exact D2.out _;clear hK K))
    refine Q07 65 (PairB w2.heap.size (.slice ga tn gc) (.slice va vn vc) T v) rfl (of_decide_eq_true rfl) (PairB.mono _ _ _ _ _) (fun w3 hw3=>?_) ?_
    ·simp only [relOf,List.filter_nil,Q00]
     refine ⟨rfl,?_⟩
     go_simp
     exact ⟨Qba _ _,w3.heap.size,rfl,hw3.size,Row.built Q0p w3 77 [txt (.slice ga tn gc) T,txt (.slice va vn vc) v] 2 rfl (by unfold maxLen;omega)⟩
    refine Q07 66 (ListTT w2.heap.size (.slice ga tn gc) (.slice va vn vc) T v) rfl (of_decide_eq_true rfl) (ListTT.mono _ _ _ _ _) (fun w3 hw3=>?_) ?_
    ·change Q00 w3 [(65,_)] _ _
     rintro v33 ⟨g,rfl,hg0,hr⟩
     simp only [Q00]
     refine ⟨rfl,?_⟩
     go_simp
     refine (Q49 _ 2 2 w3).mono ?_
     rintro e w4 ⟨rfl,b4⟩
     exact ⟨_,rfl,⟨g,rfl,hg0,RowOf.kept hr b4⟩,b4⟩
    refine Q09 ?_
    intro u2 hb2 vA _ vB hB76
    change wpList _ _ _ [_,_] _ _
    obtain ⟨g,rfl,hg0,hr⟩:=hB76
    have hz3:=hz2.kept hb2
    have hbel3:=Below.then hbel2 hb2
    have ht3:=ht2.below hb2
    clear k2
    go_wp2_with ((with_reducible show wpList _ _ _ (⟨none,.store _ _ _,_,_,_,_⟩::_) _ _);refine Qsa 77 2 66 (w.heap.size+1) [.bool true,.slice none 0 0,.slice (some ⟨g,0,none⟩) 2 2] Q0a hz3 (by rfl) (by rfl) (by intro u hu;simp at hu;rcases hu with rfl|rfl|rfl<;>rfl) (Below.refl _ _) (Nat.le_refl _) ?_;intro w5 hh5 _ hg5;have hbel5:=hbel3.grown hg5 hbel3.size (fun j hj=>by cases hj;omega))
    have ht5:=Bytes.off ht3 hz3 (by intro u hu k;simp at hu;rcases hu with rfl|rfl|rfl<;>simp) hg5
    have hv5:=hv.below hbel5
    have hr5:=RowOf.grownNe hr hg5 (by have:=hz2.lt;omega)
    have hokt:ok=true:=by rw [Hokk.out,←Hbo.out];simp [show 1≤vn from hv0,hv1]
    subst hokt
    refine bodyPost_ret (Q04 rfl _ _ (w.heap.size+1) Q0a hh5 rfl rfl rfl) rfl ⟨true,none,0,0,[],some ⟨g,0,none⟩,2,2,[txt (.slice ga tn gc) T,txt (.slice va vn vc) v],rfl,fun _=>⟨?_,?_,?_⟩,hbel5⟩
    ·exact IsItm.lst hr5 (Q4o (ps:=[(.slice ga tn gc,T),(.slice va vn vc,v)]) (by intro p hp;simp at hp;rcases hp with rfl|rfl;exact ht5;exact hv5))
    ·exact Q19 _ [(.slice ga tn gc,T),(.slice va vn vc,v)]
    ·refine Nat.le_trans (Nat.le_of_eq (Q2m _ (txts [(.slice ga tn gc,T),(.slice va vn vc,v)]))) ?_
     rw [Q1w]
     have:=HlT.out
     have:=Hvn.out
     simp;omega
theorem Qe0 (pa va ka:Option Addr)(pn pc vn vc kn kc:Nat)(p:List UInt8)(ps:List (Value × List UInt8))(hpn:p.length=pn)(hkn:ps.length=kn)(w:World)(hp:Bytes w (.slice pa pn pc) p)(hk:Texts w (.slice ka kn kc) ps)(hP:pn≤4194304)(hK:kn≤1048576)(hKs:∀ q∈ps,q.2.length≤1048576) :
  Calls Tryz.prog 160 #[.agg #[.int .i64 2,.slice pa pn pc,.slice va vn vc,.slice ka kn kc]] w (Q1l (!wrongB p&&decide (1≤pn)&&decide (kn=1)&&decide (((ps.map (·.2))[0]?.getD []).length=32)) (lsB [joinR (tagL p false),(ps.map (·.2))[0]?.getD []]) w):=by
 have ct:=fun x h=>Qd4 pa pn pc p false hpn x h (by omega)
 have hTl:=Q4e p false
 obtain ⟨T,hT⟩:∃ T,T=joinR (tagL p false):=⟨_,rfl⟩
 obtain ⟨E,hE⟩:∃ E,E=joinE (tagL p false):=⟨_,rfl⟩
 rw [←hT] at hTl ⊢
 simp only [←hT,←hE] at ct
 obtain ⟨ok,hokk⟩:∃ ok,ok=(!wrongB p&&decide (1≤pn)&&decide (kn=1)&&decide (((ps.map (·.2))[0]?.getD []).length=32)):=⟨_,rfl⟩
 rw [←hokk]
 obtain ⟨B,hB⟩:∃ B,B=lsB [T,(ps.map (·.2))[0]?.getD []]:=⟨_,rfl⟩
 rw [←hB]
 have hlT:T.length≤4194310:=by omega
 obtain ⟨tn,htn⟩:∃ tn,tn=T.length:=⟨_,rfl⟩
 have Htn:=Qhd htn
 have Ct:=Qhd ct
 have Hokk:=Qhd hokk
 have HlT:=Qhd hlT
 have Hkn:=Qhd hkn
 have HB:=Qhd hB
 clear ct hT htn hTl hE hokk hlT hkn hB
 have hs1:Blk 134 ((w.alloc (.cells #[.int .i64 2,.slice pa pn pc,.slice va vn vc,.slice ka kn kc] 134)).alloc (.cells #[.bool false,.slice none 0 0,.slice none 0 0] 77)) w.heap.size [.int .i64 2,.slice pa pn pc,.slice va vn vc,.slice ka kn kc]:=(Blk.new w 134 _).alloc _
 have hz1:Blk 77 ((w.alloc (.cells #[.int .i64 2,.slice pa pn pc,.slice va vn vc,.slice ka kn kc] 134)).alloc (.cells #[.bool false,.slice none 0 0,.slice none 0 0] 77)) (w.heap.size+1) [.bool false,.slice none 0 0,.slice none 0 0]:=by
  have:=Blk.new (w.alloc (.cells #[.int .i64 2,.slice pa pn pc,.slice va vn vc,.slice ka kn kc] 134)) 77 [.bool false,.slice none 0 0,.slice none 0 0]
  simpa using this
 have hbel1:Below w.heap.size w ((w.alloc (.cells #[.int .i64 2,.slice pa pn pc,.slice va vn vc,.slice ka kn kc] 134)).alloc (.cells #[.bool false,.slice none 0 0,.slice none 0 0] 77)):=(Qba _ _).alloc (by simp) _
 obtain ⟨w1,hw1⟩:∃ w1,w1=(w.alloc (.cells #[.int .i64 2,.slice pa pn pc,.slice va vn vc,.slice ka kn kc] 134)).alloc (.cells #[.bool false,.slice none 0 0,.slice none 0 0] 77):=⟨_,rfl⟩
 rw [←hw1] at hs1 hz1 hbel1
 have hp1:=hp.below hbel1
 have Hw1:=Qhd hw1
 have Hpn:=Qhd hpn
 clear hw1
 go_enter Tryz.func160,Tryz.ntmps160
 go_wp2_with fail
 rw [←Hw1.out]
 have c0:=(hs1.cell 0).trans (show _=some (Value.int .i64 2) from rfl)
 have c1:=(hs1.cell 1).trans (show _=some (Value.slice pa pn pc) from rfl)
 have c2:=(hs1.cell 2).trans (show _=some (Value.slice va vn vc) from rfl)
 have c3:=(hs1.cell 3).trans (show _=some (Value.slice ka kn kc) from rfl)
 go_loopw [4,20] (fun t4 ix wr=>∃ k:Nat,k≤pn∧ix=.int .i64 (k:Int)∧t4=.bool (!wrongB (p.take k))∧wr=w1) (fun _ ix _=>pn - (intOf ix).toNat)
 case atStart=>exact ⟨0,by omega,rfl,by simp [wrongB],rfl⟩
 case round =>
  obtain ⟨k,hk',rfl,rfl,rfl⟩:=hrel
  by_cases hlt:k<pn
  ·have hki:(k:Int)<(pn:Int):=by omega
   obtain ⟨b,off,rfl,hc⟩:=Bytes.at hp1 k (by rw [Hpn.out];exact hlt)
   have hstep:=Q2p p k (by rw [Hpn.out];exact hlt)
   obtain ⟨x,hx⟩:∃ x,x=p[k]'(by rw [Hpn.out];exact hlt):=⟨_,rfl⟩
   rw [←hx] at hc hstep
   obtain ⟨b0,hb0⟩:∃ b0,b0=(!wrongB (p.take k)):=⟨_,rfl⟩
   obtain ⟨b1,hb1⟩:∃ b1,b1=(!wrongB (p.take (k+1))):=⟨_,rfl⟩
   rw [←hb0,←hb1] at hstep
   rw [←hb0]
   have Hb1:=Qhd hb1
   have hxd:decide ((x.toNat:Int)<16)=decide (x.toNat<16):=by
    rw [Bool.eq_iff_iff];simp only [decide_eq_true_eq];omega
   obtain ⟨bx,hbx⟩:∃ bx,bx=decide (x.toNat<16):=⟨_,rfl⟩
   rw [←hbx] at hxd hstep
   have Hstep:=Qhd hstep
   clear hstep hb0 hb1 hx hbx
   cases b0
   all_goals
    go_wp2
    go_roundw
    case rel=>exact ⟨k+1,by omega,by go_num,by rw [←Hb1.out,Hstep.out];rfl,by first|trivial|rfl⟩
    case measure=>simp [intOf];omega
  ·obtain rfl:pn=k:=by omega
   have htk:p.take pn=p:=List.take_of_length_le (by rw [Hpn.out];omega)
   rw [htk]
   clear htk hp1
   obtain ⟨bo,hbo⟩:∃ bo,bo=(!wrongB p):=⟨_,rfl⟩
   rw [←hbo]
   have Hbo:=Qhd hbo
   clear hbo
   have h3:bo=false∨(bo=true∧pn=0)∨(bo=true∧0<pn∧kn≠1)∨(bo=true∧0<pn∧kn=1):=by cases bo<;>simp;omega
   rcases h3 with rfl|⟨rfl,hp0⟩|⟨rfl,hp0,hk1⟩|⟨rfl,hp0,hk1⟩
   ·clear hk hKs
    go_wp2_with ((with_reducible refine Qgs 172 ?_);refine Qsa 77 2 172 (w.heap.size+1) [.bool false,.slice none 0 0,.slice none 0 0] Q0a hz1 (by rfl) (by rfl) (by intro u hu;simp at hu;rcases hu with rfl|rfl<;>rfl) (Below.refl _ _) (Nat.le_refl _) ?_;intro w5 hh5 _ hg5;have hbel5:=hbel1.grown hg5 hbel1.size (fun j hj=>by cases hj;omega))
    have hokf:ok=false:=by rw [Hokk.out,←Hbo.out];simp
    subst hokf
    exact bodyPost_ret (Q04 rfl _ _ (w.heap.size+1) Q0a hh5 rfl rfl rfl) rfl ⟨false,none,0,0,[],none,0,0,[],rfl,fun h=>by simp at h,hbel5⟩
   ·have hi0:decide ((1:Int)≤(pn:Int))=false:=by rw [decide_eq_false_iff_not];omega
    have hi2:¬ 1≤pn:=by omega
    have Hp0:=Qhd hp0
    clear hp0 hk hKs
    go_wp2_with ((with_reducible refine Qgs 172 ?_);refine Qsa 77 2 172 (w.heap.size+1) [.bool false,.slice none 0 0,.slice none 0 0] Q0a hz1 (by rfl) (by rfl) (by intro u hu;simp at hu;rcases hu with rfl|rfl<;>rfl) (Below.refl _ _) (Nat.le_refl _) ?_;intro w5 hh5 _ hg5;have hbel5:=hbel1.grown hg5 hbel1.size (fun j hj=>by cases hj;omega))
    have hokf:ok=false:=by rw [Hokk.out,Hp0.out];simp
    subst hokf
    exact bodyPost_ret (Q04 rfl _ _ (w.heap.size+1) Q0a hh5 rfl rfl rfl) rfl ⟨false,none,0,0,[],none,0,0,[],rfl,fun h=>by simp at h,hbel5⟩
   ·have hi0:(1:Int)≤(pn:Int):=by omega
    have hke:((kn:Int)==1)=false:=by rw [beq_eq_false_iff_ne];omega
    have Hk1:=Qhd hk1
    clear hk1 hk hKs
    go_wp2_with ((with_reducible refine Qgs 172 ?_);refine Qsa 77 2 172 (w.heap.size+1) [.bool false,.slice none 0 0,.slice none 0 0] Q0a hz1 (by rfl) (by rfl) (by intro u hu;simp at hu;rcases hu with rfl|rfl<;>rfl) (Below.refl _ _) (Nat.le_refl _) ?_;intro w5 hh5 _ hg5;have hbel5:=hbel1.grown hg5 hbel1.size (fun j hj=>by cases hj;omega))
    have hokf:ok=false:=by rw [Hokk.out];simp [Hk1.out]
    subst hokf
    exact bodyPost_ret (Q04 rfl _ _ (w.heap.size+1) Q0a hh5 rfl rfl rfl) rfl ⟨false,none,0,0,[],none,0,0,[],rfl,fun h=>by simp at h,hbel5⟩
   ·have hi0:(1:Int)≤(pn:Int):=by omega
    obtain ⟨q,hq⟩:∃ q,ps=[q]:=List.length_eq_one_iff.1 (Hkn.out.trans hk1)
    subst hq
    subst hk1
    obtain ⟨kb,koff,q',rfl,hq',hkc,hkq⟩:=Texts.at hk 0 (by simp)
    obtain rfl:q=q':=by simpa using hq'
    obtain ⟨qv,ql⟩:=q
    simp only at hkc hkq
    obtain ⟨qa,qc,rfl,_,hqm⟩:=hkq.form
    have hql:ql.length≤1048576:=hKs (.slice qa ql.length qc,ql) (by simp)
    obtain ⟨qn,hqn⟩:∃ qn,qn=ql.length:=⟨_,rfl⟩
    rw [←hqn] at hkc hkq hql
    rw [Nat.add_zero] at hkc
    have hlt0:=World.block_lt_of_cell? w _ hkc
    have hkc1:=(hbel1.cell (p:=⟨kb,koff,none⟩) hlt0).trans hkc
    have hgq:∀ qv:Value,((List.map (fun p:Value × List UInt8=>p.2) [(qv,ql)])[0]?.getD [])=ql:=fun _=>rfl
    have hB0:=HB.out
    have hok0:=Hokk.out
    rw [hgq,←Hbo.out,←hqn] at hok0
    rw [hgq] at hB0
    have Hqn:=Qhd hqn
    have HB0:=Qhd hB0
    by_cases h32:qn=32
    ·have hok1:ok=true:=by rw [hok0];simp [h32,show 1≤pn from hp0]
     have Hok1:=Qhd hok1
     have hqe:((qn:Int)==32)=true:=by rw [beq_iff_eq];omega
     clear hk hKs hok0 hok1 hgq hB0 hqn h32 hp0
     go_wp2_with (go_at_call 167;refine (Ct.out _ (hp.below hbel1)).mono ?_;rintro e w2 ⟨tv,rfl,ht2,b2⟩;have hs2:=hs1.kept b2;have hz2:=hz1.kept b2;have hbel2:=Below.then hbel1 b2;obtain ⟨ga,gc,rfl,_⟩:=ht2.form' tn Htn.out.symm)
     have hv2:=hkq.below hbel2
     have d1:=fun x=>Q2d ga tn gc x
     have d2:=fun x=>Q2d qa qn qc x
     have D1:=Qhd d1
     have D2:=Qhd d2
     clear d1 d2
     have k3:=fun u:Ext w2=>u.cell ((hs2.cell 3).trans (show _=some (Value.slice (some ⟨kb,koff,none⟩) 1 kc) from rfl))
     have k4:=fun u:Ext w2=>u.cell ((hbel2.cell (p:=⟨kb,koff,none⟩) hlt0).trans hkc)
     refine Q02 w2 9 (by kernel_rfl) (by kernel_rfl) (Below.refl _ _) ?_;simp only [List.take_succ_cons,List.take_zero,List.take_nil]
     (refine Q01 (by rfl) (fun K hK=>?_);go_simp;refine hK _ ?_;clear hK K)
     (refine Q01 (by rfl) (fun K hK=>?_);go_simp;first|(refine hK _ ?_;clear hK K)|(apply Exists.intro;refine ⟨fun _=>?_,hK _ ?_⟩;exact D1.out _;clear hK K))
     iterate 4 (refine Q01 (by rfl) (fun K hK=>?_);go_simp;refine hK _ ?_;clear hK K)
     (refine Q01 (by rfl) (fun K hK=>?_);go_simp;first|(refine hK _ ?_;clear hK K)|(apply Exists.intro;refine ⟨fun _=>?_,hK _ ?_⟩;exact D2.out _;clear hK K))
     refine Q07 107 (PairB w2.heap.size (.slice ga tn gc) (.slice qa qn qc) T ql) rfl (of_decide_eq_true rfl) (PairB.mono _ _ _ _ _) (fun w3 hw3=>?_) ?_
     ·simp only [relOf,List.filter_nil,Q00]
      refine ⟨rfl,?_⟩
      go_simp
      exact ⟨Qba _ _,w3.heap.size,rfl,hw3.size,Row.built Q0p w3 77 [txt (.slice ga tn gc) T,txt (.slice qa qn qc) ql] 2 rfl (by unfold maxLen;omega)⟩
     refine Q07 108 (ListTT w2.heap.size (.slice ga tn gc) (.slice qa qn qc) T ql) rfl (of_decide_eq_true rfl) (ListTT.mono _ _ _ _ _) (fun w3 hw3=>?_) ?_
     ·change Q00 w3 [(107,_)] _ _
      rintro v33 ⟨g,rfl,hg0,hr⟩
      simp only [Q00]
      refine ⟨rfl,?_⟩
      go_simp
      refine (Q49 _ 2 2 w3).mono ?_
      rintro e w4 ⟨rfl,b4⟩
      exact ⟨_,rfl,⟨g,rfl,hg0,RowOf.kept hr b4⟩,b4⟩
     refine Q09 ?_
     intro u2 hb2 vA _ vB hB76
     change wpList _ _ _ [_,_] _ _
     obtain ⟨g,rfl,hg0,hr⟩:=hB76
     have hz3:=hz2.kept hb2
     have hbel3:=Below.then hbel2 hb2
     have ht3:=ht2.below hb2
     clear k3 k4
     go_wp2_with ((with_reducible show wpList _ _ _ (⟨none,.store _ _ _,_,_,_,_⟩::_) _ _);refine Qsa 77 2 108 (w.heap.size+1) [.bool true,.slice none 0 0,.slice (some ⟨g,0,none⟩) 2 2] Q0a hz3 (by rfl) (by rfl) (by intro u hu;simp at hu;rcases hu with rfl|rfl|rfl<;>rfl) (Below.refl _ _) (Nat.le_refl _) ?_;intro w5 hh5 _ hg5;have hbel5:=hbel3.grown hg5 hbel3.size (fun j hj=>by cases hj;omega))
     have ht5:=Bytes.off ht3 hz3 (by intro u hu k;simp at hu;rcases hu with rfl|rfl|rfl<;>simp) hg5
     have hv5:=hkq.below hbel5
     have hr5:=RowOf.grownNe hr hg5 (by have:=hz2.lt;omega)
     have hokt:ok=true:=Hok1.out
     subst hokt
     refine bodyPost_ret (Q04 rfl _ _ (w.heap.size+1) Q0a hh5 rfl rfl rfl) rfl ⟨true,none,0,0,[],some ⟨g,0,none⟩,2,2,[txt (.slice ga tn gc) T,txt (.slice qa qn qc) ql],rfl,fun _=>⟨?_,?_,?_⟩,hbel5⟩
     ·exact IsItm.lst hr5 (Q4o (ps:=[(.slice ga tn gc,T),(.slice qa qn qc,ql)]) (by intro p hp;simp at hp;rcases hp with rfl|rfl;exact ht5;exact hv5))
     ·rw [HB0.out];exact Q19 _ [(.slice ga tn gc,T),(.slice qa qn qc,ql)]
     ·refine Nat.le_trans (Nat.le_of_eq (Q2m _ (txts [(.slice ga tn gc,T),(.slice qa qn qc,ql)]))) ?_
      rw [Q1w]
      have:=HlT.out
      have:=Hqn.out
      simp;omega

    ·have hok1:ok=false:=by rw [hok0];simp [h32]
     have Hok1:=Qhd hok1
     have hqe:((qn:Int)==32)=false:=by rw [beq_eq_false_iff_ne];omega
     clear hk hKs hok0 hok1 hgq hB0 hqn h32 hp0
     go_wp2_with ((with_reducible refine Qgs 172 ?_);refine Qsa 77 2 172 (w.heap.size+1) [.bool false,.slice none 0 0,.slice none 0 0] Q0a hz1 (by rfl) (by rfl) (by intro u hu;simp at hu;rcases hu with rfl|rfl<;>rfl) (Below.refl _ _) (Nat.le_refl _) ?_;intro w5 hh5 _ hg5;have hbel5:=hbel1.grown hg5 hbel1.size (fun j hj=>by cases hj;omega))
     have hokf:ok=false:=Hok1.out
     subst hokf
     exact bodyPost_ret (Q04 rfl _ _ (w.heap.size+1) Q0a hh5 rfl rfl rfl) rfl ⟨false,none,0,0,[],none,0,0,[],rfl,fun h=>by simp at h,hbel5⟩
theorem RowOf.grownO {α:Type}{f:α→List Value}{size:Nat}{w w':World}{b off n c:Nat}{s:Option Nat}{row:Option Nat}{l:List α}(h:RowOf f size w (.slice (some ⟨b,off,s⟩) n c) l)(hg:w.grownBy w' row)(hne:row≠some b):RowOf f size w' (.slice (some ⟨b,off,s⟩) n c) l:=by
 obtain ⟨h0,a,c',hv,h1,h2,h3⟩:=h
 simp only [Value.slice.injEq] at hv
 obtain ⟨rfl,hn,rfl⟩:=hv
 refine ⟨h0,_,_,by rw [hn],h1,h2,?_⟩
 rcases h3 with ⟨h4,_⟩|⟨b',off',s',he,hs,hc⟩
 ·simp at h4
 ·simp only [Option.some.injEq,Addr.mk.injEq] at he
  obtain ⟨rfl,rfl,rfl⟩:=he
  refine .inr ⟨_,_,_,rfl,hs,fun j u hu=>?_⟩
  have hcc:=hc j u hu
  have hlt:=World.block_lt_of_cell? w _ hcc
  rw [←hcc]
  exact World.cell?_of_block (w:=w) (hg.block b hlt (fun e=>hne e.symm))
theorem Q1z {α:Type}{f:α→List Value}{P:Program}{w:World}{ops:Array Oper}{o:Oper}{a:Act}{K:Act→World→Prop}{Q:Exit→Act→World→Prop}{E:Prop}(hgd:o.guard=none)(s x:Operand)(t:TypeId)
  (ho:o.op=.call { callee:=.builtin .append,args:=#[s,x],argTypes:=#[t,t] })
  {e:TypeId} {z:Value} {size bytes:Nat}(el:El0 P t e z size bytes f) {B:Nat}
  {v:Value} {l m:List α}(h1:∀ u∈m.flatMap f,u.oneCell'=true) (hs:a.eval s=v) (hown:OwnOf f size e w B v l)
  {u:Value}(hx:a.eval x=u) (hrow:RowOf f size w u m) (hB:B≤w.heap.size)
  (hbytes:(l.length+m.length)*bytes≤140737488355328) (h63:l.length+m.length≤maxLen)
  (h:∀ v' w',OwnOf f size e w' B v' (l++m)→w.grownBy w' v.ownBlock→K (a.put o.dst v') w'):if Region.wanted o (yielded ops a.tmps) then o.wp P a w K Q else E:=by
 have hw:Region.wanted o (yielded ops a.tmps)=true:=by simp [Region.wanted,hgd]
 rw [if_pos hw]
 obtain ⟨i,hi,hz,hsi,hby⟩:=el.info
 obtain ⟨h0,ad,c,rfl,_,_,h3⟩:=hrow
 rcases h3 with ⟨rfl,hm,rfl⟩|⟨b,off,sp,rfl,hsp,h3⟩
 ·obtain rfl:m=[]:=List.eq_nil_of_length_eq_zero hm
  have hrun:=run_append_owned_none (P:=P) (w:=w) B t o.type e i size el.ht hi v _ _ hown
  have hh:=h v w (by simpa using hown) ⟨rfl,rfl,rfl,Nat.le_refl _,fun _ _ _=>rfl⟩
  unfold Oper.wp
  simp only [List.length_nil] at hx
  simp [execOp,ho,resolve,invoke,builtin,hs,hx,hrun,Result.andThen]
  exact hh
 ·have hnews:∀ j y,(m.flatMap f)[j]?=some y→w.cell? ((⟨b,off,sp⟩:Addr).add j)=some y:=by
   intro j y hy
   by_cases hm:m.length=0
   ·obtain rfl:m=[]:=List.eq_nil_of_length_eq_zero hm
    simp at hy
   ·obtain rfl:sp=none:=hsp.resolve_right hm
    have hadd:(⟨b,off,none⟩:Addr).add j=⟨b,off+j,none⟩:=by unfold Addr.add;split<;>simp_all
    rw [hadd];exact h3 j y hy
  obtain ⟨v',w',hr,k1,k2,_,_⟩:=run_append_own_at (P:=P) w B t o.type e i z size bytes el.ht hi hz hsi hby el.hzs el.hsz v _ _ hown ⟨b,off,sp⟩ _ c _ h0 hnews h1 h63 hbytes hB
  unfold Oper.wp execOp
  simp only [ho,resolve,invoke,builtin,Sem.run_bind,Sem.run_pure,Result.andThen_ok,List.map_toArray,List.map_cons,List.map_nil,hs,hx,hr]
  exact h v' w' (by unfold OwnOf;rw [List.length_append,List.flatMap_append];exact k1) k2
theorem elText:El0 Tryz.prog 44 25 (.slice none 0 0) 1 24 tcell:=⟨by kernel_rfl,by kernel_rfl,rfl,by omega,fun _=>rfl⟩
theorem Q0y {w:World}{ps:List (Value × List UInt8)}(h:∀ p∈ps,Bytes w p.1 p.2):∀ u∈ps.flatMap tcell,u.oneCell'=true:=by
 intro u hu
 obtain ⟨p,hp,hu⟩:=List.mem_flatMap.1 hu
 obtain ⟨a,c,hf,_,_⟩:=RowOf.form (h p hp)
 simp only [tcell,List.mem_singleton] at hu
 rw [hu,hf];rfl
def Cell2 (p q:Addr)(v x:Value)(u:World):Prop:=CellAt p v u∧CellAt q x u
theorem Cell2.below {p q:Addr}{v x:Value}{u u':World}(h:Cell2 p q v x u)(hb:Below u.heap.size u u'):Cell2 p q v x u':=⟨h.1.below hb,h.2.below hb⟩
theorem CellAt.grownO {p:Addr}{v:Value}{u u':World}{row:Option Nat}(h:CellAt p v u)(hg:u.grownBy u' row)(hne:row≠some p.block):CellAt p v u':=by
 unfold CellAt at h ⊢
 have hlt:=World.block_lt_of_cell? u _ h
 rw [←h]
 exact World.cell?_of_block (w:=u) (hg.block p.block hlt (fun e=>hne e.symm))
structure FkX (w:World)(g4 Bs gq cq:Nat)(box:List Value)(qs:List (Value × List UInt8))(kv:Value)(its:List Itm)(u:World):Prop where
 hs:Blk 134 u w.heap.size box
 hz:Blk 77 u (w.heap.size+1) [.bool false,.slice none 0 0,.slice none 0 0]
 hi:Blk 77 u g4 [.bool true,.slice none 0 0,kv]
 hO:OwnOf icells 3 77 u Bs kv its
 hb:Below w.heap.size w u
 hg:w.heap.size+1<g4
 hB:g4<Bs
 hr:RowOf tcell 1 u (.slice (some ⟨gq,0,none⟩) 17 cq) qs
 hq:gq<Bs
 hq4:gq≠g4
theorem FkX.kept {w u u':World}{g4 Bs gq cq:Nat}{box:List Value}{qs:List (Value × List UInt8)}{kv:Value}{its:List Itm}(h:FkX w g4 Bs gq cq box qs kv its u)(hb:Below u.heap.size u u'):FkX w g4 Bs gq cq box qs kv its u' :=
 ⟨h.hs.kept hb,h.hz.kept hb,h.hi.kept hb,h.hO.kept hb,Below.then h.hb hb,h.hg,h.hB,h.hr.kept hb,h.hq,h.hq4⟩
theorem FkX.grew {w u u':World}{g4 Bs gq cq:Nat}{box:List Value}{qs:List (Value × List UInt8)}{kv kv':Value}{its its':List Itm}(h:FkX w g4 Bs gq cq box qs kv its u)(hg:u.grownBy u' kv.ownBlock)(hO:OwnOf icells 3 77 u' Bs kv' its') :
  FkX w g4 Bs gq cq box qs kv' its' (u'.setCell ⟨g4,2,none⟩ kv'):=by
 have hg4:=h.hg
 have hB:=h.hB
 have hq:=h.hq
 have hne:∀ b,b<Bs→kv.ownBlock≠some b:=fun b hb e=>by have:=(World.ownsRow.lt h.hO b e).1;omega
 have hs:=h.hs.grown hg (hne _ (by omega))
 have hz:=h.hz.grown hg (hne _ (by omega))
 have hi:=h.hi.grown hg (hne _ hB)
 have hb:=h.hb.grown hg h.hb.size (fun k hk=>by have:=(World.ownsRow.lt h.hO k hk).1;omega)
 refine ⟨hs.other _ (by simp;omega) _,hz.other _ (by simp;omega) _,hi.set 2 kv',hO.grown (Q0r 2 kv') (fun k hk e=>?_),hb.setCell (by show w.heap.size≤g4;omega) _,hg4,hB,RowOf.grownNe (RowOf.grownO h.hr hg (hne _ hq)) (Q0r 2 kv') h.hq4,hq,h.hq4⟩
 cases hk
 have:=(World.ownsRow.lt hO _ e).1
 omega
theorem Qls {w:World}{B g:Nat}{c:Nat}(h:OwnOf tcell 1 25 w B (.slice (some ⟨g,0,none⟩) 0 c) []):g<w.heap.size:=(World.ownsRow.lt h g rfl).2
theorem Qjq {α:Type}{f:α→List Value}{size:Nat}{e:TypeId}{w:World}{B n c:Nat}{a:Option Addr}{l:List α}(h:OwnOf f size e w B (.slice a n c) l)(hn:0<n):∃ g,a=some ⟨g,0,none⟩∧B≤g∧g<w.heap.size:=by
 rcases h.2 with ⟨h1,_⟩|⟨g,cap,cur,h1,hB,hg,_⟩
 ·simp at h1;omega
 ·simp only [Value.slice.injEq] at h1
  exact ⟨g,h1.1,hB,(Array.getElem?_eq_some_iff.1 hg).1⟩
theorem Qe3 (pa va ka:Option Addr)(pn pc vn vc kn kc:Nat)(p v:List UInt8)(ps:List (Value × List UInt8))(hpn:p.length=pn)(hvn:v.length=vn)(hkn:ps.length=kn)(w:World)(hp:Bytes w (.slice pa pn pc) p)(hv:Bytes w (.slice va vn vc) v)(hk:Texts w (.slice ka kn kc) ps)(hP:pn≤4194304)(hV:vn≤1048576)(hKs:∀ q∈ps,q.2.length≤1048576) :
  Calls Tryz.prog 160 #[.agg #[.int .i64 3,.slice pa pn pc,.slice va vn vc,.slice ka kn kc]] w (Q1l (decide (kn=16)&&decide (vn≤1024)&&((ps.map (·.2)).all fun t=>sumOk t.length true)&&decide (2≤manyB v (ps.map (·.2)))) (lsB (ps.map (·.2)++[v])) w):=by
 obtain ⟨ok,hokk⟩:∃ ok,ok=(decide (kn=16)&&decide (vn≤1024)&&((ps.map (·.2)).all fun t=>sumOk t.length true)&&decide (2≤manyB v (ps.map (·.2)))):=⟨_,rfl⟩
 rw [←hokk]
 have Hokk:=Qhd hokk
 have Hvn:=Qhd hvn
 have Hkn:=Qhd hkn
 clear hokk hvn hkn
 have hs1:Blk 134 ((w.alloc (.cells #[.int .i64 3,.slice pa pn pc,.slice va vn vc,.slice ka kn kc] 134)).alloc (.cells #[.bool false,.slice none 0 0,.slice none 0 0] 77)) w.heap.size [.int .i64 3,.slice pa pn pc,.slice va vn vc,.slice ka kn kc]:=(Blk.new w 134 _).alloc _
 have hz1:Blk 77 ((w.alloc (.cells #[.int .i64 3,.slice pa pn pc,.slice va vn vc,.slice ka kn kc] 134)).alloc (.cells #[.bool false,.slice none 0 0,.slice none 0 0] 77)) (w.heap.size+1) [.bool false,.slice none 0 0,.slice none 0 0]:=by
  have:=Blk.new (w.alloc (.cells #[.int .i64 3,.slice pa pn pc,.slice va vn vc,.slice ka kn kc] 134)) 77 [.bool false,.slice none 0 0,.slice none 0 0]
  simpa using this
 have hbel1:Below w.heap.size w ((w.alloc (.cells #[.int .i64 3,.slice pa pn pc,.slice va vn vc,.slice ka kn kc] 134)).alloc (.cells #[.bool false,.slice none 0 0,.slice none 0 0] 77)):=(Qba _ _).alloc (by simp) _
 obtain ⟨w1,hw1⟩:∃ w1,w1=(w.alloc (.cells #[.int .i64 3,.slice pa pn pc,.slice va vn vc,.slice ka kn kc] 134)).alloc (.cells #[.bool false,.slice none 0 0,.slice none 0 0] 77):=⟨_,rfl⟩
 rw [←hw1] at hs1 hz1 hbel1
 have hp1:=hp.below hbel1
 have Hw1:=Qhd hw1
 have Hpn:=Qhd hpn
 clear hw1
 go_enter Tryz.func160,Tryz.ntmps160
 go_wp2_with fail
 rw [←Hw1.out]
 have c0:=(hs1.cell 0).trans (show _=some (Value.int .i64 3) from rfl)
 have c1:=(hs1.cell 1).trans (show _=some (Value.slice pa pn pc) from rfl)
 have c2:=(hs1.cell 2).trans (show _=some (Value.slice va vn vc) from rfl)
 have c3:=(hs1.cell 3).trans (show _=some (Value.slice ka kn kc) from rfl)
 go_loopw [4,20] (fun t4 ix wr=>∃ k:Nat,k≤pn∧ix=.int .i64 (k:Int)∧t4=.bool (!wrongB (p.take k))∧wr=w1) (fun _ ix _=>pn - (intOf ix).toNat)
 case atStart=>exact ⟨0,by omega,rfl,by simp [wrongB],rfl⟩
 case round =>
  obtain ⟨k,hk',rfl,rfl,rfl⟩:=hrel
  by_cases hlt:k<pn
  ·have hki:(k:Int)<(pn:Int):=by omega
   obtain ⟨b,off,rfl,hc⟩:=Bytes.at hp1 k (by rw [Hpn.out];exact hlt)
   have hstep:=Q2p p k (by rw [Hpn.out];exact hlt)
   obtain ⟨x,hx⟩:∃ x,x=p[k]'(by rw [Hpn.out];exact hlt):=⟨_,rfl⟩
   rw [←hx] at hc hstep
   obtain ⟨b0,hb0⟩:∃ b0,b0=(!wrongB (p.take k)):=⟨_,rfl⟩
   obtain ⟨b1,hb1⟩:∃ b1,b1=(!wrongB (p.take (k+1))):=⟨_,rfl⟩
   rw [←hb0,←hb1] at hstep
   rw [←hb0]
   have Hb1:=Qhd hb1
   have hxd:decide ((x.toNat:Int)<16)=decide (x.toNat<16):=by
    rw [Bool.eq_iff_iff];simp only [decide_eq_true_eq];omega
   obtain ⟨bx,hbx⟩:∃ bx,bx=decide (x.toNat<16):=⟨_,rfl⟩
   rw [←hbx] at hxd hstep
   have Hstep:=Qhd hstep
   clear hstep hb0 hb1 hx hbx
   cases b0
   all_goals
    go_wp2
    go_roundw
    case rel=>exact ⟨k+1,by omega,by go_num,by rw [←Hb1.out,Hstep.out];rfl,by first|trivial|rfl⟩
    case measure=>simp [intOf];omega
  ·obtain rfl:pn=k:=by omega
   have htk:p.take pn=p:=List.take_of_length_le (by rw [Hpn.out];omega)
   rw [htk]
   clear htk hp1
   have h3:(kn≠16)∨(kn=16∧¬ vn≤1024)∨(kn=16∧vn≤1024):=by omega
   rcases h3 with hk1|⟨hk1,hv1⟩|⟨hk1,hv1⟩
   ·have hke:((kn:Int)==16)=false:=by rw [beq_eq_false_iff_ne];omega
    have Hk1:=Qhd hk1
    clear hk1 hk hKs hv
    go_wp2_with ((with_reducible refine Qgs 172 ?_);refine Qsa 77 2 172 (w.heap.size+1) [.bool false,.slice none 0 0,.slice none 0 0] Q0a hz1 (by rfl) (by rfl) (by intro u hu;simp at hu;rcases hu with rfl|rfl<;>rfl) (Below.refl _ _) (Nat.le_refl _) ?_;intro w5 hh5 _ hg5;have hbel5:=hbel1.grown hg5 hbel1.size (fun j hj=>by cases hj;omega))
    have hokf:ok=false:=by rw [Hokk.out];simp [Hk1.out]
    subst hokf
    exact bodyPost_ret (Q04 rfl _ _ (w.heap.size+1) Q0a hh5 rfl rfl rfl) rfl ⟨false,none,0,0,[],none,0,0,[],rfl,fun h=>by simp at h,hbel5⟩
   ·have hke:((kn:Int)==16)=true:=by rw [beq_iff_eq];omega
    have hi1:decide ((vn:Int)≤1024)=false:=by rw [decide_eq_false_iff_not];omega
    have Hv1:=Qhd hv1
    clear hk1 hv1 hk hKs hv
    go_wp2_with ((with_reducible refine Qgs 172 ?_);refine Qsa 77 2 172 (w.heap.size+1) [.bool false,.slice none 0 0,.slice none 0 0] Q0a hz1 (by rfl) (by rfl) (by intro u hu;simp at hu;rcases hu with rfl|rfl<;>rfl) (Below.refl _ _) (Nat.le_refl _) ?_;intro w5 hh5 _ hg5;have hbel5:=hbel1.grown hg5 hbel1.size (fun j hj=>by cases hj;omega))
    have hokf:ok=false:=by rw [Hokk.out];simp [Hv1.out]
    subst hokf
    exact bodyPost_ret (Q04 rfl _ _ (w.heap.size+1) Q0a hh5 rfl rfl rfl) rfl ⟨false,none,0,0,[],none,0,0,[],rfl,fun h=>by simp at h,hbel5⟩
   ·subst hk1
    have hi1:(vn:Int)≤1024:=by omega
    have hv16:vn≤1024:=hv1
    go_wp2_with (go_at_call 52;(with_reducible refine (Q49 _ _ _ _).mono ?_);rintro e w2 ⟨rfl,b2⟩;have hs2:=(hs1.kept b2).alloc (.cells #[.bool true,.slice none 0 0,.slice none 0 0] 77);have hz2:=(hz1.kept b2).alloc (.cells #[.bool true,.slice none 0 0,.slice none 0 0] 77);have hbel2:=(Below.then hbel1 b2).alloc (Below.then hbel1 b2).size (.cells #[.bool true,.slice none 0 0,.slice none 0 0] 77);have hi2:=Blk.new w2 77 [.bool true,.slice none 0 0,.slice none 0 0];have hz2s:=(hz1.kept b2).lt)
    obtain ⟨g4,hg4⟩:∃ g,g=w2.heap.size:=⟨_,rfl⟩
    obtain ⟨wA,hwA⟩:∃ x,x=w2.alloc (.cells #[.bool true,.slice none 0 0,.slice none 0 0] 77):=⟨_,rfl⟩
    have hwAs:wA.heap.size=g4+1:=by rw [hwA,hg4];simp
    rw [←hwA] at hs2 hz2 hbel2 hi2
    rw [←hg4] at hi2 hz2s
    rw [←hwA,←hg4]
    clear hwA hg4
    have hallq:∀ x∈ps++[(Value.slice va vn vc,v)],Bytes w x.1 x.2:=fun x hx=>by
     rcases List.mem_append.1 hx with hx|hx
     ·exact hk.2 x hx
     ·rw [List.mem_singleton] at hx;rw [hx];exact hv
    have hall:∀ x,Below wA.heap.size wA x→∀ q∈ps,Bytes x q.1 q.2:=fun x hb q hq=>(hk.2 q hq).below (Below.then hbel2 hb)
    have hrow:∀ x,Below wA.heap.size wA x→RowOf tcell 1 x (.slice ka 16 kc) ps:=fun x hb=>hk.1.below (Below.then hbel2 hb)
    have hvv:∀ x,Below wA.heap.size wA x→Bytes x (.slice va vn vc) v:=fun x hb=>hv.below (Below.then hbel2 hb)
    have Hall:=Qhd hall
    have Hrow:=Qhd hrow
    have Hv:=Qhd hvv
    have Hallq:=Qhd hallq
    have hS1:Cell2 ⟨w.heap.size,3,none⟩ ⟨w.heap.size,2,none⟩ (.slice ka 16 kc) (.slice va vn vc) wA:=⟨(hs2.cell 3).trans rfl,(hs2.cell 2).trans rfl⟩
    have k3:∀ u:In (Cell2 ⟨w.heap.size,3,none⟩ ⟨w.heap.size,2,none⟩ (.slice ka 16 kc) (.slice va vn vc)),u.val.cell? ⟨w.heap.size,3,none⟩=some (.slice ka 16 kc):=fun u=>u.held.1
    have k2:∀ u:In (Cell2 ⟨w.heap.size,3,none⟩ ⟨w.heap.size,2,none⟩ (.slice ka 16 kc) (.slice va vn vc)),u.val.cell? ⟨w.heap.size,2,none⟩=some (.slice va vn vc):=fun u=>u.held.2
    clear hall hrow hvv hallq c0 c1 c2 c3 b2 hs1 hz1 hbel1
    refine Q43 (fun a b w'=>∃ (u126 u129 u132:Value) (a133:Option Addr) (c133:Nat),b=((((((((((a.put (some 126) u126).put (some 127) (.pointer (some ⟨w.heap.size,3,none⟩))).put (some 128) (.slice ka 16 kc)).put (some 129) u129).put (some 130) (.pointer (some ⟨w.heap.size,2,none⟩))).put (some 131) (.slice va vn vc)).put (some 132) u132).put (some 133) (.slice a133 17 c133)).put (some 134) (.int .i64 17)).put (some 135) (.int .i64 0))∧OwnOf tcell 1 25 w' wA.heap.size (.slice a133 17 c133) (ps++[(Value.slice va vn vc,v)])∧Below wA.heap.size wA w') ?_ ?_
    ·refine Q0t (Cell2 ⟨w.heap.size,3,none⟩ ⟨w.heap.size,2,none⟩ (.slice ka 16 kc) (.slice va vn vc)) (by kernel_rfl) ?_;intro u0 hu0;simp only [List.length_cons,List.length_nil,Nat.reduceAdd,List.replicate_succ,List.replicate_zero]
     have hb0:Below wA.heap.size wA u0:=by rw [hu0];exact (Below.refl _ _).drew
     have hS0:=hS1.below hb0
     clear hu0 hS1
     (refine wpH_takeQ 1 (fun K hK=>?_);simp only [Qzs] at hK;go_simp;first|(refine hK _ ?_;clear hK K)|(apply Exists.intro;refine ⟨fun _=>rfl,hK _ ?_⟩;clear hK K));(refine wpH_takeQ 2 (fun K hK=>?_);simp only [Qzs] at hK;go_simp;first|(refine hK _ ?_;clear hK K)|(apply Exists.intro;refine ⟨fun _=>rfl,hK _ ?_⟩;clear hK K));(refine wpH_takeQ 4 (fun K hK=>?_);simp only [Qzs] at hK;go_simp;first|(refine hK _ ?_;clear hK K)|(apply Exists.intro;refine ⟨fun _=>rfl,hK _ ?_⟩;clear hK K));(refine wpH_takeQ 5 (fun K hK=>?_);simp only [Qzs] at hK;go_simp;first|(refine hK _ ?_;clear hK K)|(apply Exists.intro;refine ⟨fun _=>rfl,hK _ ?_⟩;clear hK K));(refine wpH_takeQ 9 (fun K hK=>?_);simp only [Qzs] at hK;go_simp;first|(refine hK _ ?_;clear hK K)|(apply Exists.intro;refine ⟨fun _=>rfl,hK _ ?_⟩;clear hK K))
     refine Q7y [0,6] (by kernel_rfl) (by simp) ?_
     intro i hi
     simp only [List.mem_cons,List.not_mem_nil,or_false] at hi
     rcases hi with rfl|rfl
     ·(refine brH_of (i:=0) (by rfl) (fun K hK=>?_);simp only [Qzs] at hK;go_simp)
      have e126:=OwnOf.empty tcell 1 25 u0 wA.heap.size hb0.size
      have bb1:Below u0.heap.size u0 (u0.alloc (.cells #[] 25)):=Qba _ _
      have hS1:=hS0.below bb1
      refine hK _ _ hS1 ?_;clear hK K
      have hb1:=Below.then hb0 bb1
      obtain ⟨g126,hg126⟩:∃ g,g=u0.heap.size:=⟨_,rfl⟩
      obtain ⟨u1,hu1⟩:∃ x,x=u0.alloc (.cells #[] 25):=⟨_,rfl⟩
      rw [←hu1] at hS1 hb1 bb1 e126
      rw [←hg126] at e126
      rw [←hg126,←hu1]
      clear hu1 hg126
      refine Q7y [3,6] (by kernel_rfl) (by simp) ?_
      intro i hi
      simp only [List.mem_cons,List.not_mem_nil,or_false] at hi
      rcases hi with rfl|rfl
      ·refine brH_of (i:=3) (by rfl) (fun K hK=>?_)
       simp only [Qzs] at hK
       have hp2:=Hall.out _ hb1
       refine Q1z (by rfl) (.tmp 126) (.tmp 128) 44 (by rfl) elText (Q0y hp2) (by rfl) e126 (by rfl) (Hrow.out _ hb1) hb1.size (by rw [Hkn.out];simp) (by rw [Hkn.out];unfold maxLen;simp) (fun v129 u2 o129 gg2=>?_)
       have hb2:=hb1.grown gg2 hb1.size (fun j hj=>(World.ownsRow.lt e126 j hj).1)
       have hS2:Cell2 ⟨w.heap.size,3,none⟩ ⟨w.heap.size,2,none⟩ (.slice ka 16 kc) (.slice va vn vc) u2:=⟨hS1.1.grownO gg2 (fun e=>by have:=(World.ownsRow.lt e126 _ e).1;simp at this;omega),hS1.2.grownO gg2 (fun e=>by have:=(World.ownsRow.lt e126 _ e).1;simp at this;omega)⟩
       refine hK _ _ hS2 ?_;clear hK K
       rw [List.nil_append] at o129
       simp only [Act.put,Qzs]
       (refine Q0e 6 (by rfl) (by kernel_rfl) (fun K hK=>?_);simp only [Qzs] at hK;go_simp)
       have r132:=Row.made u2 1 [Value.slice va vn vc] 25 1 rfl (by unfold maxLen;omega)
       change RowOf tcell 1 _ _ [(Value.slice va vn vc,v)] at r132
       have bb3:Below u2.heap.size u2 (u2.alloc (.cells #[Value.slice va vn vc] 25)):=Qba _ _
       have hS3:=hS2.below bb3
       refine hK _ _ hS3 ?_;clear hK K
       have hb3:=Below.then hb2 bb3
       replace o129:=o129.kept bb3
       obtain ⟨g132,hg132⟩:∃ g,g=u2.heap.size:=⟨_,rfl⟩
       obtain ⟨u3,hu3⟩:∃ x,x=u2.alloc (.cells #[Value.slice va vn vc] 25):=⟨_,rfl⟩
       rw [←hu3] at hS3 hb3 bb3 r132 o129
       rw [←hg132] at r132
       rw [←hg132,←hu3]
       clear hu3 hg132
       refine Q0e 7 (by rfl) (by kernel_rfl) (fun K hK=>?_)
       have hv4:=Hv.out _ hb3
       refine Q1z (by rfl) (.tmp 129) (.tmp 132) 44 (by rfl) elText (Q0y (ps:=[(Value.slice va vn vc,v)]) (fun p hp=>by rw [List.mem_singleton] at hp;rw [hp];exact hv4)) (by rfl) o129 (by rfl) r132 hb3.size (by rw [Hkn.out];simp) (by rw [Hkn.out];unfold maxLen;simp) (fun v133 u4 o133 gg4=>?_)
       have hb4:=hb3.grown gg4 hb3.size (fun j hj=>(World.ownsRow.lt o129 j hj).1)
       have hS4:Cell2 ⟨w.heap.size,3,none⟩ ⟨w.heap.size,2,none⟩ (.slice ka 16 kc) (.slice va vn vc) u4:=⟨hS3.1.grownO gg4 (fun e=>by have:=(World.ownsRow.lt o129 _ e).1;simp at this;omega),hS3.2.grownO gg4 (fun e=>by have:=(World.ownsRow.lt o129 _ e).1;simp at this;omega)⟩
       refine hK _ _ hS4 ?_;clear hK K
       simp only [Act.put,Qzs]
       obtain ⟨a133,c133,rfl,_⟩:=o133.form' 17 (by rw [List.length_append,Hkn.out];rfl)
       clear k2 k3
       (refine wpH_takeQ 8 (fun K hK=>?_);simp only [Qzs] at hK;go_simp;first|(refine hK _ ?_;clear hK K)|(apply Exists.intro;refine ⟨fun _=>rfl,hK _ ?_⟩;clear hK K))
       exact Q16 (by kernel_rfl) ⟨rfl,_,_,_,a133,c133,rfl,o133,hb4⟩
      ·(refine brH_of (i:=6) (by rfl) (fun K hK=>?_);simp only [Qzs] at hK;go_simp)
       have r132:=Row.made u1 1 [Value.slice va vn vc] 25 1 rfl (by unfold maxLen;omega)
       change RowOf tcell 1 _ _ [(Value.slice va vn vc,v)] at r132
       have bb2:Below u1.heap.size u1 (u1.alloc (.cells #[Value.slice va vn vc] 25)):=Qba _ _
       have hS2:=hS1.below bb2
       refine hK _ _ hS2 ?_;clear hK K
       have hb2:=Below.then hb1 bb2
       have hlt126:=Qls e126
       replace e126:=e126.kept bb2
       obtain ⟨g132,hg132⟩:∃ g,g=u1.heap.size:=⟨_,rfl⟩
       obtain ⟨u2,hu2⟩:∃ x,x=u1.alloc (.cells #[Value.slice va vn vc] 25):=⟨_,rfl⟩
       rw [←hu2] at hS2 hb2 bb2 r132 e126
       rw [←hg132] at r132
       rw [←hg132,←hu2]
       have hne132:g126≠g132:=by omega
       clear hu2 hg132
       refine Q0e 3 (by rfl) (by kernel_rfl) (fun K hK=>?_)
       have hp3:=Hall.out _ hb2
       refine Q1z (by rfl) (.tmp 126) (.tmp 128) 44 (by rfl) elText (Q0y hp3) (by rfl) e126 (by rfl) (Hrow.out _ hb2) hb2.size (by rw [Hkn.out];simp) (by rw [Hkn.out];unfold maxLen;simp) (fun v129 u3 o129 gg3=>?_)
       have hb3:=hb2.grown gg3 hb2.size (fun j hj=>(World.ownsRow.lt e126 j hj).1)
       have hS3:Cell2 ⟨w.heap.size,3,none⟩ ⟨w.heap.size,2,none⟩ (.slice ka 16 kc) (.slice va vn vc) u3:=⟨hS2.1.grownO gg3 (fun e=>by have:=(World.ownsRow.lt e126 _ e).1;simp at this;omega),hS2.2.grownO gg3 (fun e=>by have:=(World.ownsRow.lt e126 _ e).1;simp at this;omega)⟩
       replace r132:=RowOf.grownO r132 gg3 (fun e=>hne132 (Option.some.inj e))
       refine hK _ _ hS3 ?_;clear hK K
       rw [List.nil_append] at o129
       simp only [Act.put,Qzs]
       refine Q0e 7 (by rfl) (by kernel_rfl) (fun K hK=>?_)
       have hv4:=Hv.out _ hb3
       refine Q1z (by rfl) (.tmp 129) (.tmp 132) 44 (by rfl) elText (Q0y (ps:=[(Value.slice va vn vc,v)]) (fun p hp=>by rw [List.mem_singleton] at hp;rw [hp];exact hv4)) (by rfl) o129 (by rfl) r132 hb3.size (by rw [Hkn.out];simp) (by rw [Hkn.out];unfold maxLen;simp) (fun v133 u4 o133 gg4=>?_)
       have hb4:=hb3.grown gg4 hb3.size (fun j hj=>(World.ownsRow.lt o129 j hj).1)
       have hS4:Cell2 ⟨w.heap.size,3,none⟩ ⟨w.heap.size,2,none⟩ (.slice ka 16 kc) (.slice va vn vc) u4:=⟨hS3.1.grownO gg4 (fun e=>by have:=(World.ownsRow.lt o129 _ e).1;simp at this;omega),hS3.2.grownO gg4 (fun e=>by have:=(World.ownsRow.lt o129 _ e).1;simp at this;omega)⟩
       refine hK _ _ hS4 ?_;clear hK K
       simp only [Act.put,Qzs]
       obtain ⟨a133,c133,rfl,_⟩:=o133.form' 17 (by rw [List.length_append,Hkn.out];rfl)
       clear k2 k3
       (refine wpH_takeQ 8 (fun K hK=>?_);simp only [Qzs] at hK;go_simp;first|(refine hK _ ?_;clear hK K)|(apply Exists.intro;refine ⟨fun _=>rfl,hK _ ?_⟩;clear hK K))
       exact Q16 (by kernel_rfl) ⟨rfl,_,_,_,a133,c133,rfl,o133,hb4⟩
     ·(refine brH_of (i:=6) (by rfl) (fun K hK=>?_);simp only [Qzs] at hK;go_simp)
      have r132:=Row.made u0 1 [Value.slice va vn vc] 25 1 rfl (by unfold maxLen;omega)
      change RowOf tcell 1 _ _ [(Value.slice va vn vc,v)] at r132
      have bb1:Below u0.heap.size u0 (u0.alloc (.cells #[Value.slice va vn vc] 25)):=Qba _ _
      have hS1:=hS0.below bb1
      refine hK _ _ hS1 ?_;clear hK K
      have hb1:=Below.then hb0 bb1
      obtain ⟨g132,hg132⟩:∃ g,g=u0.heap.size:=⟨_,rfl⟩
      obtain ⟨u1,hu1⟩:∃ x,x=u0.alloc (.cells #[Value.slice va vn vc] 25):=⟨_,rfl⟩
      rw [←hu1] at hS1 hb1 bb1 r132
      rw [←hg132] at r132
      rw [←hg132,←hu1]
      have Hu1sz:=Qhd (show u1.heap.size=g132+1 from by rw [hu1,hg132];simp)
      clear hu1 hg132
      (refine Q0e 0 (by rfl) (by kernel_rfl) (fun K hK=>?_);simp only [Qzs] at hK;go_simp)
      have e126:=OwnOf.empty tcell 1 25 u1 wA.heap.size hb1.size
      have bb2:Below u1.heap.size u1 (u1.alloc (.cells #[] 25)):=Qba _ _
      have hS2:=hS1.below bb2
      refine hK _ _ hS2 ?_;clear hK K
      have hb2:=Below.then hb1 bb2
      have hlt132:g132<u1.heap.size:=by have:=bb1.size;have h8:=Hu1sz.out;omega
      obtain ⟨g126,hg126⟩:∃ g,g=u1.heap.size:=⟨_,rfl⟩
      obtain ⟨u2,hu2⟩:∃ x,x=u1.alloc (.cells #[] 25):=⟨_,rfl⟩
      rw [←hu2] at hS2 hb2 bb2 e126
      rw [←hg126] at e126
      rw [←hg126,←hu2]
      replace r132:=r132.kept bb2
      have hne132:g126≠g132:=by omega
      clear hu2 hg126
      refine Q0e 3 (by rfl) (by kernel_rfl) (fun K hK=>?_)
      have hp3:=Hall.out _ hb2
      refine Q1z (by rfl) (.tmp 126) (.tmp 128) 44 (by rfl) elText (Q0y hp3) (by rfl) e126 (by rfl) (Hrow.out _ hb2) hb2.size (by rw [Hkn.out];simp) (by rw [Hkn.out];unfold maxLen;simp) (fun v129 u3 o129 gg3=>?_)
      have hb3:=hb2.grown gg3 hb2.size (fun j hj=>(World.ownsRow.lt e126 j hj).1)
      have hS3:Cell2 ⟨w.heap.size,3,none⟩ ⟨w.heap.size,2,none⟩ (.slice ka 16 kc) (.slice va vn vc) u3:=⟨hS2.1.grownO gg3 (fun e=>by have:=(World.ownsRow.lt e126 _ e).1;simp at this;omega),hS2.2.grownO gg3 (fun e=>by have:=(World.ownsRow.lt e126 _ e).1;simp at this;omega)⟩
      replace r132:=RowOf.grownO r132 gg3 (fun e=>hne132 (Option.some.inj e))
      refine hK _ _ hS3 ?_;clear hK K
      rw [List.nil_append] at o129
      simp only [Act.put,Qzs]
      refine Q0e 7 (by rfl) (by kernel_rfl) (fun K hK=>?_)
      have hv4:=Hv.out _ hb3
      refine Q1z (by rfl) (.tmp 129) (.tmp 132) 44 (by rfl) elText (Q0y (ps:=[(Value.slice va vn vc,v)]) (fun p hp=>by rw [List.mem_singleton] at hp;rw [hp];exact hv4)) (by rfl) o129 (by rfl) r132 hb3.size (by rw [Hkn.out];simp) (by rw [Hkn.out];unfold maxLen;simp) (fun v133 u4 o133 gg4=>?_)
      have hb4:=hb3.grown gg4 hb3.size (fun j hj=>(World.ownsRow.lt o129 j hj).1)
      have hS4:Cell2 ⟨w.heap.size,3,none⟩ ⟨w.heap.size,2,none⟩ (.slice ka 16 kc) (.slice va vn vc) u4:=⟨hS3.1.grownO gg4 (fun e=>by have:=(World.ownsRow.lt o129 _ e).1;simp at this;omega),hS3.2.grownO gg4 (fun e=>by have:=(World.ownsRow.lt o129 _ e).1;simp at this;omega)⟩
      refine hK _ _ hS4 ?_;clear hK K
      simp only [Act.put,Qzs]
      obtain ⟨a133,c133,rfl,_⟩:=o133.form' 17 (by rw [List.length_append,Hkn.out];rfl)
      clear k2 k3
      (refine wpH_takeQ 8 (fun K hK=>?_);simp only [Qzs] at hK;go_simp;first|(refine hK _ ?_;clear hK K)|(apply Exists.intro;refine ⟨fun _=>rfl,hK _ ?_⟩;clear hK K))
      exact Q16 (by kernel_rfl) ⟨rfl,_,_,_,a133,c133,rfl,o133,hb4⟩
    rintro b w3 ⟨u126,u129,u132,a133,c133,rfl,o133,hb3⟩
    simp only [Act.put,Qzs]
    obtain ⟨gq,rfl,hgq1,hgq2⟩:=Qjq o133 (by omega)
    have hF0:FkX w g4 w3.heap.size gq c133 [.int .i64 3,.slice pa pn pc,.slice va vn vc,.slice ka 16 kc] (ps++[(Value.slice va vn vc,v)]) (.slice none 0 0) (txts ((ps++[(Value.slice va vn vc,v)]).take 0)) w3:=⟨hs2.kept hb3,hz2.kept hb3,hi2.kept hb3,OwnOf.nil icells 3 _ _ _,Below.then hbel2 hb3,hz2s,by have:=hb3.size;omega,o133.row,hgq2,by omega⟩
    have hqn:(ps++[(Value.slice va vn vc,v)]).length=17:=by rw [List.length_append,Hkn.out];rfl
    obtain ⟨Bs,hBs⟩:∃ B,B=w3.heap.size:=⟨_,rfl⟩
    rw [←hBs] at hF0
    have hB3:Bs≤w3.heap.size:=by omega
    obtain ⟨qs,hqs⟩:∃ qs,qs=ps++[(Value.slice va vn vc,v)]:=⟨_,rfl⟩
    rw [←hqs] at hF0 hqn
    have hallq2:∀ x∈qs,Bytes w x.1 x.2:=by rw [hqs];exact Hallq.out
    have hKq:∀ q∈qs,q.2.length≤1048576:=by
     rw [hqs];intro q hq
     rcases List.mem_append.1 hq with hq|hq
     ·exact hKs q hq
     ·rw [List.mem_singleton] at hq;rw [hq];have:=Hvn.out;simp;omega
    have hmany:manyK 0 (qs.map (·.2)) 17=manyB v (ps.map (·.2)):=by
     have e:(qs.map (·.2)).take 17=ps.map (·.2)++[v]:=by
      rw [List.take_of_length_le (by rw [List.length_map,hqn];omega),hqs,List.map_append];rfl
     unfold manyK manyB
     rw [e,List.map_append,List.sum_append];simp;omega
    have Hqs:=Qhd hqs
    have Hqn:=Qhd hqn
    have Hmany:=Qhd hmany
    have Hallq2:=Qhd hallq2
    have HKq:=Qhd hKq
    have HKs:=Qhd hKs
    clear hqs hqn hmany hallq2 hKq hKs hBs k2 k3 hS1 hs2 hz2 hi2 hbel2 hb3 o133 hwAs hgq1 hgq2
    go_wp2_with fail
    go_loopw [12,135] (fun t12 ix wr=>∃ (k:Nat) (ka2:Option Addr) (kc2:Nat),k≤17∧ix=.int .i64 (k:Int)∧t12=.int .i64 ((manyK 0 (qs.map (·.2)) k:Nat):Int)∧FkX w g4 Bs gq c133 [.int .i64 3,.slice pa pn pc,.slice va vn vc,.slice ka 16 kc] qs (.slice ka2 k kc2) (txts (qs.take k)) wr∧Bs≤wr.heap.size) (fun _ ix _=>17 - (intOf ix).toNat)
    case atStart=>exact ⟨0,none,0,by omega,rfl,by rw [Q7f];rfl,hF0,hB3⟩
    case round =>
     clear hF0 hB3
     obtain ⟨k,ka2,kc2,hk',rfl,rfl,hF,hBw⟩:=hrel
     by_cases hlt:k<17
     ·have hki:(k:Int)<17:=by omega
      have hkl:k<qs.length:=by rw [Hqn.out];exact hlt
      have hT:Texts wr (.slice (some ⟨gq,0,none⟩) 17 c133) qs:=⟨hF.hr,fun x hx=>(Hallq2.out x hx).below hF.hb⟩
      obtain ⟨b,off,q,hbo,hq,hc,hbq⟩:=Texts.at hT k hkl
      simp only [Option.some.injEq,Addr.mk.injEq] at hbo
      obtain ⟨rfl,rfl,_⟩:=hbo
      rw [Nat.zero_add] at hc
      have hql:=HKq.out q (List.mem_of_getElem? hq)
      have hts:=Q9j qs k q hq
      have hmk:(qs.map (·.2))[k]?=some q.2:=by rw [List.getElem?_map,hq];rfl
      have hms:=Q7g 0 (qs.map (·.2)) k q.2 hmk
      have hml:=Q5f 0 (qs.map (·.2)) k
      obtain ⟨qv,ql⟩:=q
      simp only at hc hbq hql hts hms
      obtain ⟨qa,qc,rfl,_,hqm⟩:=hbq.form
      obtain ⟨qn,hqn⟩:∃ qn,qn=ql.length:=⟨_,rfl⟩
      rw [←hqn] at hc hbq hql hms hts
      obtain ⟨m0,hm0⟩:∃ m0,m0=manyK 0 (qs.map (·.2)) k:=⟨_,rfl⟩
      obtain ⟨m1,hm1⟩:∃ m1,m1=manyK 0 (qs.map (·.2)) (k+1):=⟨_,rfl⟩
      rw [←hm0,←hm1] at hms
      rw [←hm0] at hml
      rw [←hm0]
      have Hqn2:=Qhd hqn
      have Hts:=Qhd hts
      have Hm1:=Qhd hm1
      have c1:=fun x=>Q2d qa qn qc x
      have C1:=Qhd c1
      have htl:=Qce qs k (by rw [Hqn.out];omega)
      have Htl:=Qhd htl
      have k3:=fun u:Ext wr=>u.cell ((hF.hi.cell 2).trans (show _=some (Value.slice ka2 k kc2) from rfl))
      have h1c:=Qas qa qn qc ql
      have hp1:qn=0∨0<qn:=by omega
      clear c1 hm0 hm1 hts hmk hq hqn htl hT
      rcases hp1 with hq0|hq0
      ·have hgt:decide ((0:Int)<(qn:Int))=false:=by rw [decide_eq_false_iff_not];omega
       have hgt2:¬ 0<qn:=by omega
       have hmm:m1=m0:=by rw [hms,hq0];simp
       have Hmm:=Qhd hmm
       clear hmm hq0 hms
       go_wp2_with fail
       refine Q02 wr 5 (by kernel_rfl) (by kernel_rfl) (Below.refl _ _) ?_;simp only [List.take_succ_cons,List.take_zero,List.take_nil]
       iterate 3 (refine Q01 (by rfl) (fun K hK=>?_);go_simp;refine hK _ ?_;clear hK K)
       (refine Q01 (by rfl) (fun K hK=>?_);go_simp;first|(refine hK _ ?_;clear hK K)|(apply Exists.intro;refine ⟨fun _=>?_,hK _ ?_⟩;exact C1.out _;clear hK K))
       refine Q07 143 (OneB 0 (.slice qa qn qc) ql) rfl (of_decide_eq_true rfl) (OneB.mono _ _ _) (fun w3 hw3=>?_) ?_
       ·simp only [relOf,List.filter_nil,Q00]
        refine ⟨rfl,?_⟩
        go_simp
        exact ⟨Qba _ _,w3.heap.size,rfl,Row.built Q0p w3 77 [txt (.slice qa qn qc) ql] 1 rfl (by unfold maxLen;omega)⟩
       refine Q09 ?_
       intro u2 hb2 v143 h143
       change wpList _ _ _ [_,_,_] _ _
       obtain ⟨g143,rfl,hr143⟩:=h143
       have hF2:=hF.kept hb2
       have hO2:=hF2.hO
       have hsz2:Bs≤u2.heap.size:=Nat.le_trans hBw hb2.size
       have hB4:=hF2.hB
       clear k3 hF
       go_wp2_with (refine Q0g (o:=⟨some 144,_,_,_,_,_⟩) (by rfl) (.tmp 140) (.tmp 143) 75 (by rfl) elItem h1c (by rfl) hO2 (by rfl) hr143 hsz2 (by rw [Htl.out];simp;omega) (by rw [Htl.out];unfold maxLen;simp;omega) ?_;intro v5 w5 hO5 hg5 _;obtain ⟨a5,c5,rfl,_⟩:=hO5.form' (k+1) (by rw [List.length_append,Htl.out];rfl);have hF5:=hF2.grew hg5 hO5;have hsz5:=Nat.le_trans hsz2 hg5.size;have hc5:=(hF2.hi.grown hg5 (fun e=>by have:=(World.ownsRow.lt hO2 g4 e).1;omega)).has 2 (by simp);have hf5:=(hF2.hi.grown hg5 (fun e=>by have:=(World.ownsRow.lt hO2 g4 e).1;omega)).free 2;obtain ⟨y5,hy5⟩:=hc5)
       rw [←Hts.out] at hF5
       go_roundw
       case rel=>exact ⟨k+1,a5,c5,by omega,by go_num,by rw [←Hm1.out,Hmm.out],hF5,by simpa using hsz5⟩
       case measure=>simp [intOf];omega
      ·have hgt:(0:Int)<(qn:Int):=by omega
       have hmm:m1=m0+1:=by rw [hms];omega
       have Hmm:=Qhd hmm
       have hw12:IntKind.i64.wrap ((m0:Int)+1)=(m0:Int)+1:=IntWalk.i64_in _ (by omega)
       clear hmm hms
       go_wp2_with fail
       refine Q02 wr 5 (by kernel_rfl) (by kernel_rfl) (Below.refl _ _) ?_;simp only [List.take_succ_cons,List.take_zero,List.take_nil]
       iterate 3 (refine Q01 (by rfl) (fun K hK=>?_);go_simp;refine hK _ ?_;clear hK K)
       (refine Q01 (by rfl) (fun K hK=>?_);go_simp;first|(refine hK _ ?_;clear hK K)|(apply Exists.intro;refine ⟨fun _=>?_,hK _ ?_⟩;exact C1.out _;clear hK K))
       refine Q07 143 (OneB 0 (.slice qa qn qc) ql) rfl (of_decide_eq_true rfl) (OneB.mono _ _ _) (fun w3 hw3=>?_) ?_
       ·simp only [relOf,List.filter_nil,Q00]
        refine ⟨rfl,?_⟩
        go_simp
        exact ⟨Qba _ _,w3.heap.size,rfl,Row.built Q0p w3 77 [txt (.slice qa qn qc) ql] 1 rfl (by unfold maxLen;omega)⟩
       refine Q09 ?_
       intro u2 hb2 v143 h143
       change wpList _ _ _ [_,_,_] _ _
       obtain ⟨g143,rfl,hr143⟩:=h143
       have hF2:=hF.kept hb2
       have hO2:=hF2.hO
       have hsz2:Bs≤u2.heap.size:=Nat.le_trans hBw hb2.size
       have hB4:=hF2.hB
       clear k3 hF
       go_wp2_with (refine Q0g (o:=⟨some 144,_,_,_,_,_⟩) (by rfl) (.tmp 140) (.tmp 143) 75 (by rfl) elItem h1c (by rfl) hO2 (by rfl) hr143 hsz2 (by rw [Htl.out];simp;omega) (by rw [Htl.out];unfold maxLen;simp;omega) ?_;intro v5 w5 hO5 hg5 _;obtain ⟨a5,c5,rfl,_⟩:=hO5.form' (k+1) (by rw [List.length_append,Htl.out];rfl);have hF5:=hF2.grew hg5 hO5;have hsz5:=Nat.le_trans hsz2 hg5.size;have hc5:=(hF2.hi.grown hg5 (fun e=>by have:=(World.ownsRow.lt hO2 g4 e).1;omega)).has 2 (by simp);have hf5:=(hF2.hi.grown hg5 (fun e=>by have:=(World.ownsRow.lt hO2 g4 e).1;omega)).free 2;obtain ⟨y5,hy5⟩:=hc5)
       rw [←Hts.out] at hF5
       go_roundw
       case rel=>exact ⟨k+1,a5,c5,by omega,by go_num,by rw [←Hm1.out,Hmm.out];go_num,hF5,by simpa using hsz5⟩
       case measure=>simp [intOf];omega
     ·obtain rfl:k=17:=by omega
      rw [Hmany.out]
      have hml:=Q5f 0 (qs.map (·.2)) 17
      rw [Hmany.out] at hml
      obtain ⟨mm,hmm⟩:∃ mm,mm=manyB v (ps.map (·.2)):=⟨_,rfl⟩
      rw [←hmm] at hml
      rw [←hmm]
      have htk:qs.take 17=qs:=List.take_of_length_le (by rw [Hqn.out];omega)
      rw [htk] at hF
      have c3:=(hF.hs.cell 3).trans (show _=some (Value.slice ka 16 kc) from rfl)
      have Hmm:=Qhd hmm
      obtain ⟨wL,hwL⟩:∃ x:World,x=wr:=⟨_,rfl⟩
      rw [←hwL] at hF hBw c3
      rw [←hwL]
      clear hmm htk hwL
      go_wp2_with fail
      go_loopw [155] (fun ix wr=>∃ j:Nat,j≤16∧ix=.int .i64 (j:Int)∧Hid (∀ q∈ps.take j,sumOk q.2.length true=true)∧wr=wL) (fun ix _=>16 - (intOf ix).toNat)
      case atStart=>exact ⟨0,by omega,rfl,Qhd (fun q hq=>by simp at hq),rfl⟩
      case round =>
       obtain ⟨j,hj,rfl,hall,rfl⟩:=hrel
       by_cases hlj:j<16
       ·have hji:(j:Int)<16:=by omega
        have hjl:j<ps.length:=by rw [Hkn.out];exact hlj
        obtain ⟨b,off,q,rfl,hq,hc,hbq⟩:=Texts.at (hk.below hF.hb) j hjl
        have hql:=HKs.out q (List.mem_of_getElem? hq)
        have hmem:=List.mem_of_getElem? hq
        have htk:ps.take (j+1)=ps.take j++[q]:=by rw [List.take_succ_eq_append_getElem hjl];rw [(List.getElem?_eq_some_iff.1 hq).2]
        obtain ⟨qv,ql⟩:=q
        simp only at hc hbq hql
        obtain ⟨qa,qc,rfl,_,hqm⟩:=hbq.form
        obtain ⟨qn,hqn⟩:∃ qn,qn=ql.length:=⟨_,rfl⟩
        rw [←hqn] at hc hbq hql
        have Hqn2:=Qhd hqn
        have Htk:=Qhd htk
        have hstep:sumOk qn true=true→Hid (∀ q∈ps.take (j+1),sumOk q.2.length true=true):=fun hso=>Qhd (fun q hq=>by
         rw [Htk.out] at hq
         rcases List.mem_append.1 hq with hq|hq
         ·exact hall.out q hq
         ·rw [List.mem_singleton] at hq
          rw [hq,←Hqn2.out];exact hso)
        have Hstep:=Qhd hstep
        have hp1:qn=0∨qn=32∨(qn≠0∧qn≠32):=by omega
        clear hstep hqn htk hq
        rcases hp1 with hq0|hq0|⟨hq0,hq1⟩
        ·have hne:((qn:Int) != 0)=false:=by rw [bne_eq_false_iff_eq];omega
         have hs2:=Hstep.out (by unfold sumOk;simp [hq0])
         clear hq0
         go_wp2
         go_roundw
         case rel=>exact ⟨j+1,by omega,by go_num,hs2,by first|trivial|rfl⟩
         case measure=>simp [intOf];omega
        ·have hne:((qn:Int) != 0)=true:=by rw [bne_iff_ne];omega
         have hne2:((qn:Int) != 32)=false:=by rw [bne_eq_false_iff_eq];omega
         have hs2:=Hstep.out (by unfold sumOk;simp [hq0])
         clear hq0
         go_wp2
         go_roundw
         case rel=>exact ⟨j+1,by omega,by go_num,hs2,by first|trivial|rfl⟩
         case measure=>simp [intOf];omega
        ·have hne:((qn:Int) != 0)=true:=by rw [bne_iff_ne];omega
         have hne2:((qn:Int) != 32)=true:=by rw [bne_iff_ne];omega
         have hokf:ok=false:=by
          rw [Hokk.out]
          have:((ps.map (·.2)).all fun t=>sumOk t.length true)=false:=by
           rw [List.all_eq_false]
           exact ⟨ql,List.mem_map.2 ⟨_,hmem,rfl⟩,by rw [←Hqn2.out];unfold sumOk;simp [hq0,hq1]⟩
          rw [this];simp
         subst hokf
         have hz1:=hF.hz
         have hbel1:=hF.hb
         clear hq0 hq1 hmem Hstep
         go_wp2_with ((with_reducible refine Qgs 167 ?_);refine Qsa 77 2 167 (w.heap.size+1) [.bool false,.slice none 0 0,.slice none 0 0] Q0a hz1 (by rfl) (by rfl) (by intro u hu;simp at hu;rcases hu with rfl|rfl<;>rfl) (Below.refl _ _) (Nat.le_refl _) ?_;intro w5 hh5 _ hg5;have hbel5:=hbel1.grown hg5 hbel1.size (fun j hj=>by cases hj;omega))
         exact bodyPost_ret (Q04 rfl _ _ (w.heap.size+1) Q0a hh5 rfl rfl rfl) rfl ⟨false,none,0,0,[],none,0,0,[],rfl,fun h=>by simp at h,hbel5⟩
       ·obtain rfl:j=16:=by omega
        have htk2:ps.take 16=ps:=List.take_of_length_le (by rw [Hkn.out];omega)
        have hoka:ok=decide (2≤mm):=by
         rw [Hokk.out]
         have:((ps.map (·.2)).all fun t=>sumOk t.length true)=true:=by
          rw [List.all_eq_true]
          intro t ht
          obtain ⟨q,hq,rfl⟩:=List.mem_map.1 ht
          exact hall.out q (by rw [htk2];exact hq)
         rw [this,Hmm.out];simp [hv16]
        have hokd:decide ((1:Int)<(mm:Int))=ok:=by
         rw [hoka]
         by_cases h2:2≤mm
         ·rw [decide_eq_true h2,decide_eq_true (by omega)]
         ·rw [decide_eq_false h2,decide_eq_false (by omega)]
        clear hoka htk2 hall
        go_wp2_with (first
         |(refine Qla 77 11 g4 Q0a hF.hi (by rfl) ?_)
         |((with_reducible refine Qgs 169 ?_);refine Qsa 77 2 169 (w.heap.size+1) [.bool true,.slice none 0 0,.slice ka2 17 kc2] Q0a hF.hz (by rfl) (by rfl) (by intro u hu;simp at hu;rcases hu with rfl|rfl|rfl<;>rfl) (Below.refl _ _) (Nat.le_refl _) ?_;intro w6 hh6 _ hg6;have hbel6:=hF.hb.grown hg6 hF.hb.size (fun j hj=>by cases hj;omega);have hO6:=hF.hO.grown hg6 (fun k hk e=>by cases hk;have:=(World.ownsRow.lt hF.hO _ e).1;have:=hF.hB;omega)))
        have hall6:∀ x∈qs,Bytes w6 x.1 x.2:=fun x hx=>(Hallq2.out x hx).below hbel6
        refine bodyPost_ret (Q04 rfl _ _ (w.heap.size+1) Q0a hh6 rfl rfl rfl) rfl ⟨true,none,0,0,[],ka2,17,kc2,txts qs,rfl,fun _=>⟨?_,?_,?_⟩,hbel6⟩
        ·exact IsItm.lst hO6.row (Q4o hall6)
        ·have:=Q19 (.slice ka2 17 kc2) qs
         rw [Hqs.out,List.map_append] at this
         rw [Hqs.out]
         exact this
        ·refine Nat.le_trans (Nat.le_of_eq (Q2m (.slice ka2 17 kc2) (txts qs))) ?_
         rw [Q1w]
         have:=sum_le _ 1048576 HKq.out
         rw [Hqn.out] at this
         omega

theorem Qfs (kd:Int)(pa va ka:Option Addr)(pn pc vn vc kn kc:Nat)(p v:List UInt8)(ps:List (Value × List UInt8))(hpn:p.length=pn)(hvn:v.length=vn)(hkn:ps.length=kn)(w:World)(hp:Bytes w (.slice pa pn pc) p)(hv:Bytes w (.slice va vn vc) v)(hk:Texts w (.slice ka kn kc) ps)(hP:pn≤4194304)(hV:vn≤1048576)(hK:kn≤1048576)(hKs:∀ q∈ps,q.2.length≤1048576) :
  Calls Tryz.prog 160 #[.agg #[.int .i64 kd,.slice pa pn pc,.slice va vn vc,.slice ka kn kc]] w (Q1l (shOk kd p v (ps.map (·.2))) (shB kd p v (ps.map (·.2))) w):=by
 unfold shOk shB
 rw [List.length_map,hpn,hvn,hkn]
 by_cases h0:kd=0
 ·subst h0;rw [if_pos rfl,if_pos rfl]
  exact Qe1 pa va ka pn pc vn vc kn kc p hpn w hp hP
 rw [if_neg h0,if_neg h0]
 by_cases h1:kd=1
 ·subst h1;rw [if_pos rfl,if_pos rfl]
  exact Qe2 pa va ka pn pc vn vc kn kc p v hpn hvn w hp hv hP hV
 rw [if_neg h1,if_neg h1]
 by_cases h2:kd=2
 ·subst h2;rw [if_pos rfl,if_pos rfl]
  exact Qe0 pa va ka pn pc vn vc kn kc p ps hpn hkn w hp hk hP hK hKs
 rw [if_neg h2,if_neg h2]
 by_cases h3:kd=3
 ·subst h3;rw [if_pos rfl]
  exact Qe3 pa va ka pn pc vn vc kn kc p v ps hpn hvn hkn w hp hv hk hP hV hKs
 rw [if_neg h3]
 refine (Qe4 kd h0 h1 h2 h3 pa va ka pn pc vn vc kn kc p hpn w hp hP).mono ?_
 rintro e w' ⟨l,ta,tn,tc,t,ka',kn',kc',ks,rfl,_,hb⟩
 exact ⟨l,ta,tn,tc,t,ka',kn',kc',ks,rfl,fun h=>by simp at h,hb⟩
end Go.Proofs.YtbdmkfjgnjfjbaaGreat
