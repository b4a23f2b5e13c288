/- root.shape of a fork. | root.shape, put together. | root.Read. | Shapes as data. | The reference's HRead. | Parts of slices of anything, with their block; appen -/
import Derived.Test.YtbdmkfjgnjfjbaaGreatBlockListsK24
import Derived.Test.YtbdmkfjgnjfjbaaGreatBlockListsK25
import Derived.Test.YtbdmkfjgnjfjbaaGreatBlockListsK03
import Derived.Test.YtbdmkfjgnjfjbaaGreatBlockListsK17
import Derived.Test.YtbdmkfjgnjfjbaaGreatBlockListsK01
set_option linter.unusedSimpArgs false
set_option linter.unusedVariables false
set_option maxHeartbeats 4000000
set_option maxRecDepth 100000
open List (getElem_mem length_append length_map length_take mem_map_of_mem)
open Nat (le_refl)
namespace Go.Proofs.YtbdmkfjgnjfjbaaGreat
open Go.RowKit
theorem Q69:El0 Tryz.prog 44 25 (.slice none 0 0) 1 24 Q0p:=⟨by kernel_rfl,by kernel_rfl,rfl,by omega,fun _=>rfl⟩
theorem ShW.grown {w u u':World}{D cs:List Value}{row:Option Nat}(h:ShW w D cs u)(y:u.grownBy u' row)(z:∀ x,row=some x->w.heap.size+2<=x):ShW w D cs u' :=
 ⟨h.hb.grown y h.hb.size (fun x E=>by have:=z x E;omega),h.hx.grown y (fun e=>by have:=z _ e;omega),h.hz.grown y (fun e=>by have:=z _ e;omega)⟩
theorem Qdj {α:Type}{f:α->List Value}{P:Program}{t e:TypeId}{z:Value}{size bytes:Nat}(el:El0 P t e z size bytes f){w:World}{a:Option Addr}{n c:Nat}{l:List α}(h:Q05 f size w (.slice a n c) l)(hi:Nat)(h1:hi<=n)(x:Int)(hx:x=hi) :
  ∃ y D,(∀ k w',(Instr.slice t (.slice a n c) none (some (.int k x)) none).run P w'=.ok (.slice y hi D) w')/\Q05 f size w (.slice y hi D) (l.take hi):=by
 subst hx;obtain ⟨L,M,K⟩:=h.fits;obtain ⟨y,D,E,H⟩:=h.part el.hf el.hsz 0 hi (Nat.zero_le _) h1;obtain ⟨i,I,_,J,_⟩:=el.info;have G:P.elem t=e:=by unfold Program.elem;rw [el.ht]
 refine ⟨y,D,fun k w'=>?_,by simpa using H⟩;rw [run_slice_h (P:=P) w' (t:=t) (a:=a) (len:=n) (cap:=c) (by rw [G];exact el.ht) k (hi:Int) (by omega) (by omega)];rw [G];simp [sizeOf,typeInfo,I,J] at E |-;exact E
theorem Qj9 (ta:Option Addr)(tn tc:Nat)(ka:Option Addr)(z D:Nat)(ks:List Itm)(aG:ks.length=z)(hs:z<=1048576)(az:z=17)(w:World)(hk:Q05 Q0j 3 w (.slice ka z D) ks)(hi:∀ k∈ks,Q17 w k) :
  Calls Tryz.prog 126 #[.agg #[.bool true,.slice ta tn tc,.slice ka z D]] w (Q5v (shpP (.lst (ks.map erI))) w):=by
 obtain ⟨w1,aL⟩:=Qe ((w.alloc (.cells #[.bool true,.slice ta tn tc,.slice ka z D] 77)).alloc (.cells #[.int .i64 0,.slice none 0 0,.slice none 0 0,.slice none 0 0] 134));have F1:ShW w [.bool true,.slice ta tn tc,.slice ka z D] zsh w1:=by rw [aL];exact ShW.start w _ _ _
 have br:=Qhd aL;have aH:∀ (i:Nat) (k:Itm),ks[i]?=some k->itl k=true->shpP (.lst (ks.map erI))=none:=fun i k h1 h2=>by simp only [shpP,Q5p h1 h2]
 have aB:(∀ (i:Nat) (k:Itm),ks[i]?=some k->itl k=false)->shpP (.lst (ks.map erI))=some (3,[],(ks.map itt)[16]?.getD [],(ks.map itt).take 16):=fun h=>by
  simp only [shpP,Q39 h,length_map,aG];rw [if_pos az]
 have c5:((z:Int)==17)=true:=by rw [beq_iff_eq];omega
 have cb:(16:Int)<(z:Int):=by omega
 have cd:16<z:=by omega
 have cc:(16:Int)<=(z:Int):=by omega
 have bl:=Qhd az;clear az;obtain ⟨O,hO⟩:=Qe (shpP (.lst (ks.map erI)));rw [<-hO] at aH aB;rw [<-hO];have bq:=Qhd aH;have bm:=Qhd aB;have ax:=Qhd aG;have Hi:=Qhd hi;clear aL aH aB aG hi hO;go_enter Tryz.func126,Tryz.ntmps126
 go_wp2_with fail
 rw [<-br.out]
 go_loopw [22] (fun ix wr=>∃ k:Nat,k<=z/\ix=.int .i64 (k:Int)/\ShW w [.bool true,.slice ta tn tc,.slice ka z D] zsh wr/\Hid (∀ (j:Nat) (x:Itm),j<k->ks[j]?=some x->itl x=false)) (fun ix _=>z - (intOf ix).toNat)
 case atStart=>exact ⟨0,by omega,rfl,F1,Qhd (fun j x hj=>by omega)⟩
 case round =>
  clear F1;obtain ⟨k,c9,rfl,F,Hd⟩:=hrel;have b':wr.cell? ⟨w.heap.size,2,none⟩=some (.slice ka z D):=F.hx.cell 2;by_cases hlt:k<z
  ·have c8:(k:Int)<(z:Int):=by omega
   have a2:k<ks.length:=by rw [ax.out];exact hlt
   obtain ⟨b,off,rfl,S⟩:=Q05.range Q0k (hk.below F.hb) k a2;have N:Q17 wr ks[k]:=(Hi.out _ (getElem_mem a2)).kept F.hb;have ag:ks[k]?=some ks[k]:=List.getElem?_eq_getElem a2;obtain ⟨kid,ae⟩:=Qe (ks[k]);rw [<-ae] at S N ag;obtain ⟨l2,bS,t2,bP,aP⟩:=kid;obtain ⟨J,L,rfl,_,_⟩:=N.inv.1.form;obtain ⟨U,W,rfl,_,_⟩:=N.inv.2.1.form;obtain ⟨M,a9⟩:=Qe (t2.length);obtain ⟨Z,af⟩:=Qe (aP.length);rw [<-a9,<-af] at S N ag;change wr.rangeAt b (off+k*3) [.bool l2,.slice J M L,.slice U Z W] at S;have F2:=F.kept ((Below.refl wr.heap.size wr).alloc (le_refl _) (.cells #[.bool l2,.slice J M L,.slice U Z W] 77));cases l2 with
   | true =>
    have bF:O=none:=bq.out k _ ag rfl;subst bF;clear ae N a9 af ag F
    go_wp2_with (first
     |(refine wpList_load_mid (op:=⟨some 25,_,_,_,_,_⟩) (by rfl) 77 (.tmp 24) (by rfl) b (off+k*3) (by rfl) [.bool true,.slice J M L,.slice U Z W] _ S Tryz.underlying77 rfl (by kernel_rfl) ?_)
     |(refine Qla 134 2 (w.heap.size+1) Q0a F2.hz (by rfl) ?_)
     |((with_reducible refine Qgs 28 ?_);refine Qsa 134 2 28 (w.heap.size+1) zsh Q0a F2.hz (by rfl) (by rfl) (by intro u hu;simp [zsh] at hu;rcases hu with rfl|rfl<;>rfl) F2.hb (by omega) ?_;intro w5 h5 bH _))
    exact bodyPost_ret (v:=.tuple #[.agg #[.int .i64 0,.slice none 0 0,.slice none 0 0,.slice none 0 0],.bool false]) (Q01 rfl _ _ (w.heap.size+1) Q0a h5 rfl rfl rfl) rfl ⟨bH,0,none,0,0,none,0,0,none,0,0,rfl⟩
   | false =>
    have bc:∀ (j:Nat) (x:Itm),j<k+1->ks[j]?=some x->itl x=false:=fun j x hj T=>by
     rcases Nat.lt_or_ge j k with h|h
     ·exact Hd.out j x h T
     obtain rfl:j=k:=by omega
     rw [ag] at T;cases T;rfl
    have bo:=Qhd bc;clear ae N a9 af ag F bc
    go_wp2_with (refine wpList_load_mid (op:=⟨some 25,_,_,_,_,_⟩) (by rfl) 77 (.tmp 24) (by rfl) b (off+k*3) (by rfl) [.bool false,.slice J M L,.slice U Z W] _ S Tryz.underlying77 rfl (by kernel_rfl) ?_)
    go_roundw
    case rel=>exact ⟨k+1,by omega,by go_num,F2,bo⟩
    case measure=>simp [intOf];omega
  obtain rfl:z=k:=by omega
  have ba:=bm.out (fun i x T=>Hd.out i x (by have:=(List.getElem?_eq_some_iff.1 T).1;have:=ax.out;omega) T);have c':ks.length=17:=ax.out.trans bl.out;have ao:ks[16]?=some (ks[16]'(by omega)):=List.getElem?_eq_getElem (by omega);obtain ⟨aj,aM⟩:=Qe (ks[16]'(by omega));rw [<-aM] at ao;have r1:Q02 w (match aj with|.mk _ tv _ _ _=>tv) (itt aj):=by
   have hm:=Hi.out aj (List.mem_of_getElem? ao);cases aj with
   | mk l tv t kv ks'=>exact hm.inv.1
  obtain ⟨b,off,rfl,aE⟩:=Q05.cells (f:=Q0j) (size:=3) Q0k hk 16 (by omega);rw [<-aM] at aE;obtain ⟨l1,aR,E,cf,ce⟩:=aj;change Q02 w aR E at r1;have aF:w.cell? ⟨b,off+48+1,none⟩=some aR:=by have:=aE 1 aR rfl;rw [show off+(16*3+1)=off+48+1 from by omega] at this;exact this
  have bI:=World.block_lt_of_cell? w _ aF;obtain ⟨H,I,rfl,_,_⟩:=r1.form;have aJ:wr.cell? ⟨b,off+48+1,none⟩=some (.slice H E.length I):=by rw [F.hb.cell (p:=⟨b,off+48+1,none⟩) bI];exact aF
  have bG:O=some (3,[],E,(ks.map itt).take 16):=by rw [ba,List.getElem?_map,ao];rfl
  subst bG;obtain ⟨bX,bZ,ci,rs⟩:=Qdj Q5t hk 16 (by omega) 16 rfl;have bf:(ks.take 16).length=16:=by rw [length_take];omega
  have aY:=Qhd bf;clear ba aE aM ao bf aF
  go_wp2_with fail
  refine Q1g (fun aa bb w'=>bb=(((((((aa.put (some 36) (.pointer (some ⟨w.heap.size,2,none⟩))).put (some 37) (.slice (some ⟨b,off,none⟩) z D)).put (some 38) (.pointer (some ⟨b,off+48,none⟩))).put (some 39) (.pointer (some ⟨b,off+48+1,none⟩))).put (some 40) (.slice H E.length I)).put (some 41) (.pointer (some ⟨w.heap.size+1,0,none⟩))).put (some 42) (.pointer (some ⟨w.heap.size+1,2,none⟩)))/\ShW w [.bool true,.slice ta tn tc,.slice (some ⟨b,off,none⟩) z D] [.int .i64 3,.slice none 0 0,(.slice H E.length I),.slice none 0 0] w') ?_ ?_
  ·refine Q0w ((fun u=>Q0l ⟨w.heap.size,2,none⟩ (.slice (some ⟨b,off,none⟩) z D) u/\Q0l ⟨b,off+48+1,none⟩ (.slice H E.length I) u)) (by kernel_rfl) ?_;intro u0 aK;simp only [List.length_cons,List.length_nil,Nat.reduceAdd,List.replicate_succ,List.replicate_zero];have F0:ShW w [.bool true,.slice ta tn tc,.slice (some ⟨b,off,none⟩) z D] zsh u0:=by rw [aK];exact F.kept (Below.refl _ _).drew
   have S0:(fun u=>Q0l ⟨w.heap.size,2,none⟩ (.slice (some ⟨b,off,none⟩) z D) u/\Q0l ⟨b,off+48+1,none⟩ (.slice H E.length I) u) u0:=⟨F0.hx.cell 2,by rw [aK];exact aJ⟩;have k1:∀ u:In (fun u=>Q0l ⟨w.heap.size,2,none⟩ (.slice (some ⟨b,off,none⟩) z D) u/\Q0l ⟨b,off+48+1,none⟩ (.slice H E.length I) u),u.val.cell? ⟨w.heap.size,2,none⟩=some (.slice (some ⟨b,off,none⟩) z D):=fun u=>u.held.1;have k2:∀ u:In (fun u=>Q0l ⟨w.heap.size,2,none⟩ (.slice (some ⟨b,off,none⟩) z D) u/\Q0l ⟨b,off+48+1,none⟩ (.slice H E.length I) u),u.val.cell? ⟨b,off+48+1,none⟩=some (.slice H E.length I):=fun u=>u.held.2;clear aK F aJ b';refine Qtk 0 (fun K y=>?_);simp only [Qzs] at y;go_simp;(first|refine y _ ?_|refine ⟨_,fun _=>rfl,y _ ?_⟩);clear y K;refine Qtk 1 (fun K y=>?_);simp only [Qzs] at y;go_simp;(first|refine y _ ?_|refine ⟨_,fun _=>rfl,y _ ?_⟩);clear y K;refine Qtk 2 (fun K y=>?_);simp only [Qzs] at y;go_simp;(first|refine y _ ?_|refine ⟨_,fun _=>rfl,y _ ?_⟩);clear y K;refine Qtk 3 (fun K y=>?_);simp only [Qzs] at y;go_simp;(first|refine y _ ?_|refine ⟨_,fun _=>rfl,y _ ?_⟩);clear y K;refine Qtk 4 (fun K y=>?_);simp only [Qzs] at y;go_simp;(first|refine y _ ?_|refine ⟨_,fun _=>rfl,y _ ?_⟩);clear y K;refine Qtk 5 (fun K y=>?_);simp only [Qzs] at y;go_simp;(first|refine y _ ?_|refine ⟨_,fun _=>rfl,y _ ?_⟩);clear y K;clear k1 k2;have y0:u0.cell? ⟨w.heap.size+1,0,none⟩=some (.int .i64 0):=F0.hz.cell 0;have g0:=F0.hz.free 0;have F5:=F0.set 0 (.int .i64 3);have S5:(fun u=>Q0l ⟨w.heap.size,2,none⟩ (.slice (some ⟨b,off,none⟩) z D) u/\Q0l ⟨b,off+48+1,none⟩ (.slice H E.length I) u) (u0.setCell ⟨w.heap.size+1,0,none⟩ (.int .i64 3)):=⟨F5.hx.cell 2,Q0l.grown S0.2 (Q0s 0 _) (by simp<;>omega)⟩
   (refine Q0f 6 (by rfl) (by kernel_rfl) (fun K y=>?_);simp only [Qzs] at y;go_simp)
   refine y _ _ S5 ?_;clear y K;refine Qtk 7 (fun K y=>?_);simp only [Qzs] at y;go_simp;(first|refine y _ ?_|refine ⟨_,fun _=>rfl,y _ ?_⟩);clear y K;have y5:(u0.setCell ⟨w.heap.size+1,0,none⟩ (.int .i64 3)).cell? ⟨w.heap.size+1,2,none⟩=some (.slice none 0 0):=F5.hz.cell 2;have g5:=F5.hz.free 2;have F6:=F5.set 2 (.slice H E.length I);have S6:(fun u=>Q0l ⟨w.heap.size,2,none⟩ (.slice (some ⟨b,off,none⟩) z D) u/\Q0l ⟨b,off+48+1,none⟩ (.slice H E.length I) u) ((u0.setCell ⟨w.heap.size+1,0,none⟩ (.int .i64 3)).setCell ⟨w.heap.size+1,2,none⟩ (.slice H E.length I)):=⟨F6.hx.cell 2,Q0l.grown S5.2 (Q0s 2 _) (by simp<;>omega)⟩
   (refine Q0f 8 (by rfl) (by kernel_rfl) (fun K y=>?_);simp only [Qzs] at y;go_simp)
   refine y _ _ S6 ?_;clear y K;exact Q11 (by kernel_rfl) ⟨rfl,(by simp only [Act.put,Qzs]),F6⟩
  rintro bb w9 ⟨rfl,F9⟩;simp only [Act.put,Qzs];have bx:w9.cell? ⟨w.heap.size,2,none⟩=some (.slice (some ⟨b,off,none⟩) z D):=F9.hx.cell 2;clear b' aJ F
  go_wp2_with fail
  go_loopw [47] (fun ix wr=>∃ (i:Nat) (kv:Value) (ps:List (Value × List UInt8)),i<=16/\ix=.int .i64 (i:Int)/\ShW w [.bool true,.slice ta tn tc,.slice (some ⟨b,off,none⟩) z D] [.int .i64 3,.slice none 0 0,(.slice H E.length I),kv] wr/\Q08 Q0p 1 25 wr (w.heap.size+2) kv ps/\Hid (ps.map (·.2)=((ks.take 16).map itt).take i)/\Hid (∀ p∈ps,Q02 w p.1 p.2)) (fun ix _=>16 - (intOf ix).toNat)
  case atStart=>exact ⟨0,.slice none 0 0,[],by omega,rfl,F9,Q08.nil Q0p 1 _ _ _,Qhd rfl,Qhd (by simp)⟩
  case round =>
   clear F9 bx;obtain ⟨i,kv,ps,c6,rfl,G,hO,ay,aW⟩:=hrel;have aI:ps.length=i:=by
    have:=congrArg List.length ay.out;simp only [length_map,length_take] at this;have h2:=aY.out;rw [length_take] at h2;omega
   obtain ⟨V,a5,rfl,_⟩:=hO.form' i aI;have an:=Qhd aI;clear aI;by_cases hit:i<16
   ·have c7:(i:Int)<16:=by omega
    have a2:i<(ks.take 16).length:=by rw [aY.out];exact hit
    obtain ⟨b2,bi,rfl,S⟩:=Q05.range Q0k (rs.below G.hb) i a2;have bg:(ks.take 16)[i]∈ks:=List.mem_of_mem_take (getElem_mem a2);have ap:=Hi.out _ bg;have aq:((ks.take 16).map itt).take (i+1)=((ks.take 16).map itt).take i++[itt (ks.take 16)[i]]:=by
     rw [List.take_succ_eq_append_getElem (by rw [length_map];exact a2),List.getElem_map]
    obtain ⟨kid,ae⟩:=Qe ((ks.take 16)[i]);rw [<-ae] at S ap aq;have N:=ap.kept G.hb;obtain ⟨l2,bS,t2,bP,aP⟩:=kid;obtain ⟨J,L,rfl,_,_⟩:=N.inv.1.form;obtain ⟨U,W,rfl,_,_⟩:=N.inv.2.1.form;have aC:Q02 w (.slice J t2.length L) t2:=ap.inv.1;obtain ⟨M,a9⟩:=Qe (t2.length);obtain ⟨Z,af⟩:=Qe (aP.length);rw [<-a9,<-af] at S;rw [<-a9] at aC;change wr.rangeAt b2 (bi+i*3) [.bool l2,.slice J M L,.slice U Z W] at S;change ((ks.take 16).map itt).take (i+1)=((ks.take 16).map itt).take i++[t2] at aq;have bp:=Qhd aq;have bn:=Qhd aC;have bA:Below wr.heap.size wr (wr.alloc (.cells #[.bool l2,.slice J M L,.slice U Z W] 77)):=Qba _ _;have G2:=G.kept bA;have O2:=hO.kept bA;have c3:(wr.alloc (.cells #[.bool l2,.slice J M L,.slice U Z W] 77)).cell? ⟨w.heap.size+1,3,none⟩=some (.slice V i a5):=G2.hz.cell 3;clear ae N ap a9 af bg aq aC a2
    go_wp2_with (first
     |(refine wpList_load_mid (op:=⟨some 50,_,_,_,_,_⟩) (by rfl) 77 (.tmp 49) (by rfl) b2 (bi+i*3) (by rfl) [.bool l2,.slice J M L,.slice U Z W] _ S Tryz.underlying77 rfl (by kernel_rfl) ?_)
     |(refine Q0o (o:=⟨some 55,_,_,_,_,_⟩) (by rfl) 44 1 [(0,.tmp 54)] (by rfl) Q69 [(.slice J M L,t2)] [.slice J M L] (by rfl) (by rfl) (by rfl) (by omega) (by omega) ?_;intro w6 _ bM b6;have G6:=G2.kept b6;have O6:=O2.kept b6;have bK:w.heap.size+2<=w6.heap.size:=G6.hz.lt)
     |(refine Q0t (o:=⟨some 56,_,_,_,_,_⟩) (by rfl) (.tmp 52) (.tmp 55) 44 (by rfl) Q69 (by intro u hu;simp [Q0p] at hu;subst hu;rfl) (by rfl) O6 (by rfl) bM bK (by rw [an.out];simp;omega) (by rw [an.out];unfold maxLen;simp;omega) ?_;intro v7 w7 aA bB ch;obtain ⟨aN,aO,rfl,_⟩:=aA.form' (i+1) (by rw [length_append,an.out];rfl);have G7:=G6.grown bB (fun x T=>O6.lt x T);have G8:=G7.set 3 (.slice aN (i+1) aO);have y7:w7.cell? ⟨w.heap.size+1,3,none⟩=some (.slice V i a5):=G7.hz.cell 3;have f7:=G7.hz.free 3;have O8:=aA.grown (Q0s (g:=w.heap.size+1) 3 (.slice aN (i+1) aO)) (fun k hk e=>by cases hk;have:=aA.lt _ e;omega)))
    go_roundw
    case rel=>exact ⟨i+1,.slice aN (i+1) aO,ps++[(.slice J M L,t2)],by omega,by go_num,G8,O8,Qhd (by rw [List.map_append,ay.out,bp.out];rfl),Qhd (by intro p hp;rcases List.mem_append.1 hp with hp|hp;exact aW.out p hp;rw [List.mem_singleton] at hp;subst hp;exact bn.out)⟩
    case measure=>simp [intOf];omega
   obtain rfl:i=16:=by omega
   have bh:ps.map (·.2)=(ks.map itt).take 16:=by
    rw [ay.out,List.map_take,List.take_take];rfl
   have aZ:=Qhd bh;clear bh
   go_wp2_with (first
    |(refine Qla 134 2 (w.heap.size+1) Q0a G.hz (by rfl) ?_)
    |((with_reducible refine Qgs 92 ?_);refine Qsa 134 2 92 (w.heap.size+1) [.int .i64 3,.slice none 0 0,(.slice H E.length I),.slice V 16 a5] Q0a G.hz (by rfl) (by rfl) (by intro u hu;simp at hu;rcases hu with rfl|rfl|rfl|rfl<;>rfl) G.hb (by omega) ?_;intro bj bD aD bz;have b0:=hO.grown bz (fun k hk e=>by cases hk;have:=hO.lt _ e;omega)))
   have be:((ks.map itt).take 16).length=16:=by have:=congrArg List.length aZ.out;rw [length_map,an.out] at this;exact this.symm
   refine bodyPost_ret (v:=.tuple #[.agg #[.int .i64 3,.slice none 0 0,(.slice H E.length I),.slice V 16 a5],.bool true]) (Q01 rfl _ _ (w.heap.size+1) Q0a bD rfl rfl rfl) rfl ⟨aD,none,0,H,I,V,a5,ps,?_,Q05.nil b8 1 bj,r1.below aD,⟨?_,fun p hp=>(aW.out p hp).below aD⟩,aZ.out,?_⟩
   ·show _=Ending.returned (.tuple #[.agg #[.int .i64 3,.slice none 0 0,(.slice H E.length I),.slice V ((ks.map itt).take 16).length a5],.bool true]);rw [be]
   ·show Q05 Q0p 1 bj (.slice V ((ks.map itt).take 16).length a5) ps;rw [be];exact b0.row
   intro x T;have h2:(Value.slice V 16 a5).ownBlock=some x:=by cases V<;>exact T
   have:=b0.lt x h2;omega
theorem Qt9 (b:List UInt8):unE b=0∨unE b=1:=by unfold unE;split <;> simp
theorem Q8q (J:Itm)(w:World)(h:Q17 w J)(T:Q40 J)(N:(encP (erI J)).length<=1048576):Calls Tryz.prog 126 #[.agg (Q0j J).toArray] w (Q5v (shpP (erI J)) w):=by
 cases T with
 | txt tv t kv =>
  obtain ⟨y,z,rfl,_,_⟩:=h.inv.1.form;rw [Q1w,if_neg (by simp)];exact Qj6 y t.length z t rfl _ w
 | lst tv kv ks hk =>
  obtain ⟨S,D,H⟩:=h.inv;obtain ⟨y,z,rfl,_,_⟩:=S.form;obtain ⟨E,G,rfl,_,_⟩:=D.form;rw [Q1w,if_pos rfl] at N |-;have W:(Q35 (ks.map erI)).length<=1048576:=by
   have:(encP (.lst (ks.map erI))).length<=1048576:=N;rw [encP,length_append] at this;omega
  have I:ks.length<=1048576:=by
   have:=Q6v (ks.map erI);rw [length_map] at this;omega
  have L:∀ k∈ks,(itt k).length<=1048576:=fun k O=>by
   have M:=Q48 (mem_map_of_mem (f:=erI) O);cases hk k O with
   | txt tv t kv =>
    have U:=Qkr t;rw [Q1w] at M;have V:(encP (.txt t)).length<=(Q35 (ks.map erI)).length:=M;show t.length<=1048576;omega
   | lst tv kv ks' _=>show ([]:List UInt8).length<=1048576;simp
  show Calls Tryz.prog 126 #[.agg #[.bool true,.slice y ([]:List UInt8).length z,.slice E ks.length G]] w (Q5v (shpP (.lst (ks.map erI))) w);by_cases h17:ks.length=17
  ·exact Qj9 y _ z E ks.length G ks rfl I h17 w D H
  by_cases h2':ks.length=2
  ·rcases Qt9 ((ks.map itt)[0]?.getD []) with K|K
   ·cases hf:Q19 ((ks.map itt)[0]?.getD []) with
    | true=>exact Qj8 y _ z E ks.length G ks rfl I L h2' K hf w D H
    | false=>exact Qj7 y _ z E ks.length G ks rfl I L h2' K hf w D H
   exact Qf9 y _ z E ks.length G ks rfl I L h2' K w D H
  exact Qfa y _ z E ks.length G ks rfl I h17 h2' w D H
theorem Qko (b:List UInt8):(unP b).length<=2*b.length:=by
 unfold unP;split
 ·simp
 rw [List.length_drop,Q10];omega
theorem Q05.offB {α:Type}{f:α->List Value}{size:Nat}{w w':World}{a:Option Addr}{n c g:Nat}{l:List α}(h:Q05 f size w (.slice a n c) l)(hg:w.grownBy w' (some g))(hne:∀ x,(Value.slice a n c).ownBlock=some x->x≠g):Q05 f size w' (.slice a n c) l:=by
 cases a with
 | none =>
  obtain ⟨D,a,J,z,E,G,y⟩:=h;simp only [Value.slice.injEq] at z;obtain ⟨rfl,I,rfl⟩:=z;refine ⟨D,none,_,by rw [I],E,G,.inl ?_⟩;rcases y with y|⟨_,_,_,H,_⟩
  ·exact y
  simp at H
 | some p =>
  obtain ⟨b,off,s⟩:=p;exact h.grownNe hg (hne b rfl)
theorem Q12.offB {w w':World}{a:Option Addr}{n c g:Nat}{ps:List (Value × List UInt8)}{e:TypeId}{cs:List Value}(h:Q12 w (.slice a n c) ps)(G:Blk e w g cs)(D:∀ u∈cs,∀ k,u≠.int .u8 k)(y:w.grownBy w' (some g))(z:∀ x,(Value.slice a n c).ownBlock=some x->x≠g):Q12 w' (.slice a n c) ps :=
 ⟨Q05.offB h.1 y z,fun p E=>Q02.off_v (h.2 p E) G D y⟩
theorem Qtz {y:List (List UInt8)}{t:List UInt8}(h:t∈y):t.length<=(encP (.lst (y.map .txt))).length:=by
 have z:=Qkr t;have D:=Q48 (mem_map_of_mem (f:=Pit.txt) h);rw [encP,length_append];omega
theorem Qg6 {y:List (List UInt8)}{N:Nat}(h:∀ t∈y,t.length<=N)(i:Nat):(y[i]?.getD []).length<=N:=by
 cases hi:y[i]? with
 | none=>simp
 | some t=>exact h t (List.mem_of_getElem? hi)
theorem Ql7 {p:Pit}{s:Shq}(h:shpP p=some s)(E:(encP p).length<=1048576):s.2.1.length<=4194304/\s.2.2.1.length<=1048576/\s.2.2.2.length<=1048576/\∀ t∈s.2.2.2,t.length<=1048576:=by
 cases p with
 | txt t =>
  simp only [shpP] at h;split at h
  ·simp only [Option.some.injEq] at h;subst h;simp
  simp at h
 | lst ks =>
  simp only [shpP] at h;cases ha:allT ks with
  | none=>rw [ha] at h;simp at h
  | some ts =>
   rw [ha] at h;dsimp only at h;have e:=Q6z ha;subst e;have y:∀ t∈ts,t.length<=1048576:=fun t z=>Nat.le_trans (Qtz z) E;have I:ts.length<=1048576:=by
    have D:=Q6v (ts.map Pit.txt);rw [length_map] at D;rw [encP,length_append] at E;omega
   have H:=Qg6 y 0;have D:=Qg6 y 1;have G:=Qg6 y 16;have J:=Qko (ts[0]?.getD []);split at h
   ·simp only [Option.some.injEq] at h;subst h;exact ⟨by simp,G,by rw [length_take];show min 16 ts.length<=1048576;omega,fun t z=>y t (List.mem_of_mem_take z)⟩
   split at h
   ·split at h
    ·split at h
     ·simp only [Option.some.injEq] at h;subst h;exact ⟨by show (unP (ts[0]?.getD [])).length<=_;omega,D,by simp,by simp⟩
     simp only [Option.some.injEq] at h;subst h;exact ⟨by show (unP (ts[0]?.getD [])).length<=_;omega,by simp,by rw [List.length_drop];show ts.length - 1<=1048576;omega,fun t z=>y t (List.mem_of_mem_drop z)⟩
    simp at h
   simp at h
def Q3x (o:Option Shq)(w:World)(e:Ending)(w':World):Prop :=
 Below w.heap.size w w'/\match o with
 | none=>e=.returned (.tuple #[.agg #[.int .i64 0,.slice none 0 0,.slice none 0 0,.slice none 0 0],.int .i64 1])
 | some s=>∃ (pa:Option Addr) (pc:Nat) (va:Option Addr) (vc:Nat) (ka:Option Addr) (kc:Nat) (ps:List (Value × List UInt8)),e=.returned (.tuple #[.agg #[.int .i64 s.1,.slice pa s.2.1.length pc,.slice va s.2.2.1.length vc,.slice ka s.2.2.2.length kc],.int .i64 0]) /\
   Q02 w' (.slice pa s.2.1.length pc) s.2.1/\Q02 w' (.slice va s.2.2.1.length vc) s.2.2.1/\Q12 w' (.slice ka s.2.2.2.length kc) ps/\ps.map (·.2)=s.2.2.2
theorem Qrz (a:Option Addr)(L c:Nat)(b:List UInt8)(N:b.length=L)(T:L<=1048576)(O:dec b=none)(w:World)(h:Q02 w (.slice a L c) b):Calls Tryz.prog 100 #[.slice a L c] w (Q3x none w):=by
 have hz:Blk 134 (w.alloc (.cells zsh.toArray 134)) w.heap.size zsh:=D01 w _ _;have V:Below w.heap.size w (w.alloc (.cells zsh.toArray 134)):=Qba _ _;have E:=fun u (y:Q02 u (.slice a L c) b)=>Q5k a L c b N T u y;have K:decE b=1:=by unfold decE;rw [O];rfl
 rw [K] at E;have C:=Qhd E;clear E K O N;go_enter Tryz.func100,Tryz.ntmps100
 go_wp2_with (first
  |(go_at_call 42;(with_reducible refine (C.out _ (h.alloc _)).mono ?_);rintro e z ⟨it,rfl,J,G,U,he,ad⟩;have a3:=hz.kept J;have W:=D00 V J;obtain ⟨l,tv,t,kv,ks⟩:=it;obtain ⟨ta,tc,rfl,_,_⟩:=G.is.inv.1.form;obtain ⟨ka,kc,rfl,_,_⟩:=G.is.inv.2.1.form;obtain ⟨tn,I⟩:=Qe (t.length);obtain ⟨kn,H⟩:=Qe (ks.length);have M:=G.is;rw [<-I,<-H] at M he U;rw [<-I,<-H];clear I H;simp only [Q0j])
  |((with_reducible refine Qgs 11 ?_);refine Qsa 77 4 11 z.heap.size [.bool l,.slice ta tn tc,.slice ka kn kc] Q09 (D01 z 77 [.bool false,.slice none 0 0,.slice none 0 0]) (by rfl) (by rfl) (by intro u y;simp at y;rcases y with rfl|rfl|rfl<;>rfl) (((Below.refl z.heap.size z).alloc (le_refl _) (.cells #[.bool false,.slice none 0 0,.slice none 0 0] 77))) (le_refl _) ?_;intro w4 h4 D _;have a4:=a3.kept D;have ac:=M.kept D;have Z:=D00 W D)
  |((with_reducible refine Qgs 15 ?_);refine Qsa 134 2 15 w.heap.size zsh Q0a a4 (by rfl) (by rfl) (by intro u y;simp [zsh] at y;rcases y with rfl|rfl<;>rfl) Z (le_refl _) ?_;intro w9 S a0 _))
 exact bodyPost_ret (v:=.tuple #[.agg #[.int .i64 0,.slice none 0 0,.slice none 0 0,.slice none 0 0],.int .i64 1]) (Q01 rfl _ _ w.heap.size Q0a S rfl rfl rfl) rfl ⟨a0,rfl⟩
theorem Qpe (a:Option Addr)(L c:Nat)(b:List UInt8)(J:b.length=L)(a0:L<=1048576)(p:Pit)(D:dec b=some p)(hs:shpP p=none)(w:World)(h:Q02 w (.slice a L c) b):Calls Tryz.prog 100 #[.slice a L c] w (Q3x none w):=by
 have hz:Blk 134 (w.alloc (.cells zsh.toArray 134)) w.heap.size zsh:=D01 w _ _;have a':Below w.heap.size w (w.alloc (.cells zsh.toArray 134)):=Qba _ _;have H:=fun u (y:Q02 u (.slice a L c) b)=>Q5k a L c b J a0 u y;have W:decE b=0:=by unfold decE;rw [D];rfl
 have hP:decP b=p:=by unfold decP;rw [D];rfl
 have a3:(encP p).length<=1048576:=by rw [<-Q36 D,J];exact a0
 rw [W] at H;have C:=Qhd H;have S:=Qhd hP;have HS:=Qhd hs;have a6:=Qhd a3;clear H W hP a3 D hs J;go_enter Tryz.func100,Tryz.ntmps100
 go_wp2_with (first
  |(go_at_call 42;(with_reducible refine (C.out _ (h.alloc _)).mono ?_);rintro e z ⟨it,rfl,T,I,a2,M,aF⟩;have ag:=hz.kept T;have aa:=D00 a' T;obtain ⟨l,tv,t,kv,ks⟩:=it;obtain ⟨ta,tc,rfl,_,_⟩:=I.is.inv.1.form;obtain ⟨ka,kc,rfl,_,_⟩:=I.is.inv.2.1.form;obtain ⟨tn,O⟩:=Qe (t.length);obtain ⟨kn,N⟩:=Qe (ks.length);have Z:=I.is;rw [<-O,<-N] at Z M a2;rw [<-O,<-N];clear O N;simp only [Q0j])
  |((with_reducible refine Qgs 11 ?_);refine Qsa 77 4 11 z.heap.size [.bool l,.slice ta tn tc,.slice ka kn kc] Q09 (D01 z 77 [.bool false,.slice none 0 0,.slice none 0 0]) (by rfl) (by rfl) (by intro u y;simp at y;rcases y with rfl|rfl|rfl<;>rfl) (((Below.refl z.heap.size z).alloc (le_refl _) (.cells #[.bool false,.slice none 0 0,.slice none 0 0] 77))) (le_refl _) ?_;intro w4 h4 G _;have ah:=ag.kept G;have a9:=Z.kept G;have ab:=D00 aa G)
  |(refine Qla 77 4 z.heap.size Q09 h4 (by rfl) ?_)
  |(go_at_call 126;(have K:=Q8q _ w4 a9 a2 (by rw [M,S.out];exact a6.out));rw [M,S.out,HS.out] at K;refine K.mono ?_;rintro e E ⟨U,ap,au,aw,av,aA,aC,aB,am,ar,ao,rfl⟩;clear K;have ai:=ah.kept U;have ac:=D00 ab U)
  |((with_reducible refine Qgs 20 ?_);refine Qsa 134 6 20 E.heap.size [.int .i64 ap,.slice au aw av,.slice aA aC aB,.slice am ar ao] Q0a (D01 E 134 zsh) (by rfl) (by rfl) (by intro u y;simp at y;rcases y with rfl|rfl|rfl|rfl<;>rfl) (((Below.refl E.heap.size E).alloc (le_refl _) (.cells zsh.toArray 134))) (le_refl _) ?_;intro w6 h6 V _;have aj:=ai.kept V;have ad:=D00 ac V)
  |((with_reducible refine Qgs 24 ?_);refine Qsa 134 2 24 w.heap.size zsh Q0a aj (by rfl) (by rfl) (by intro u y;simp [zsh] at y;rcases y with rfl|rfl<;>rfl) ad (le_refl _) ?_;intro w9 h9 ae _))
 exact bodyPost_ret (v:=.tuple #[.agg #[.int .i64 0,.slice none 0 0,.slice none 0 0,.slice none 0 0],.int .i64 1]) (Q01 rfl _ _ w.heap.size Q0a h9 rfl rfl rfl) rfl ⟨ae,rfl⟩
theorem Qpf (a:Option Addr)(L c:Nat)(b:List UInt8)(O:b.length=L)(ae:L<=1048576)(p:Pit)(s:Shq)(H:dec b=some p)(Z:shpP p=some s)(ho:okQ s=false)(w:World)(h:Q02 w (.slice a L c) b):Calls Tryz.prog 100 #[.slice a L c] w (Q3x none w):=by
 have hz:Blk 134 (w.alloc (.cells zsh.toArray 134)) w.heap.size zsh:=D01 w _ _;have ar:Below w.heap.size w (w.alloc (.cells zsh.toArray 134)):=Qba _ _;have K:=fun u (y:Q02 u (.slice a L c) b)=>Q5k a L c b O ae u y;have hE:decE b=0:=by unfold decE;rw [H];rfl
 have hP:decP b=p:=by unfold decP;rw [H];rfl
 have V:(encP p).length<=1048576:=by rw [<-Q36 H,O];exact ae
 rw [hE] at K;have C:=Qhd K;have HP:=Qhd hP;have HS:=Qhd Z;have an:=Qhd V;have ah:=Ql7 Z V;have G:=Qhd ah;have HO:=Qhd ho;clear K hE hP V H Z O ah ho;go_enter Tryz.func100,Tryz.ntmps100
 go_wp2_with (first
  |(go_at_call 42;(with_reducible refine (C.out _ (h.alloc _)).mono ?_);rintro e D ⟨it,rfl,b1,N,ag,T,aW⟩;have aI:=hz.kept b1;have au:=D00 ar b1;obtain ⟨l,tv,t,kv,ks⟩:=it;obtain ⟨ta,tc,rfl,_,_⟩:=N.is.inv.1.form;obtain ⟨ka,kc,rfl,_,_⟩:=N.is.inv.2.1.form;obtain ⟨tn,a0⟩:=Qe (t.length);obtain ⟨kn,U⟩:=Qe (ks.length);have ad:=N.is;rw [<-a0,<-U] at ad T ag;rw [<-a0,<-U];clear a0 U;simp only [Q0j])
  |((with_reducible refine Qgs 11 ?_);refine Qsa 77 4 11 D.heap.size [.bool l,.slice ta tn tc,.slice ka kn kc] Q09 (D01 D 77 [.bool false,.slice none 0 0,.slice none 0 0]) (by rfl) (by rfl) (by intro u y;simp at y;rcases y with rfl|rfl|rfl<;>rfl) (((Below.refl D.heap.size D).alloc (le_refl _) (.cells #[.bool false,.slice none 0 0,.slice none 0 0] 77))) (le_refl _) ?_;intro w4 h4 I _;have aJ:=aI.kept I;have aq:=ad.kept I;have av:=D00 au I)
  |(refine Qla 77 4 D.heap.size Q09 h4 (by rfl) ?_)
  |(go_at_call 126;(have S:=Q8q _ w4 aq ag (by rw [T,HP.out];exact an.out));rw [T,HP.out,HS.out] at S;refine S.mono ?_;rintro e E ⟨b5,a3,a4,a5,a6,a1,a2,ak,rfl,aC,aF,aA,W,aX⟩;clear S;have aK:=aJ.kept b5;have aw:=D00 av b5)
  |((with_reducible refine Qgs 20 ?_);refine Qsa 134 6 20 E.heap.size [.int .i64 s.1,.slice a3 s.2.1.length a4,.slice a5 s.2.2.1.length a6,.slice a1 s.2.2.2.length a2] Q0a (D01 E 134 zsh) (by rfl) (by rfl) (by intro u y;simp at y;rcases y with rfl|rfl|rfl|rfl<;>rfl) (((Below.refl E.heap.size E).alloc (le_refl _) (.cells zsh.toArray 134))) (le_refl _) ?_;intro w6 h6 z _;have aL:=aK.kept z;have ax:=D00 aw z;have aD:=aC.below z;have aG:=aF.below z;have aB:=aA.below z;have ai:ak.length=s.2.2.2.length:=(by have:=congrArg List.length W;simpa using this);have M:=Qcl s.1 a3 a5 a1 s.2.1.length a4 s.2.2.1.length a6 s.2.2.2.length a2 s.2.1 s.2.2.1 ak rfl rfl ai w6 aD aG aB G.out.1 G.out.2.1 G.out.2.2.1 (fun q hq=>G.out.2.2.2 _ (by rw [<-W];exact mem_map_of_mem hq));rw [W] at M;have aa:Calls Tryz.prog 127 #[.agg #[.int .i64 s.1,.slice a3 s.2.1.length a4,.slice a5 s.2.2.1.length a6,.slice a1 s.2.2.2.length a2]] w6 (Q1y (okQ s) (bQ s) w6):=M;rw [HO.out] at aa;clear M ai)
  |(refine Qla 134 6 E.heap.size Q0a h6 (by rfl) ?_)
  |(go_at_call 127;refine aa.mono ?_;rintro e w7 ⟨l7,ba,bc,bb,t7,aY,b0,aZ,b2,rfl,_,J⟩;have aM:=aL.kept J;have ay:=D00 ax J;have aV:=h6.kept J)
  |((with_reducible refine Qgs 32 ?_);refine Qsa 134 2 32 w.heap.size zsh Q0a aM (by rfl) (by rfl) (by intro u y;simp [zsh] at y;rcases y with rfl|rfl<;>rfl) ay (le_refl _) ?_;intro w9 h9 az _))
 exact bodyPost_ret (v:=.tuple #[.agg #[.int .i64 0,.slice none 0 0,.slice none 0 0,.slice none 0 0],.int .i64 1]) (Q01 rfl _ _ w.heap.size Q0a h9 rfl rfl rfl) rfl ⟨az,rfl⟩
theorem Qpd (a:Option Addr)(L c:Nat)(b:List UInt8)(hL:b.length=L)(aj:L<=1048576)(p:Pit)(s:Shq)(S:dec b=some p)(hs:shpP p=some s)(ho:okQ s=true)(w:World)(h:Q02 w (.slice a L c) b):Calls Tryz.prog 100 #[.slice a L c] w (Q3x (some s) w):=by
 have hz:Blk 134 (w.alloc (.cells zsh.toArray 134)) w.heap.size zsh:=D01 w _ _;have aC:Below w.heap.size w (w.alloc (.cells zsh.toArray 134)):=Qba _ _;have Z:=fun u (y:Q02 u (.slice a L c) b)=>Q5k a L c b hL aj u y;have hE:decE b=0:=by unfold decE;rw [S];rfl
 have hP:decP b=p:=by unfold decP;rw [S];rfl
 have a7:(encP p).length<=1048576:=by rw [<-Q36 S,hL];exact aj
 rw [hE] at Z;have C:=Qhd Z;have HP:=Qhd hP;have HS:=Qhd hs;have ax:=Qhd a7;have am:=Ql7 hs a7;have O:=Qhd am;have HO:=Qhd ho;clear Z hE hP a7 S hs hL am ho;go_enter Tryz.func100,Tryz.ntmps100
 go_wp2_with (first
  |(go_at_call 42;(with_reducible refine (C.out _ (h.alloc _)).mono ?_);rintro e N ⟨it,rfl,b1,hF,al,he,b9⟩;have aS:=hz.kept b1;have aD:=D00 aC b1;obtain ⟨l,tv,t,kv,ks⟩:=it;obtain ⟨ta,tc,rfl,_,_⟩:=hF.is.inv.1.form;obtain ⟨ka,kc,rfl,_,_⟩:=hF.is.inv.2.1.form;obtain ⟨tn,a'⟩:=Qe (t.length);obtain ⟨kn,a6⟩:=Qe (ks.length);have ai:=hF.is;rw [<-a',<-a6] at ai he al;rw [<-a',<-a6];clear a' a6;simp only [Q0j])
  |((with_reducible refine Qgs 11 ?_);refine Qsa 77 4 11 N.heap.size [.bool l,.slice ta tn tc,.slice ka kn kc] Q09 (D01 N 77 [.bool false,.slice none 0 0,.slice none 0 0]) (by rfl) (by rfl) (by intro u y;simp at y;rcases y with rfl|rfl|rfl<;>rfl) (((Below.refl N.heap.size N).alloc (le_refl _) (.cells #[.bool false,.slice none 0 0,.slice none 0 0] 77))) (le_refl _) ?_;intro w4 h4 W _;have au:=aS.kept W;have aB:=ai.kept W;have aE:=D00 aD W)
  |(refine Qla 77 4 N.heap.size Q09 h4 (by rfl) ?_)
  |(go_at_call 126;(have a4:=Q8q _ w4 aB al (by rw [he,HP.out];exact ax.out));rw [he,HP.out,HS.out] at a4;refine a4.mono ?_;rintro e D ⟨b5,I,J,K,M,G,H,aa,rfl,aM,aP,aK,T,aJ⟩;clear a4;have aT:=au.kept b5;have aF:=D00 aE b5)
  |((with_reducible refine Qgs 20 ?_);refine Qsa 134 6 20 D.heap.size [.int .i64 s.1,.slice I s.2.1.length J,.slice K s.2.2.1.length M,.slice G s.2.2.2.length H] Q0a (D01 D 134 zsh) (by rfl) (by rfl) (by intro u y;simp at y;rcases y with rfl|rfl|rfl|rfl<;>rfl) (((Below.refl D.heap.size D).alloc (le_refl _) (.cells zsh.toArray 134))) (le_refl _) ?_;intro w6 h6 E _;have aU:=aT.kept E;have aG:=D00 aF E;have aq:=aM.below E;have ar:=aP.below E;have an:=aK.below E;have ao:aa.length=s.2.2.2.length:=(by have:=congrArg List.length T;simpa using this);have ci:=Qcl s.1 I K G s.2.1.length J s.2.2.1.length M s.2.2.2.length H s.2.1 s.2.2.1 aa rfl rfl ao w6 aq ar an O.out.1 O.out.2.1 O.out.2.2.1 (fun q hq=>O.out.2.2.2 _ (by rw [<-T];exact mem_map_of_mem hq));rw [T] at ci;have af:Calls Tryz.prog 127 #[.agg #[.int .i64 s.1,.slice I s.2.1.length J,.slice K s.2.2.1.length M,.slice G s.2.2.2.length H]] w6 (Q1y (okQ s) (bQ s) w6):=ci;rw [HO.out] at af;clear ci ao)
  |(refine Qla 134 6 D.heap.size Q0a h6 (by rfl) ?_)
  |(go_at_call 127;refine af.mono ?_;rintro e w7 ⟨l7,bg,bi,bh,t7,b',bb,ba,bc,rfl,_,z⟩;have V:=aU.kept z;have aH:=D00 aG z;have az:=h6.kept z)
  |(refine Qla 134 6 D.heap.size Q0a az (by rfl) ?_)
  |((with_reducible refine Qgs 33 ?_);refine Qsa 134 2 33 w.heap.size [.int .i64 s.1,.slice I s.2.1.length J,.slice K s.2.2.1.length M,.slice G s.2.2.2.length H] Q0a V (by rfl) (by rfl) (by intro u y;simp at y;rcases y with rfl|rfl|rfl|rfl<;>rfl) aH (le_refl _) ?_;intro w9 h9 aI g9))
 have a8:∀ x∈zsh,∀ k,x≠.int .u8 k:=by intro x U k;simp [zsh] at U;rcases U with rfl|rfl<;>simp
 have aN:=Q02.off_v (aq.below z) V a8 g9;have aQ:=Q02.off_v (ar.below z) V a8 g9;have aL:=Q12.offB (an.below z) V a8 g9 (fun x U e=>by have:=aJ x U;have:=au.lt;omega);exact bodyPost_ret (Q01 rfl _ _ w.heap.size Q0a h9 rfl rfl rfl) rfl ⟨aI,I,J,K,M,G,H,aa,rfl,aN,aQ,aL,T⟩
structure Shp where
 kd:Int
 pv:Value
 p:List UInt8
 vv:Value
 v:List UInt8
 kv:Value
 ps:List (Value × List UInt8)
def Q2p (s:Shp):List Value:=[.int .i64 s.kd,s.pv,s.vv,s.kv]
structure Quh (w:World)(s:Shp):Prop where
 hp:Q02 w s.pv s.p
 hv:Q02 w s.vv s.v
 hk:Q12 w s.kv s.ps
theorem Qcx:El0 Tryz.prog 208 134 (.agg #[.int .i64 0,.slice none 0 0,.slice none 0 0,.slice none 0 0]) 4 80 Q2p:=⟨by kernel_rfl,by kernel_rfl,rfl,by omega,fun _=>rfl⟩
def toQ (s:Shp):Shq:=(s.kd,s.p,s.v,s.ps.map (·.2))
def zShp:Shp:=⟨0,.slice none 0 0,[],.slice none 0 0,[],.slice none 0 0,[]⟩
theorem Qrh (w:World):Quh w zShp:=⟨Q05.nil b8 1 w,Q05.nil b8 1 w,⟨Q05.nil Q0p 1 w,by simp [zShp]⟩⟩
def hitQ (b:List UInt8)(s:Shq):Bool:=okQ s && decide (bQ s=b)
theorem Q9q {b:List UInt8}:∀ {l:List Shq} {k:Nat} {s:Shq},(∀ (j:Nat) (x:Shq),j<k->l[j]?=some x->hitQ b x=false)->l[k]?=some s->hitQ b s=true->l.find? (hitQ b)=some s
 | [],k,s,_,h,_=>by simp at h
 | x::l,0,s,_,h,hs=>by
  simp only [List.getElem?_cons_zero,Option.some.injEq] at h;subst h;rw [List.find?_cons_of_pos hs]
 | x::l,k+1,s,hj,h,hs=>by
  rw [List.find?_cons_of_neg (by rw [hj 0 x (by omega) rfl];simp)];exact Q9q (k:=k) (fun j y D z=>hj (j+1) y (by omega) (by simpa using z)) (by simpa using h) hs
theorem Qcv {b:List UInt8}{l:List Shq}(h:∀ (j:Nat) (x:Shq),l[j]?=some x->hitQ b x=false):l.find? (hitQ b)=none:=by
 rw [List.find?_eq_none];intro x z;obtain ⟨j,y⟩:=List.getElem?_of_mem z;rw [h j x y];simp
theorem Q3s (l:List (List UInt8))(b:List UInt8):hrd l b=(Q1t l).find? (hitQ b):=rfl
structure HrW (w:World)(g4:Nat)(box:List Value)(u:World):Prop where
 hb:Below w.heap.size w u
 hz:Blk 134 u w.heap.size zsh
 h4:Blk 77 u g4 box
 hg:w.heap.size<g4
theorem HrW.kept {w u u':World}{D:Nat}{z:List Value}(h:HrW w D z u)(y:Below u.heap.size u u'):HrW w D z u':=⟨D00 h.hb y,h.hz.kept y,h.h4.kept y,h.hg⟩
theorem HrW.grown {w u u':World}{y:Nat}{E:List Value}{row:Option Nat}(h:HrW w y E u)(z:u.grownBy u' row)(D:∀ x,row=some x->y<x):HrW w y E u' :=
 ⟨h.hb.grown z h.hb.size (fun x G=>by have:=D x G;have:=h.hg;omega),h.hz.grown z (fun e=>by have:=D _ e;have:=h.hg;omega),h.h4.grown z (fun e=>by have:=D _ e;omega),h.hg⟩
theorem Qg1 (a:Option Addr)(L c:Nat)(b:List UInt8)(hL:b.length=L)(aY:L<=1048576)(p:Pit)(hd:dec b=some p)(h2:Q66 p≠2)(aV:Q66 p≠17)(w:World)(h:Q02 w (.slice a L c) b):Calls Tryz.prog 128 #[.slice a L c] w (Q3x (rdB b) w):=by
 have hz:Blk 134 (w.alloc (.cells zsh.toArray 134)) w.heap.size zsh:=D01 w _ _;have bR:Below w.heap.size w (w.alloc (.cells zsh.toArray 134)):=Qba _ _;have bU:=hz.lt;have cc:=fun u (D:Q02 u (.slice a L c) b)=>Q3d a L c b hL aY u D;have hE:decE b=0:=by unfold decE;rw [hd];rfl
 have hP:decP b=p:=by unfold decP;rw [hd];rfl
 have bf:(encP p).length<=1048576:=by rw [<-Q36 hd,hL];exact aY
 have aC:=fun (l:List (List UInt8)) (hk:Q5b p l)=>Qi7 b p l hd (by omega) hk;obtain ⟨O,J⟩:=Qe (rdB b);rw [<-J] at aC;rw [<-J];rw [hE] at cc;have C:=Qhd cc;have HP:=Qhd hP;have bx:=Qhd bf;have bw:=Qhd aC;have HL:=Qhd hL;clear cc hE hP bf aC J hd hL;go_enter Tryz.func128,Tryz.ntmps128
 go_wp2_with (first
  |(go_at_call 45;(with_reducible refine (C.out _ (h.alloc _)).mono ?_);rintro e T ⟨it,rfl,b1,hF,b7,he⟩;have bm:=hz.kept b1;have b9:=D00 bR b1;obtain ⟨l,tv,t,kv,ks⟩:=it;have bd:ks.length=Q66 p/\Q5b p (ks.map itt)/\ks.map itt=kidT p:=Qcj b7 (he.trans HP.out);obtain ⟨ta,tc,rfl,_,_⟩:=hF.is.inv.1.form;obtain ⟨ka,kc,rfl,_,_⟩:=hF.is.inv.2.1.form;obtain ⟨tn,aG⟩:=Qe (t.length);obtain ⟨z,af⟩:=Qe (ks.length);have aw:=hF.is;rw [<-aG,<-af] at aw;rw [<-aG,<-af];have I:=Qhd af.symm;have a9:=Qhd bd;have bj:=b1.size;clear aG af bd he b7;simp only [Q0j])
  |((with_reducible refine Qgs 20 ?_);refine Qsa 77 4 20 T.heap.size [.bool l,.slice ta tn tc,.slice ka z kc] Q09 (D01 T 77 [.bool false,.slice none 0 0,.slice none 0 0]) (by rfl) (by rfl) (by intro u D;simp at D;rcases D with rfl|rfl|rfl<;>rfl) (((Below.refl T.heap.size T).alloc (le_refl _) (.cells #[.bool false,.slice none 0 0,.slice none 0 0] 77))) (le_refl _) ?_;intro H h4 b4 _;have G4:HrW w T.heap.size [.bool l,.slice ta tn tc,.slice ka z kc] H:=⟨D00 b9 b4,bm.kept b4,h4,Nat.lt_of_lt_of_le bU bj⟩;have aX:=aw.kept b4;have bF:H.cell? ⟨T.heap.size,2,none⟩=some (.slice ka z kc):=h4.cell 2))
 have bW:=aX.inv.2.1;have bc:=aX.inv.2.2;obtain ⟨g4,aB⟩:=Qe (T.heap.size);rw [<-aB] at G4;rw [<-aB];have cm:g4<H.heap.size:=G4.h4.lt;have bv:=Qhd bc;have ck:z<=1048576:=by have h1:=Q87 p;have h2:=bx.out;have h3:=a9.out.1;have h4:=I.out;omega
 clear bF bc aB bm b9 b1 aw hF bj h4 b4
 go_loopw [6,28] (fun lv M wr=>∃ (i:Nat) (ps:List (Value × List UInt8)),i<=z/\M=.int .i64 (i:Int)/\HrW w g4 [.bool l,.slice ta tn tc,.slice ka z kc] wr/\Below H.heap.size H wr/\Q08 Q0p 1 25 wr H.heap.size lv ps/\Hid (ps.map (·.2)=(ks.map itt).take i)/\Hid (∀ q∈ps,Q02 H q.1 q.2)) (fun _ M _=>z - (intOf M).toNat)
 case atStart=>exact ⟨0,[],by omega,rfl,G4,Below.refl _ _,Q08.nil Q0p 1 _ _ _,Qhd rfl,Qhd (by simp)⟩
 case round =>
  clear G4;obtain ⟨i,ps,ci,rfl,G,az,J,aq,bt⟩:=hrel;have aD:ps.length=i:=by
   have:=congrArg List.length aq.out;simp only [length_map,length_take] at this;have h2:=I.out;omega
  obtain ⟨la,lc,rfl,_⟩:=J.form' i aD;have ap:=Qhd aD;clear aD;by_cases hlt:i<z
  ·have ch:(i:Int)<(z:Int):=by omega
   have ag:i<ks.length:=by rw [I.out];exact hlt
   obtain ⟨b2,bn,rfl,hr⟩:=Q05.range Q0k (bW.below az) i ag;have a3:=bv.out _ (getElem_mem ag);have ah:(ks.map itt).take (i+1)=(ks.map itt).take i++[itt ks[i]]:=by
    rw [List.take_succ_eq_append_getElem (by rw [length_map];exact ag),List.getElem_map]
   obtain ⟨kid,bb⟩:=Qe (ks[i]);rw [<-bb] at hr a3 ah;obtain ⟨l2,cw,Z,cp,c3⟩:=kid;obtain ⟨N,S,rfl,_,_⟩:=a3.inv.1.form;obtain ⟨aI,aJ,rfl,_,_⟩:=a3.inv.2.1.form;have ay:Q02 H (.slice N Z.length S) Z:=a3.inv.1;obtain ⟨a0,aH⟩:=Qe (Z.length);obtain ⟨aK,a5⟩:=Qe (c3.length);rw [<-aH,<-a5] at hr;rw [<-aH] at ay;change wr.rangeAt b2 (bn+i*3) [.bool l2,.slice N a0 S,.slice aI aK aJ] at hr;change (ks.map itt).take (i+1)=(ks.map itt).take i++[Z] at ah;have bz:=Qhd ah;have bu:=Qhd ay;have V:Below wr.heap.size wr (wr.alloc (.cells #[.bool l2,.slice N a0 S,.slice aI aK aJ] 77)):=Qba _ _;have G2:=G.kept V;have bM:=D00 az V;have O2:=J.kept V;clear bb a3 aH a5 ah ay ag
   go_wp2_with (first
    |(refine wpList_load_mid (op:=⟨some 31,_,_,_,_,_⟩) (by rfl) 77 (.tmp 30) (by rfl) b2 (bn+i*3) (by rfl) [.bool l2,.slice N a0 S,.slice aI aK aJ] _ hr Tryz.underlying77 rfl (by kernel_rfl) ?_)
    |(refine Q0o (o:=⟨some 35,_,_,_,_,_⟩) (by rfl) 44 1 [(0,.tmp 34)] (by rfl) Q69 [(.slice N a0 S,Z)] [.slice N a0 S] (by rfl) (by rfl) (by rfl) (by omega) (by omega) ?_;intro w6 _ aF b6;have G6:=G2.kept b6;have O6:=O2.kept b6;have aA:=D00 bM b6;have bV:H.heap.size<=w6.heap.size:=aA.size)
    |(refine Q0t (o:=⟨some 36,_,_,_,_,_⟩) (by rfl) (.tmp 32) (.tmp 35) 44 (by rfl) Q69 (by intro u D;simp [Q0p] at D;subst D;rfl) (by rfl) O6 (by rfl) aF bV (by rw [ap.out];simp;omega) (by rw [ap.out];unfold maxLen;simp;omega) ?_;intro v7 w7 aZ aT _;obtain ⟨cr,cu,rfl,_⟩:=aZ.form' (i+1) (by rw [length_append,ap.out];rfl);have G7:=G6.grown aT (fun x E=>by have:=O6.lt x E;omega);have bN:=aA.grown aT aA.size (fun x E=>O6.lt x E)))
   go_roundw
   case rel=>exact ⟨i+1,ps++[(.slice N a0 S,Z)],by omega,by go_num,G7,bN,aZ,Qhd (by rw [List.map_append,aq.out,bz.out];rfl),Qhd (by intro q W;rcases List.mem_append.1 W with W|W;exact bt.out q W;rw [List.mem_singleton] at W;subst W;exact bu.out)⟩
   case measure=>simp [intOf];omega
  obtain rfl:z=i:=by omega
  have bh:ps.map (·.2)=ks.map itt:=by rw [aq.out,List.take_of_length_le (by rw [length_map,I.out];exact le_refl _)]
  have bi:hrd (ks.map itt) b=O:=bw.out _ a9.out.2.1;have a5:z≠2:=fun e=>h2 (by rw [<-a9.out.1,I.out];exact e);have be:z≠17:=fun e=>aV (by rw [<-a9.out.1,I.out];exact e);have cd:((z:Int)==17)=false:=by rw [beq_eq_false_iff_ne];omega
  have ce:((z:Int)==2)=false:=by rw [beq_eq_false_iff_ne];omega
  have bk:Q1t (ks.map itt)=[zShp].map toQ:=by
   unfold Q1t;rw [length_map,I.out,if_neg a5,if_neg be];rfl
  have aQ:=Qhd bk;have aP:=Qhd bi;have c':=Qhd bh;clear bk bi bh h2 aV a5 be
  go_wp2_with (refine Q0o (o:=⟨some 39,_,_,_,_,_⟩) (by rfl) 208 1 [(0,.tmp 38)] (by rfl) Qcx [zShp] [.agg #[.int .i64 0,.slice none 0 0,.slice none 0 0,.slice none 0 0]] (by rfl) (by rfl) (by rfl) (by omega) (by omega) ?_;intro w6 cg aF b6;have G6:=G.kept b6)
  clear G az J
  go_loopw [81] (fun M wr=>∃ k:Nat,k<=1/\M=.int .i64 (k:Int)/\HrW w g4 [.bool l,.slice ta tn tc,.slice ka z kc] wr/\Below w6.heap.size w6 wr/\Hid (∀ (j:Nat) (x:Shp),j<k->[zShp][j]?=some x->hitQ b (toQ x)=false)) (fun M _=>1 - (intOf M).toNat)
  case atStart=>exact ⟨0,by omega,rfl,G6,Below.refl _ _,Qhd (fun j x K=>by omega)⟩
  case round =>
   obtain ⟨k,cj,rfl,G,b5,bB⟩:=hrel;by_cases hlk:k<1
   ·have cl:(k:Int)<1:=by omega
    obtain ⟨b3,o3,e3,aE⟩:=Q05.range (f:=Q2p) (size:=4) (fun _=>rfl) (aF.below b5) k (by simpa using hlk);obtain ⟨rfl,rfl⟩:b3=_/\o3=_:=by simpa using e3.symm
    obtain rfl:k=0:=by omega
    change wr.rangeAt _ (0+0*4) [.int .i64 0,.slice none 0 0,.slice none 0 0,.slice none 0 0] at aE;have b':∀ u:World,Calls Tryz.prog 136 #[.agg #[.int .i64 0,.slice none 0 0,.slice none 0 0,.slice none 0 0]] u fun e w'=>∃ v,e=.returned (.tuple #[v,.int .i64 0])/\Q02 w' v (Q1q [])/\Below u.heap.size u w':=fun u=>Q6q 0 none none none 0 0 0 0 0 0 [] [] [] rfl rfl rfl u (Q05.nil b8 1 u) (Q05.nil b8 1 u) ⟨Q05.nil Q0p 1 u,by simp⟩ (by omega) (by omega) (by omega) (by simp);have V:Below wr.heap.size wr (wr.alloc (.cells #[.int .i64 0,.slice none 0 0,.slice none 0 0,.slice none 0 0] 134)):=Qba _ _;have G8:=G.kept V;have bO:=D00 b5 V;have aU:=D01 wr 134 zsh;have bH:Blk 134 (wr.alloc (.cells #[.int .i64 0,.slice none 0 0,.slice none 0 0,.slice none 0 0] 134)) wr.heap.size zsh:=aU;have aO:=Qhd b';have cn:toQ zShp=(0,[],[],[]):=rfl;clear b' aU e3;by_cases heq:Q1q []=b
    ·have bL:O=some (0,[],[],[]):=by
      rw [<-aP.out,Q3s,aQ.out];exact Q9q (k:=0) (fun j x K=>by omega) rfl (by show (okQ (0,[],[],[])&&decide (bQ (0,[],[],[])=b))=true;rw [decide_eq_true (show bQ (0,[],[],[])=b from heq)];rfl)
     subst bL
     go_wp2_with (first
      |(refine wpList_load_mid (op:=⟨some 84,_,_,_,_,_⟩) (by rfl) 134 (.tmp 83) (by rfl) _ (0+0*4) (by rfl) [.int .i64 0,.slice none 0 0,.slice none 0 0,.slice none 0 0] _ aE Tryz.underlying134 rfl (by kernel_rfl) ?_)
      |(go_at_call 136;(with_reducible refine (aO.out _).mono ?_);rintro e w8 ⟨v8,rfl,r8,a2⟩;have U:=G8.kept a2;have bI:=bH.kept a2;have s1:=Q0q (P:=Tryz.prog) (src:=25) (dst:=9) elU8.ht (by kernel_rfl) (by kernel_rfl) r8;have s2:=Q0q (P:=Tryz.prog) (src:=25) (dst:=9) elU8.ht (by kernel_rfl) (by kernel_rfl) (h.below U.hb);rw [heq] at s1)
      |(refine Qla 134 14 wr.heap.size Q0a bI (by rfl) ?_)
      |((with_reducible refine Qgs 99 ?_);refine Qsa 134 2 99 w.heap.size zsh Q0a U.hz (by rfl) (by rfl) (by intro u D;simp [zsh] at D;rcases D with rfl|rfl<;>rfl) U.hb (le_refl _) ?_;intro aM bG bS _))
     exact bodyPost_ret (v:=.tuple #[.agg #[.int .i64 0,.slice none 0 0,.slice none 0 0,.slice none 0 0],.int .i64 0]) (Q01 rfl _ _ w.heap.size Q0a bG rfl rfl rfl) rfl ⟨bS,none,0,none,0,none,0,[],rfl,Q05.nil b8 1 aM,Q05.nil b8 1 aM,⟨Q05.nil Q0p 1 aM,by simp⟩,rfl⟩
    have bX:(Q1q []==b)=false:=by rw [beq_eq_false_iff_ne];exact heq
    have bY:decide (Q1q []=b)=false:=decide_eq_false heq;have bZ:decide ((⟨(Q1q []).toArray⟩:ByteArray)=⟨b.toArray⟩)=false:=by
     rw [decide_eq_false_iff_not];intro e;apply heq;simpa using congrArg (fun x:ByteArray=>x.data.toList) e
    have bg:∀ (j:Nat) (x:Shp),j<1->[zShp][j]?=some x->hitQ b (toQ x)=false:=fun j x K E=>by
     obtain rfl:j=0:=by omega
     simp only [List.getElem?_cons_zero,Option.some.injEq] at E;subst E;unfold hitQ;rw [decide_eq_false (show ¬ bQ (toQ zShp)=b from heq)];simp
    have bC:=Qhd bg;obtain ⟨TB,ax⟩:=Qe (Q1q []);rw [<-ax] at bZ bX bY;have bs:=Qhd ax;clear bg heq ax
    go_wp2_with (first
     |(refine wpList_load_mid (op:=⟨some 84,_,_,_,_,_⟩) (by rfl) 134 (.tmp 83) (by rfl) _ (0+0*4) (by rfl) [.int .i64 0,.slice none 0 0,.slice none 0 0,.slice none 0 0] _ aE Tryz.underlying134 rfl (by kernel_rfl) ?_)
     |(go_at_call 136;(with_reducible refine (aO.out _).mono ?_);rintro e w8 ⟨v8,rfl,r8,a2⟩;have U:=G8.kept a2;have bP:=D00 bO a2;rw [<-bs.out] at r8;have s1:=Q0q (P:=Tryz.prog) (src:=25) (dst:=9) elU8.ht (by kernel_rfl) (by kernel_rfl) r8;have s2:=Q0q (P:=Tryz.prog) (src:=25) (dst:=9) elU8.ht (by kernel_rfl) (by kernel_rfl) (h.below U.hb)))
    go_roundw
    case rel=>exact ⟨1,by omega,by go_num,U,bP,bC⟩
    case measure=>simp [intOf]
   obtain rfl:k=1:=by omega
   have bK:O=none:=by
    rw [<-aP.out,Q3s,aQ.out];exact Qcv (fun j x E=>by
     rw [List.getElem?_map] at E;cases K:[zShp][j]? with
     | none=>rw [K] at E;simp at E
     | some y =>
      rw [K] at E;simp only [Option.map_some,Option.some.injEq] at E;subst E;exact bB.out j y (by have:=(List.getElem?_eq_some_iff.1 K).1;simpa using this) K)
   subst bK;have c0:=G.hz
   go_wp2_with ((with_reducible refine Qgs 101 ?_);refine Qsa 134 2 101 w.heap.size zsh Q0a c0 (by rfl) (by rfl) (by intro u D;simp [zsh] at D;rcases D with rfl|rfl<;>rfl) G.hb (le_refl _) ?_;intro w9 h9 bT _)
   exact bodyPost_ret (v:=.tuple #[.agg #[.int .i64 0,.slice none 0 0,.slice none 0 0,.slice none 0 0],.int .i64 1]) (Q01 rfl _ _ w.heap.size Q0a h9 rfl rfl rfl) rfl ⟨bT,rfl⟩
theorem Qq5 (a:Option Addr)(L c:Nat)(b:List UInt8)(J:b.length=L)(S:L<=1048576)(K:dec b=none)(w:World)(h:Q02 w (.slice a L c) b):Calls Tryz.prog 128 #[.slice a L c] w (Q3x none w):=by
 have Z:Blk 134 (w.alloc (.cells zsh.toArray 134)) w.heap.size zsh:=D01 w _ _;have T:Below w.heap.size w (w.alloc (.cells zsh.toArray 134)):=Qba _ _;have D:=fun u (y:Q02 u (.slice a L c) b)=>Q3d a L c b J S u y;have H:decE b=1:=by unfold decE;rw [K];rfl
 rw [H] at D;have C:=Qhd D;clear D H K J;go_enter Tryz.func128,Tryz.ntmps128
 go_wp2_with (first
  |(go_at_call 45;(with_reducible refine (C.out _ (h.alloc _)).mono ?_);rintro e z ⟨it,rfl,E,I,a',he⟩;have a0:=Z.kept E;have U:=D00 T E;obtain ⟨l,tv,t,kv,ks⟩:=it;obtain ⟨ta,tc,rfl,_,_⟩:=I.is.inv.1.form;obtain ⟨ka,kc,rfl,_,_⟩:=I.is.inv.2.1.form;obtain ⟨tn,N⟩:=Qe (t.length);obtain ⟨kn,M⟩:=Qe (ks.length);simp only [Q0j];rw [<-N,<-M];clear N M)
  |((with_reducible refine Qgs 20 ?_);refine Qsa 77 4 20 z.heap.size [.bool l,.slice ta tn tc,.slice ka kn kc] Q09 (D01 z 77 [.bool false,.slice none 0 0,.slice none 0 0]) (by rfl) (by rfl) (by intro u y;simp at y;rcases y with rfl|rfl|rfl<;>rfl) (((Below.refl z.heap.size z).alloc (le_refl _) (.cells #[.bool false,.slice none 0 0,.slice none 0 0] 77))) (le_refl _) ?_;intro w4 h4 G _;have a1:=a0.kept G;have V:=D00 U G)
  |((with_reducible refine Qgs 24 ?_);refine Qsa 134 2 24 w.heap.size zsh Q0a a1 (by rfl) (by rfl) (by intro u y;simp [zsh] at y;rcases y with rfl|rfl<;>rfl) V (le_refl _) ?_;intro w9 O W _))
 exact bodyPost_ret (v:=.tuple #[.agg #[.int .i64 0,.slice none 0 0,.slice none 0 0,.slice none 0 0],.int .i64 1]) (Q01 rfl _ _ w.heap.size Q0a O rfl rfl rfl) rfl ⟨W,rfl⟩
theorem Qap {a z:Option Addr}{E H c size m D:Nat}(h:sliced a E H c size=.slice z m D)(k:Nat)(y:(Value.slice z m D).ownBlock=some k):∀ n d,(Value.slice a n d).ownBlock=some k:=by
 intro n d;unfold sliced at h;simp only [Value.slice.injEq] at h;rw [<-h.1] at y;cases a with
 | none=>simp [Value.ownBlock] at y
 | some p =>
  have G:∀ j,(p.add j).block=p.block:=fun j=>by unfold Addr.add;split<;>rfl
  by_cases hc:c=E
  ·rw [if_pos hc] at y;exact y
  rw [if_neg hc] at y;simp only [Option.map_some,Value.ownBlock,G] at y;exact y
theorem Qno {α:Type}{f:α->List Value}{P:Program}{t e:TypeId}{z:Value}{size bytes:Nat}(el:El0 P t e z size bytes f){w:World}{a:Option Addr}{n c:Nat}{l:List α}(h:Q05 f size w (.slice a n c) l)(lo:Nat)(h1:lo<=n)(x:Int)(hx:x=lo) :
  ∃ y D,(∀ k w',(Instr.slice t (.slice a n c) (some (.int k x)) none none).run P w'=.ok (.slice y (n - lo) D) w')/\Q05 f size w (.slice y (n - lo) D) (l.drop lo)/\∀ k,(Value.slice y (n - lo) D).ownBlock=some k->∀ m d,(Value.slice a m d).ownBlock=some k:=by
 subst hx;obtain ⟨K,N,M⟩:=h.fits;obtain ⟨y,D,E,H⟩:=h.part el.hf el.hsz lo n h1 (le_refl _);obtain ⟨i,I,_,L,_⟩:=el.info;have G:P.elem t=e:=by unfold Program.elem;rw [el.ht]
 refine ⟨y,D,fun k w'=>?_,by subst K;simpa using H,fun k J=>Qap E k J⟩;rw [run_slice_l (P:=P) w' (t:=t) (a:=a) (len:=n) (cap:=c) (by rw [G];exact el.ht) k (lo:Int) (by omega) (by omega)];rw [G];simp [sizeOf,typeInfo,I,L,<-E]
theorem Qrm {α:Type}{f:α->List Value}{P:Program}{t e:TypeId}{z:Value}{size bytes:Nat}(el:El0 P t e z size bytes f){w:World}{a:Option Addr}{n c:Nat}{l:List α}(h:Q05 f size w (.slice a n c) l)(hi:Nat)(h1:hi<=n)(x:Int)(hx:x=hi) :
  ∃ y D,(∀ k w',(Instr.slice t (.slice a n c) none (some (.int k x)) none).run P w'=.ok (.slice y hi D) w')/\Q05 f size w (.slice y hi D) (l.take hi)/\∀ k,(Value.slice y hi D).ownBlock=some k->∀ m d,(Value.slice a m d).ownBlock=some k:=by
 subst hx;obtain ⟨M,N,L⟩:=h.fits;obtain ⟨y,D,E,H⟩:=h.part el.hf el.hsz 0 hi (Nat.zero_le _) h1;obtain ⟨i,I,_,K,_⟩:=el.info;have G:P.elem t=e:=by unfold Program.elem;rw [el.ht]
 refine ⟨y,D,fun k w'=>?_,by simpa using H,fun k J=>Qap E k J⟩;rw [run_slice_h (P:=P) w' (t:=t) (a:=a) (len:=n) (cap:=c) (by rw [G];exact el.ht) k (hi:Int) (by omega) (by omega)];rw [G];simp [sizeOf,typeInfo,I,K] at E |-;exact E
theorem Q5z {α:Type}{f:α->List Value}{P:Program}{w:World}{ops:Array Oper}{rest:List Oper}{o:Oper}{a:Act}{Q:Exit->Act->World->Prop}(hgd:o.guard=none)(s x:Operand)(t:TypeId)
  (ho:o.op=.call { callee:=.builtin .append,args:=#[s,x],argTypes:=#[t,t] })
  {e:TypeId} {z:Value} {size bytes:Nat}(el:El0 P t e z size bytes f)
  {ao:Option Addr} {n cap:Nat} {l m:List α}(h1:∀ u∈m.flatMap f,u.oneCell'=true) (hs:a.eval s=.slice ao n cap) (hrow1:Q05 f size w (.slice ao n cap) l)
  {u:Value}(hx:a.eval x=u) (hrow:Q05 f size w u m) (hm0:m.length≠0) (hfull:cap<n+m.length)
  (hbytes:(l.length+m.length)*bytes<=140737488355328) (h63:l.length+m.length<=maxLen)
  (h:∀ D w',Q05 f size w' D (l++m)->Below w.heap.size w w'->wpList P ops Q rest (a.put o.dst D) w'):wpList P ops Q (o::rest) a w:=by
 obtain ⟨i,T,hz,Z,S⟩:=el.info;have I:∀ (b off j:Nat),(⟨b,off,none⟩:Addr).add j=⟨b,off+j,none⟩:=fun b off j=>by unfold Addr.add;split<;>simp_all
 obtain ⟨k0,a9,c',K,_,_,L⟩:=hrow1;simp only [Value.slice.injEq] at K;obtain ⟨rfl,rfl,rfl⟩:=K;obtain ⟨O,ad,c,rfl,_,_,E⟩:=hrow;rcases E with ⟨_,W,_⟩|⟨b,off,sp,rfl,a0,E⟩
 ·exact absurd W hm0
 obtain rfl:sp=none:=a0.resolve_right hm0;refine wpList_append_grows w hgd s x t ho e i z size bytes el.ht T hz Z S el.hzs el.hsz ao l.length cap (l.flatMap f) hs ?_ k0 ?_ ⟨b,off,none⟩ m.length c (m.flatMap f) hx O (fun j y hy=>by rw [I];exact E j y hy) h1 hfull h63 hbytes
  (fun D w' G H=>h D w' (by
   have:Q08 f size e w' w.heap.size D (l++m):=by unfold Q08;rw [length_append,List.flatMap_append];exact G
   exact this.row) ((Below.refl _ _).grown H (le_refl _) (fun k U=>by cases U)))
 ·rintro rfl;rcases L with ⟨_,G,H⟩|⟨N,a5,M,q,_⟩
  ·exact ⟨G,H⟩
  cases q
 rintro b1 rfl j u J;rcases L with ⟨q,_,_⟩|⟨N,a5,M,q,a1,q3⟩
 ·cases q
 cases q;have:M=none:=by
  rcases a1 with rfl|V
  ·rfl
  have:l=[]:=List.eq_nil_of_length_eq_zero V;subst this;simp at J
 subst this;rw [I];exact q3 j u J
end Go.Proofs.YtbdmkfjgnjfjbaaGreat
