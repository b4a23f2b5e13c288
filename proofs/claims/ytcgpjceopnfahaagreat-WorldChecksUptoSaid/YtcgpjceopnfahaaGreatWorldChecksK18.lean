/- What bytes are read as an item: plain Lean, no program in sight. | What an item that the call made hangs on; how a slice and its parts are read in any world. |  -/
import Derived.Test.YtcgpjceopnfahaaGreatWorldChecksK10
import Derived.Test.YtcgpjceopnfahaaGreatWorldChecksK01
set_option linter.unusedSimpArgs false
set_option linter.unusedVariables false
set_option maxHeartbeats 4000000
set_option maxRecDepth 100000
namespace Go.Proofs.YtcgpjceopnfahaaGreat
open Go.RowKit
inductive Pit where
 | txt (t:List UInt8)
 | lst (ks:List Pit)
def erI:Itm→Pit
 | .mk l _ t _ ks=>if l=true then .lst (ks.attach.map fun ⟨k,_⟩=>erI k) else .txt t
theorem erI_mk (l:Bool)(tv:Value)(t:List UInt8)(kv:Value)(ks:List Itm):erI (.mk l tv t kv ks)=if l=true then .lst (ks.map erI) else .txt t:=by
 rw [erI]
 simp
inductive BareI:Itm→Prop where
 | txt (tv:Value) (t:List UInt8) (kv:Value):BareI (.mk false tv t kv [])
 | lst (tv kv:Value) (ks:List Itm) (h:∀ k∈ks,BareI k):BareI (.mk true tv [] kv ks)
def hdr (c base:Nat)(r:List UInt8):Option (Nat × List UInt8) :=
 if c<base+48 then some (c - base,r)
 else if r.length<c - base - 48+1 then none
 else if (r.take (c - base - 48+1)).head?=some 0∨8<c - base - 48+1 then none
 else if numL (r.take (c - base - 48+1))<48 then none
 else some (numL (r.take (c - base - 48+1)),r.drop (c - base - 48+1))
def own1 (k:Nat)(r:List UInt8):Bool:=decide (k=1) && decide ((r[0]?.getD 0).toNat<128)
def parL (f:List UInt8→Option (Pit × List UInt8)):Nat→List UInt8→Option (List Pit)
 | _,[]=>some []
 | 0,_::_=>none
 | m+1,b::bs=>match f (b::bs) with
  | none=>none
  | some (p,r)=>match parL f m r with
   | none=>none
   | some ps=>some (p::ps)
def par:Nat→List UInt8→Option (Pit × List UInt8)
 | _,[]=>none
 | 0,_::_=>none
 | n+1,c::r =>
  if c.toNat<128 then some (.txt [c],r)
  else if c.toNat<192 then match hdr c.toNat 128 r with
   | none=>none
   | some (k,r')=>if r'.length<k∨own1 k r'=true then none else some (.txt (r'.take k),r'.drop k)
  else match hdr c.toNat 192 r with
   | none=>none
   | some (k,r')=>if r'.length<k then none else match parL (par n) k (r'.take k) with
    | none=>none
    | some ks=>some (.lst ks,r'.drop k)
theorem hdr_suf {c base:Nat}{r r':List UInt8}{k:Nat}(h:hdr c base r=some (k,r')):∃ j,r'=r.drop j∧j≤r.length:=by
 unfold hdr at h
 split at h
 ·simp only [Option.some.injEq,Prod.mk.injEq] at h
  exact ⟨0,by simp [h.2],by omega⟩
 ·split at h
  ·simp at h
  ·split at h
   ·simp at h
   ·split at h
    ·simp at h
    ·rename_i h1 h2 h3 _
     simp only [Option.some.injEq,Prod.mk.injEq] at h
     exact ⟨_,h.2.symm,by omega⟩
theorem numL_lt8 (l:List UInt8)(h:l.length≤8):numL l<18446744073709551616:=by
 have h1:=numL_lt l
 have h2:(256:Nat) ^ l.length≤256 ^ 8:=Nat.pow_le_pow_right (by omega) h
 have h3:(256:Nat) ^ 8=18446744073709551616:=rfl
 omega
theorem par_suf:∀ (n:Nat)(b:List UInt8)(p:Pit)(r:List UInt8),par n b=some (p,r)→∃ j,r=b.drop j∧1≤j∧j≤b.length
 | 0,[],p,r,h=>by simp [par] at h
 | n+1,[],p,r,h=>by simp [par] at h
 | 0,_::_,p,r,h=>by simp [par] at h
 | n+1,c::b,p,r,h=>by
  unfold par at h
  split at h
  ·simp only [Option.some.injEq,Prod.mk.injEq] at h
   exact ⟨1,by simp [h.2],by omega,by simp⟩
  ·split at h
   ·split at h
    ·simp at h
    ·rename_i k r' hh
     obtain ⟨j,hj⟩:=hdr_suf hh
     ·split at h
      ·simp at h
      ·rename_i hk
       simp only [Option.some.injEq,Prod.mk.injEq] at h
       have hl:r'.length=b.length - j:=by rw [hj.1,List.length_drop]
       refine ⟨1+j+k,?_,by omega,by simp;omega⟩
       rw [←h.2,hj.1,List.drop_drop,show 1+j+k=(j+k)+1 from by omega,List.drop_succ_cons]
   ·split at h
    ·simp at h
    ·rename_i k r' hh
     obtain ⟨j,hj⟩:=hdr_suf hh
     ·split at h
      ·simp at h
      ·rename_i hk
       split at h
       ·simp at h
       ·simp only [Option.some.injEq,Prod.mk.injEq] at h
        have hl:r'.length=b.length - j:=by rw [hj.1,List.length_drop]
        refine ⟨1+j+k,?_,by omega,by simp;omega⟩
        rw [←h.2,hj.1,List.drop_drop,show 1+j+k=(j+k)+1 from by omega,List.drop_succ_cons]
theorem par_len {n:Nat}{b:List UInt8}{p:Pit}{r:List UInt8}(h:par n b=some (p,r)):r.length<b.length:=by
 obtain ⟨j,rfl,h1,h2⟩:=par_suf n b p r h
 rw [List.length_drop];omega
theorem parL_nil (f:List UInt8→Option (Pit × List UInt8))(m:Nat):parL f m []=some []:=by cases m <;> rfl
theorem parL_none {f:List UInt8→Option (Pit × List UInt8)}{m:Nat}{b:List UInt8}(hb:b≠[])(hf:f b=none):parL f (m+1) b=none:=by
 cases b with
 | nil=>exact absurd rfl hb
 | cons x b=>simp [parL,hf]
theorem parL_some {f:List UInt8→Option (Pit × List UInt8)}{m:Nat}{b r:List UInt8}{p:Pit}(hb:b≠[])(hf:f b=some (p,r)):parL f (m+1) b=(parL f m r).map (p::·):=by
 cases b with
 | nil=>exact absurd rfl hb
 | cons x b =>
  simp only [parL,hf]
  cases parL f m r<;>rfl
def Fp (S:Nat→Prop)(w:World)(it:Itm):Prop:=∀ u:World,(∀ b,S b→b<w.heap.size→u.heap[b]?=w.heap[b]?)→IsItm u it
theorem Fp.is {S:Nat→Prop}{w:World}{it:Itm}(h:Fp S w it):IsItm w it:=h w (fun _ _ _=>rfl)
theorem Fp.to {S S':Nat→Prop}{w w':World}{it:Itm}(h:Fp S w it)(hs:w.heap.size≤w'.heap.size)(hb:∀ b,S b→b<w.heap.size→w'.heap[b]?=w.heap[b]?∧S' b):Fp S' w' it:=by
 intro u hu
 exact h u (fun b h1 h2=>by
  obtain ⟨h3,h4⟩:=hb b h1 h2
  rw [hu b h4 (Nat.lt_of_lt_of_le h2 hs),h3])
theorem OwnOf.onto {α:Type}{f:α→List Value}{size:Nat}{e:TypeId}{w u:World}{B:Nat}{v:Value}{l:List α}(h:OwnOf f size e w B v l)(hu:∀ b,v.ownBlock=some b→b<w.heap.size→u.heap[b]?=w.heap[b]?):OwnOf f size e u B v l:=by
 refine ⟨h.1,?_⟩
 rcases h.2 with h2|⟨g,cap,cur,rfl,h3,h4,h5⟩
 ·exact .inl h2
 ·refine .inr ⟨g,cap,cur,rfl,h3,?_,h5⟩
  rw [hu g rfl (Array.getElem?_eq_some_iff.1 h4).1];exact h4
theorem Fp.txt {S:Nat→Prop}{w:World}{B:Nat}{v:Value}{t:List UInt8}(h:OwnOf b8 1 5 w B v t)(hS:∀ b,B≤b→S b):Fp S w (.mk false v t (.slice none 0 0) []):=by
 intro u hu
 refine .mk false v t _ [] (h.onto (fun b h1 h2=>hu b (hS b (h.lt b h1)) h2)).row (RowOf.nil icells 3 u) (by simp)
theorem Fp.lst {S:Nat→Prop}{w:World}{B:Nat}{kv:Value}{ks:List Itm}(h:OwnOf icells 3 77 w B kv ks)(hk:∀ k∈ks,Fp S w k)(hS:∀ b,B≤b→S b):Fp S w (.mk true (.slice none 0 0) [] kv ks):=by
 intro u hu
 exact .mk true _ [] kv ks (RowOf.nil b8 1 u) (h.onto (fun b h1 h2=>hu b (hS b (h.lt b h1)) h2)).row (fun k hk'=>hk k hk' u hu)
def SubB (v:Value)(b:List UInt8)(v':Value)(b':List UInt8):Prop:=∀ u:World,Bytes u v b→Bytes u v' b'
theorem SubB.refl (v:Value)(b:List UInt8):SubB v b v b:=fun _ h=>h
theorem SubB.trans {v1 v2 v3:Value}{b1 b2 b3:List UInt8}(h:SubB v1 b1 v2 b2)(k:SubB v2 b2 v3 b3):SubB v1 b1 v3 b3:=fun u hu=>k u (h u hu)
theorem sub_from {a:Option Addr}{c:Nat}{l:List UInt8}{w:World}(h:Bytes w (.slice a l.length c) l)(lo:Nat)(h1:lo≤l.length)(x:Int)(hx:x=lo) :
  ∃ a' c',(∀ k w',(Instr.slice 25 (.slice a l.length c) (some (.int k x)) none none).run Tryz.prog w'=.ok (.slice a' (l.length - lo) c') w')∧SubB (.slice a l.length c) l (.slice a' (l.length - lo) c') (l.drop lo):=by
 obtain ⟨a',c',h2,_⟩:=RowOf.from elU8 h lo h1 x hx
 refine ⟨a',c',h2,fun u hu=>?_⟩
 obtain ⟨a2,c2,h3,h4⟩:=RowOf.from elU8 hu lo h1 x hx
 have:=(h2 .i64 u).symm.trans (h3 .i64 u)
 simp only [Result.ok.injEq,Value.slice.injEq] at this
 obtain ⟨⟨rfl,_,rfl⟩,_⟩:=this
 exact h4
theorem sub_to {a:Option Addr}{c:Nat}{l:List UInt8}{w:World}(h:Bytes w (.slice a l.length c) l)(hi:Nat)(h1:hi≤l.length)(x:Int)(hx:x=hi) :
  ∃ a' c',(∀ k w',(Instr.slice 25 (.slice a l.length c) none (some (.int k x)) none).run Tryz.prog w'=.ok (.slice a' hi c') w')∧SubB (.slice a l.length c) l (.slice a' hi c') (l.take hi):=by
 obtain ⟨a',c',h2,_⟩:=RowOf.to elU8 h hi h1 x hx
 refine ⟨a',c',h2,fun u hu=>?_⟩
 obtain ⟨a2,c2,h3,h4⟩:=RowOf.to elU8 hu hi h1 x hx
 have:=(h2 .i64 u).symm.trans (h3 .i64 u)
 simp only [Result.ok.injEq,Value.slice.injEq] at this
 obtain ⟨⟨rfl,_,rfl⟩,_⟩:=this
 exact h4
theorem Bytes.off_r {w u:World}{v x:Value}{g:Nat}{l:List UInt8}(h:Bytes w v l)(hz:Blk 160 w g [x])(hx:∃ a n c,x=.slice a n c)(hg:w.grownBy u (some g)):Bytes u v l:=by
 obtain ⟨a,n,c,rfl⟩:=hx
 exact Bytes.off_v h hz (by intro y hy k;simp at hy;subst hy;simp) hg
theorem grown_bel' {w u v:World}{g:Nat}(h:w.grownBy u (some g))(hb:Below u.heap.size u v):w.grownBy v (some g) :=
 ⟨hb.os.trans h.os,hb.tape.trans h.tape,hb.output.trans h.output,Nat.le_trans h.size hb.size,fun i hi hne=>(hb.block i (Nat.lt_of_lt_of_le hi h.size)).trans (h.block i hi hne)⟩
theorem grown_trans {a b c:World}{g:Option Nat}(h:a.grownBy b g)(k:b.grownBy c g):a.grownBy c g :=
 ⟨k.os.trans h.os,k.tape.trans h.tape,k.output.trans h.output,Nat.le_trans h.size k.size,fun i hi hne=>(k.block i (Nat.lt_of_lt_of_le hi h.size) hne).trans (h.block i hi hne)⟩
def mis:List PanicEntry:=[{ v:=.iface 157 (.agg #[]),recovered:=false }]
theorem take_ok (a:Option Addr)(c L n:Nat)(l:List UInt8)(hL:l.length=L)(hLm:L≤maxLen)(hn:n≤L)(g:Nat)(w:World)(hB:Blk 160 w g [.slice a L c])(h:Bytes w (.slice a L c) l) :
  Calls Tryz.prog 145 #[.pointer (some ⟨g,0,none⟩),.int .u64 (n:Int)] w fun e w'=>∃ a1 c1 a2 c2,e=.returned (.slice a1 n c1)∧SubB (.slice a L c) l (.slice a1 n c1) (l.take n)∧SubB (.slice a L c) l (.slice a2 (L - n) c2) (l.drop n) ∧
   Blk 160 w' g [.slice a2 (L - n) c2]∧w.grownBy w' (some g):=by
 unfold maxLen at hLm
 have h':=h
 rw [←hL] at h' hn
 obtain ⟨a1,c1,q1,r1⟩:=sub_to h' n hn (n:Int) rfl
 obtain ⟨a2,c2,q2,r2⟩:=sub_from h' n hn (n:Int) rfl
 rw [hL] at q1 r1 q2 r2 hn
 have wl:IntKind.u64.wrap (L:Int)=(L:Int):=IntWalk.u64_in _ (by omega)
 have d1:decide ((L:Int)<(n:Int))=false:=by rw [decide_eq_false_iff_not];omega
 have d2:decide (L<n)=false:=by rw [decide_eq_false_iff_not];omega
 have hc0:w.cell? ⟨g,0,none⟩=some (.slice a L c):=hB.cell 0
 have hf0:=hB.free 0
 have hB2:=hB.set 0 (.slice a2 (L - n) c2)
 have hg2:=grown_cell (w:=w) (g:=g) 0 (.slice a2 (L - n) c2)
 have R1:=Lib.hid r1
 have R2:=Lib.hid r2
 have HB2:=Lib.hid hB2
 have HG2:=Lib.hid hg2
 clear hL h h' r1 r2 hB hB2 hg2
 go_enter Tryz.func145,Tryz.ntmps145
 go_wp2
 go_ret
 exact ⟨a1,c1,a2,c2,rfl,R1.out,R2.out,HB2.out,HG2.out⟩
theorem take_bad (a:Option Addr)(c L n:Nat)(hLm:L≤maxLen)(hn:L<n)(g:Nat)(w:World)(hB:Blk 160 w g [.slice a L c]) :
  Calls Tryz.prog 145 #[.pointer (some ⟨g,0,none⟩),.int .u64 (n:Int)] w fun e w'=>e=.panicked mis∧w=w':=by
 unfold maxLen at hLm
 have wl:IntKind.u64.wrap (L:Int)=(L:Int):=IntWalk.u64_in _ (by omega)
 have d1:decide ((L:Int)<(n:Int))=true:=by rw [decide_eq_true_eq];omega
 have d2:decide (L<n)=true:=by rw [decide_eq_true_eq];omega
 have hc0:w.cell? ⟨g,0,none⟩=some (.slice a L c):=hB.cell 0
 go_enter Tryz.func145,Tryz.ntmps145
 go_wp2
 exact ⟨rfl,rfl,rfl⟩
theorem run_part0 (N:Nat)(w:World):(Instr.index 24 (wv N) (.int .i64 0)).run Tryz.prog w=.ok (.int .u64 ((lim N 0:Nat):Int)) w:=by
 show (Instr.index 24 (.agg (wcs N).toArray) (.int .i64 ((0:Nat):Int))).run Tryz.prog w=_
 refine run_index_agg (n:=4) (e:=22) (by kernel_rfl) (by kernel_rfl) _ 0 (by omega) w .i64 ?_
 have h1:=run_part_int (P:=Tryz.prog) w (e:=22) (k:=.u64) (by kernel_rfl) (limI N) 0 (by simp [limI])
 exact h1
def HdrPost (o:Option (Nat × List UInt8))(v:Value)(r:List UInt8)(g:Nat)(w:World)(e:Ending)(w':World):Prop :=
 match o with
 | none=>e=.panicked mis∧w.grownBy w' (some g)
 | some (k,r')=>∃ a' c',e=.returned (.int .u64 (k:Int))∧SubB v r (.slice a' r'.length c') r'∧Blk 160 w' g [.slice a' r'.length c']∧w.grownBy w' (some g)
theorem length_small (c base:Nat)(hb:base≤192)(h1:base≤c)(h2:c<base+48)(g:Nat)(w:World) :
  Calls Tryz.prog 146 #[.pointer (some ⟨g,0,none⟩),.int .u8 (c:Int),.int .u8 (base:Int)] w fun e w'=>e=.returned (.int .u64 ((c - base:Nat):Int))∧w=w':=by
 have e1:IntKind.u8.wrap ((base:Int)+48)=(base:Int)+48:=IntWalk.u8_in _ (by omega)
 have d1:decide ((c:Int)<(base:Int)+48)=true:=by rw [decide_eq_true_eq];omega
 have e2:IntKind.u8.wrap ((c:Int) - (base:Int))=((c - base:Nat):Int):=by rw [show (c:Int) - (base:Int)=((c - base:Nat):Int) from by omega];exact IntWalk.u8_in _ (by omega)
 have e3:IntKind.u64.wrap ((c - base:Nat):Int)=((c - base:Nat):Int):=IntWalk.u64_in _ (by omega)
 obtain ⟨m,hm⟩:∃ m,m=c - base:=⟨_,rfl⟩
 rw [←hm] at e2 e3
 rw [←hm]
 clear hm
 go_enter Tryz.func146,Tryz.ntmps146
 go_wp2
 go_ret
 exact ⟨rfl,rfl⟩
theorem length_big (c base:Nat)(hb:base≤192)(h2:base+48≤c)(h256:c<256)(a:Option Addr)(cc L:Nat)(r:List UInt8)(hL:r.length=L)(hLm:L≤maxLen)(g:Nat)(w:World)(hB:Blk 160 w g [.slice a L cc])(h:Bytes w (.slice a L cc) r) :
  Calls Tryz.prog 146 #[.pointer (some ⟨g,0,none⟩),.int .u8 (c:Int),.int .u8 (base:Int)] w (HdrPost (hdr c base r) (.slice a L cc) r g w):=by
 obtain ⟨k,hk⟩:∃ k,k=c - base - 48+1:=⟨_,rfl⟩
 have hk16:k≤256:=by omega
 have hk1:1≤k:=by omega
 have e1:IntKind.u8.wrap ((base:Int)+48)=(base:Int)+48:=IntWalk.u8_in _ (by omega)
 have d1:decide ((c:Int)<(base:Int)+48)=false:=by rw [decide_eq_false_iff_not];omega
 obtain ⟨m,hm⟩:∃ m,m=c - base:=⟨_,rfl⟩
 obtain ⟨q,hq⟩:∃ q,q=m - 48:=⟨_,rfl⟩
 have e2:IntKind.u8.wrap ((c:Int) - (base:Int))=(m:Int):=by rw [show (c:Int) - (base:Int)=(m:Int) from by omega];exact IntWalk.u8_in _ (by omega)
 have e3:IntKind.u8.wrap ((m:Int) - 48)=(q:Int):=by rw [show (m:Int) - 48=(q:Int) from by omega];exact IntWalk.u8_in _ (by omega)
 have e4:IntKind.u64.wrap (q:Int)=(q:Int):=IntWalk.u64_in _ (by omega)
 have e5:IntKind.u64.wrap ((q:Int)+1)=(k:Int):=by rw [show (q:Int)+1=(k:Int) from by omega];exact IntWalk.u64_in _ (by omega)
 have hH:hdr c base r=if L<k then none else if (r.take k).head?=some 0∨8<k then none else if numL (r.take k)<48 then none else some (numL (r.take k),r.drop k):=by
  unfold hdr
  rw [if_neg (by omega),hL,←hk]
 rw [hH]
 clear hH hm hq hk
 by_cases hlk:L<k
 ·have t1:=take_bad a cc L k hLm hlk g w hB
  rw [if_pos hlk]
  have T1:=Lib.hid t1
  clear t1 hL
  go_enter Tryz.func146,Tryz.ntmps146
  go_wp2_with (go_at_call 145;(with_reducible refine T1.out.mono ?_);rintro e w1 ⟨rfl,rfl⟩)
  exact ⟨rfl,rfl,World.grownBy.refl _ _⟩
 ·rw [if_neg hlk]
  have hkL:k≤L:=by omega
  have t1:=take_ok a cc L k r hL hLm hkL g w hB h
  have hlen:(r.take k).length=k:=by rw [List.length_take];omega
  have hoff:∀ u,w.grownBy u (some g)→Bytes u (.slice a L cc) r:=fun u hu=>Bytes.off_r h hB ⟨_,_,_,rfl⟩ hu
  have hrl:(r.drop k).length=L - k:=by rw [List.length_drop,hL]
  obtain ⟨l,hl⟩:∃ l,l=r.take k:=⟨_,rfl⟩
  obtain ⟨rest,hrest⟩:∃ rest,rest=r.drop k:=⟨_,rfl⟩
  rw [←hl,←hrest] at t1
  rw [←hl] at hlen
  rw [←hrest] at hrl
  rw [←hl,←hrest]
  clear hl hrest hL hB h
  cases l with
  | nil=>simp at hlen;omega
  | cons x l =>
   simp only [List.head?_cons,Option.some.injEq]
   have T1:=Lib.hid t1
   have Hoff:=Lib.hid hoff
   have Hrl:=Lib.hid hrl
   have Hlen:=Lib.hid hlen
   have hki:(0:Int)<(k:Int):=by omega
   clear t1 hoff hrl hlen
   by_cases hbad:x=0∨8<k
   ·rw [if_pos hbad]
    by_cases hx:x=0
    ·subst hx
     clear hbad
     have hz:(((0:UInt8).toNat:Int)==0)=true:=rfl
     go_enter Tryz.func146,Tryz.ntmps146
     go_wp2_with (go_at_call 145;(with_reducible refine T1.out.mono ?_);rintro e w1 ⟨a1,c1,a2,c2,rfl,r1,r2,B1,g1⟩;obtain ⟨b,off,rfl,hc⟩:=Bytes.at (r1 w1 (Hoff.out w1 g1)) 0 (by simp);simp only [List.getElem_cons_zero,Nat.add_zero] at hc)
     exact ⟨rfl,rfl,g1⟩
    ·have h8:8<k:=by rcases hbad with h|h;exact absurd h hx;exact h
     have hz:=u8_nz x hx
     have h8i:(8:Int)<(k:Int):=by omega
     have h8d:decide ((8:Int)<(k:Int))=true:=by rw [decide_eq_true_eq];exact h8i
     clear hbad
     go_enter Tryz.func146,Tryz.ntmps146
     go_wp2_with (go_at_call 145;(with_reducible refine T1.out.mono ?_);rintro e w1 ⟨a1,c1,a2,c2,rfl,r1,r2,B1,g1⟩;obtain ⟨b,off,rfl,hc⟩:=Bytes.at (r1 w1 (Hoff.out w1 g1)) 0 (by simp);simp only [List.getElem_cons_zero,Nat.add_zero] at hc)
     exact ⟨rfl,rfl,g1⟩
   ·rw [if_neg hbad]
    have hx:x≠0:=fun h=>hbad (.inl h)
    have h8:k≤8:=by omega
    have hz:=u8_nz x hx
    have h8i:¬ (8:Int)<(k:Int):=by omega
    have h8d:decide ((8:Int)<(k:Int))=false:=by rw [decide_eq_false_iff_not];exact h8i
    have hlast:last32 (x::l)=x::l:=last_small _ (by rw [Hlen.out];omega)
    have hN:=numL_lt8 (x::l) (by rw [Hlen.out];exact h8)
    have hrd:=fun (a1:Option Addr) (c1:Nat) (w1:World) (h1:Bytes w1 (.slice a1 (x::l).length c1) (x::l))=>read_any a1 c1 (x::l) w1 h1
    rw [Hlen.out,hlast] at hrd
    obtain ⟨N,hNn⟩:∃ N,N=numL (x::l):=⟨_,rfl⟩
    rw [←hNn] at hrd hN
    rw [←hNn]
    have hidx:=fun w=>run_part0 N w
    have hlim:lim N 0=N:=by unfold lim;simp;omega
    rw [hlim] at hidx
    have Hrd:=Lib.hid hrd
    clear hrd hlim hlast hNn hbad hx
    by_cases h48:N<48
    ·rw [if_pos h48]
     have h48i:(N:Int)<48:=by omega
     have h48d:decide ((N:Int)<48)=true:=by rw [decide_eq_true_eq];exact h48i
     go_enter Tryz.func146,Tryz.ntmps146
     go_wp2_with (first
      |(go_at_call 145;(with_reducible refine T1.out.mono ?_);rintro e w1 ⟨a1,c1,a2,c2,rfl,r1,r2,B1,g1⟩;have hb1:=r1 w1 (Hoff.out w1 g1);obtain ⟨b,off,rfl,hc⟩:=Bytes.at hb1 0 (by simp);simp only [List.getElem_cons_zero,Nat.add_zero] at hc)
      |(go_at_call 85;(with_reducible refine (Hrd.out _ _ _ hb1).mono ?_);rintro e w2 ⟨rfl,b2⟩))
     exact ⟨rfl,rfl,grown_bel' g1 b2⟩
    ·rw [if_neg h48]
     have h48i:¬ (N:Int)<48:=by omega
     have h48d:decide ((N:Int)<48)=false:=by rw [decide_eq_false_iff_not];exact h48i
     go_enter Tryz.func146,Tryz.ntmps146
     go_wp2_with (first
      |(go_at_call 145;(with_reducible refine T1.out.mono ?_);rintro e w1 ⟨a1,c1,a2,c2,rfl,r1,r2,B1,g1⟩;have hb1:=r1 w1 (Hoff.out w1 g1);obtain ⟨b,off,rfl,hc⟩:=Bytes.at hb1 0 (by simp);simp only [List.getElem_cons_zero,Nat.add_zero] at hc)
      |(go_at_call 85;(with_reducible refine (Hrd.out _ _ _ hb1).mono ?_);rintro e w2 ⟨rfl,b2⟩))
     go_ret
     refine ⟨a2,c2,rfl,?_,?_,grown_bel' g1 b2⟩
     ·rw [Hrl.out];exact r2
     ·rw [Hrl.out];exact B1.kept b2
theorem grown_fresh {w u u':World}{g:Nat}{row:Option Nat}(h:w.grownBy u (some g))(k:u.grownBy u' row)(hf:∀ x,row=some x→w.heap.size≤x):w.grownBy u' (some g) :=
 ⟨k.os.trans h.os,k.tape.trans h.tape,k.output.trans h.output,Nat.le_trans h.size k.size,fun i hi hne=>(k.block i (Nat.lt_of_lt_of_le hi h.size) (fun e=>by have:=hf i e.symm;omega)).trans (h.block i hi hne)⟩
theorem length_any (c base:Nat)(hb:base≤192)(h1:base≤c)(h256:c<256)(a:Option Addr)(cc L:Nat)(r:List UInt8)(hL:r.length=L)(hLm:L≤maxLen)(g:Nat)(w:World)(hB:Blk 160 w g [.slice a L cc])(h:Bytes w (.slice a L cc) r) :
  Calls Tryz.prog 146 #[.pointer (some ⟨g,0,none⟩),.int .u8 (c:Int),.int .u8 (base:Int)] w (HdrPost (hdr c base r) (.slice a L cc) r g w):=by
 by_cases h2:c<base+48
 ·have hh:hdr c base r=some (c - base,r):=by unfold hdr;rw [if_pos h2]
  rw [hh]
  refine (length_small c base hb h1 h2 g w).mono ?_
  rintro e w' ⟨rfl,rfl⟩
  exact ⟨a,cc,rfl,by rw [hL];exact SubB.refl _ _,by rw [hL];exact hB,World.grownBy.refl _ _⟩
 ·exact length_big c base hb (by omega) h256 a cc L r hL hLm g w hB h
theorem HdrPost_none (v:Value)(r:List UInt8)(g:Nat)(w:World):HdrPost none v r g w=fun e w'=>e=.panicked mis∧w.grownBy w' (some g):=rfl
theorem HdrPost_some (k:Nat)(r':List UInt8)(v:Value)(r:List UInt8)(g:Nat)(w:World):HdrPost (some (k,r')) v r g w=fun e w'=>∃ a' c',e=.returned (.int .u64 (k:Int))∧SubB v r (.slice a' r'.length c') r'∧Blk 160 w' g [.slice a' r'.length c']∧w.grownBy w' (some g):=rfl
def RItemPost (o:Option (Pit × List UInt8))(v:Value)(b:List UInt8)(g:Nat)(w:World)(e:Ending)(w':World):Prop :=
 match o with
 | none=>e=.panicked mis∧w.grownBy w' (some g)
 | some (p,r)=>∃ it a' c',e=.returned (.agg (icells it).toArray)∧SubB v b (.slice a' r.length c') r∧Blk 160 w' g [.slice a' r.length c']∧w.grownBy w' (some g)∧Fp (fun x=>w.heap.size≤x) w' it∧erI it=p∧BareI it
structure Rd (w:World)(v0:Value)(b0:List UInt8)(g:Nat)(u:World)(a:Option Addr)(L c:Nat)(b:List UInt8):Prop where
 hg:w.grownBy u (some g)
 hB:Blk 160 u g [.slice a L c]
 hs:SubB v0 b0 (.slice a L c) b
 hL:b.length=L
 hm:L≤maxLen
theorem Rd.start {w:World}{g:Nat}{a:Option Addr}{L c:Nat}{b:List UInt8}(hB:Blk 160 w g [.slice a L c])(hL:b.length=L)(hm:L≤maxLen):Rd w (.slice a L c) b g w a L c b :=
 ⟨World.grownBy.refl _ _,hB,SubB.refl _ _,hL,hm⟩
theorem Rd.alloc {w:World}{v0:Value}{b0:List UInt8}{g:Nat}{u:World}{a:Option Addr}{L c:Nat}{b:List UInt8}(h:Rd w v0 b0 g u a L c b)(o:Obj):Rd w v0 b0 g (u.alloc o) a L c b :=
 ⟨grown_trans h.hg (World.grownBy_alloc _ _ _),h.hB.alloc o,h.hs,h.hL,h.hm⟩
theorem Rd.kept {w:World}{v0:Value}{b0:List UInt8}{g:Nat}{u u':World}{a:Option Addr}{L c:Nat}{b:List UInt8}(h:Rd w v0 b0 g u a L c b)(hb:Below u.heap.size u u'):Rd w v0 b0 g u' a L c b :=
 ⟨grown_bel' h.hg hb,h.hB.kept hb,h.hs,h.hL,h.hm⟩
theorem Rd.fresh {w:World}{v0:Value}{b0:List UInt8}{g:Nat}{u u':World}{a:Option Addr}{L c:Nat}{b:List UInt8}{row:Option Nat}(h:Rd w v0 b0 g u a L c b)(k:u.grownBy u' row)(hf:∀ x,row=some x→w.heap.size≤x)(hg:g<w.heap.size):Rd w v0 b0 g u' a L c b :=
 ⟨grown_fresh h.hg k hf,h.hB.grown k (fun e=>by have:=hf g e;omega),h.hs,h.hL,h.hm⟩
theorem Rd.next {w:World}{v0:Value}{b0:List UInt8}{g:Nat}{u u':World}{a a':Option Addr}{L c L' c':Nat}{b b':List UInt8}(h:Rd w v0 b0 g u a L c b)(hg:u.grownBy u' (some g))(hB:Blk 160 u' g [.slice a' L' c'])(hs:SubB (.slice a L c) b (.slice a' L' c') b')(hL:b'.length=L')(hle:L'≤L):Rd w v0 b0 g u' a' L' c' b' :=
 ⟨grown_trans h.hg hg,hB,h.hs.trans hs,hL,by have:=h.hm;omega⟩
theorem Rd.bytes {w:World}{v0:Value}{b0:List UInt8}{g:Nat}{u:World}{a:Option Addr}{L c:Nat}{b:List UInt8}(h:Rd w v0 b0 g u a L c b)(h0:∀ u,w.grownBy u (some g)→Bytes u v0 b0):Bytes u (.slice a L c) b:=h.hs u (h0 u h.hg)
theorem item_low (n:Nat)(a:Option Addr)(L c:Nat)(b:List UInt8)(hL:b.length=L)(hLm:L≤maxLen)(h128:∀ x r,b=x::r→x.toNat<128)(g:Nat)(w:World)(hB:Blk 160 w g [.slice a L c])(h:Bytes w (.slice a L c) b) :
  Calls Tryz.prog 115 #[.pointer (some ⟨g,0,none⟩)] w (RItemPost (par (n+1) b) (.slice a L c) b g w):=by
 have hglt:=hB.lt
 have R0:=Rd.start hB hL hLm
 have h0:∀ u,w.grownBy u (some g)→Bytes u (.slice a L c) b:=fun u hu=>Bytes.off_r h hB ⟨_,_,_,rfl⟩ hu
 have hz1:=Blk.new w 77 [.bool false,.slice none 0 0,.slice none 0 0]
 have R1:=R0.alloc (.cells #[.bool false,.slice none 0 0,.slice none 0 0] 77)
 have hsz1:w.heap.size≤(w.alloc (.cells #[.bool false,.slice none 0 0,.slice none 0 0] 77)).heap.size:=by simp
 obtain ⟨w1,hw1⟩:∃ w1,w1=w.alloc (.cells #[.bool false,.slice none 0 0,.slice none 0 0] 77):=⟨_,rfl⟩
 rw [←hw1] at R1 hsz1
 change Blk _ (w.alloc (.cells #[.bool false,.slice none 0 0,.slice none 0 0] 77)) _ _ at hz1
 rw [←hw1] at hz1
 have hlt1:=hz1.lt
 have Hw1:=Lib.hid hw1
 clear hw1
 cases b with
 | nil =>
  have hp:par (n+1) []=none:=by simp [par]
  rw [hp]
  have t1:Calls Tryz.prog 145 #[.pointer (some ⟨g,0,none⟩),.int .u64 1] w1 _:=take_bad a c L 1 hLm (by simp at hL;omega) g w1 R1.hB
  have hg1:=R1.hg
  have T1:=Lib.hid t1
  have HL:=Lib.hid hL
  clear t1 hp h0 R0 R1 hL
  go_enter Tryz.func115,Tryz.ntmps115
  go_wp2_with fail
  rw [←Hw1.out]
  go_wp2_with (go_at_call 145;(with_reducible refine T1.out.mono ?_);rintro e w2 ⟨rfl,rfl⟩)
  exact ⟨rfl,rfl,hg1⟩
 | cons x r =>
  have hx:=h128 x r rfl
  have hp:par (n+1) (x::r)=some (.txt [x],r):=by simp [par,hx]
  rw [hp]
  have t1:Calls Tryz.prog 145 #[.pointer (some ⟨g,0,none⟩),.int .u64 1] w1 _:=take_ok a c L 1 (x::r) hL hLm (by rw [←hL];simp) g w1 R1.hB (R1.bytes h0)
  have hrl:r.length=L - 1:=by rw [←hL];simp
  have hxi:(x.toNat:Int)<128:=by omega
  have hxd:decide ((x.toNat:Int)<128)=true:=by rw [decide_eq_true_eq];exact hxi
  simp only [List.take_succ_cons,List.take_zero,List.drop_succ_cons,List.drop_zero] at t1
  have T1:=Lib.hid t1
  have Hrl:=Lib.hid hrl
  have H0:=Lib.hid h0
  have HL:=Lib.hid hL
  clear t1 hp h0 hrl hL h128 hx
  go_enter Tryz.func115,Tryz.ntmps115
  go_wp2_with fail
  rw [←Hw1.out]
  go_wp2_with (first
   |(go_at_call 145;(with_reducible refine T1.out.mono ?_);rintro e w2 ⟨a1,c1,a2,c2,rfl,r1,r2,B2,g2⟩;have R2:Rd w (.slice a L c) (x::r) g w2 a2 (L - 1) c2 r:=R1.next g2 B2 r2 Hrl.out (by omega);have hz2:=hz1.grown g2 (by simp;omega);obtain ⟨b,off,rfl,hc⟩:=Bytes.at (r1 w2 (H0.out w2 R2.hg)) 0 (by simp);simp only [List.getElem_cons_zero,Nat.add_zero] at hc)
   |(refine wpList_build1 (o:=⟨some 15,_,_,_,_,_⟩) (by rfl) (.tmp 14) 25 (by rfl) elU8 (.int .u8 (x.toNat:Int)) [.int .u8 (x.toNat:Int)] (by rfl) (by rfl) rfl (by omega) ?_;have o3:=OwnOf.made b8 1 5 w2 w.heap.size [x] #[.int .u8 (x.toNat:Int)] 1 rfl rfl rfl (Nat.le_trans hsz1 g2.size) (by unfold maxLen;omega);have hz3:=hz2.alloc (.cells #[.int .u8 (x.toNat:Int)] 5);have R3:=R2.alloc (.cells #[.int .u8 (x.toNat:Int)] 5);have hsz2:=g2.size)
   |((with_reducible show wpList _ _ _ (⟨none,.store _ _ _,_,_,_,_⟩::_) _ _);refine wpList_storeA (o:=⟨none,_,_,_,_,_⟩) (by rfl) 77 (.tmp 2) (.tmp 16) (by rfl) w.heap.size [.bool false,.slice (some ⟨w2.heap.size,0,none⟩) 1 1,.slice none 0 0] (by rfl) (by rfl) aggItem hz3 (by rfl) (by rfl) (by intro u hu;simp at hu;rcases hu with rfl|rfl|rfl<;>rfl) (Below.refl _ _) (Nat.le_refl _) ?_;intro w5 hh5 _ hg5))
  have R5:=R3.fresh hg5 (fun y hy=>by cases hy;exact Nat.le_refl _) hglt
  have o5:=o3.grown hg5 (fun k hk e=>by cases hk;simp [Value.ownBlock] at e;have:=g2.size;omega)
  refine bodyPost_ret (results_blk rfl _ _ w.heap.size aggItem hh5 rfl rfl) rfl ⟨.mk false (.slice (some ⟨w2.heap.size,0,none⟩) 1 1) [x] (.slice none 0 0) [],a2,c2,rfl,?_,?_,R5.hg,Fp.txt o5 (fun _ h=>h),by rw [erI_mk];rfl,.txt _ _ _⟩
  ·rw [Hrl.out];exact R5.hs
  ·rw [Hrl.out];exact R5.hB
theorem item_text (n:Nat)(a:Option Addr)(L c:Nat)(x:UInt8)(r:List UInt8)(hL:(x::r).length=L)(hLs:L≤1048576)(h128:128≤x.toNat)(h192:x.toNat<192)(g:Nat)(w:World)(hB:Blk 160 w g [.slice a L c])(h:Bytes w (.slice a L c) (x::r)) :
  Calls Tryz.prog 115 #[.pointer (some ⟨g,0,none⟩)] w (RItemPost (par (n+1) (x::r)) (.slice a L c) (x::r) g w):=by
 have hglt:=hB.lt
 have hLm:L≤maxLen:=by unfold maxLen;omega
 have R0:=Rd.start hB hL hLm
 have h0:∀ u,w.grownBy u (some g)→Bytes u (.slice a L c) (x::r):=fun u hu=>Bytes.off_r h hB ⟨_,_,_,rfl⟩ hu
 have hz1:=Blk.new w 77 [.bool false,.slice none 0 0,.slice none 0 0]
 have R1:=R0.alloc (.cells #[.bool false,.slice none 0 0,.slice none 0 0] 77)
 have hsz1:w.heap.size≤(w.alloc (.cells #[.bool false,.slice none 0 0,.slice none 0 0] 77)).heap.size:=by simp
 obtain ⟨w1,hw1⟩:∃ w1,w1=w.alloc (.cells #[.bool false,.slice none 0 0,.slice none 0 0] 77):=⟨_,rfl⟩
 rw [←hw1] at R1 hsz1
 change Blk _ (w.alloc (.cells #[.bool false,.slice none 0 0,.slice none 0 0] 77)) _ _ at hz1
 rw [←hw1] at hz1
 have hlt1:=hz1.lt
 have Hw1:=Lib.hid hw1
 clear hw1
 have hp:par (n+1) (x::r)=match hdr x.toNat 128 r with
   | none=>none
   | some (k,r')=>if r'.length<k∨own1 k r'=true then none else some (.txt (r'.take k),r'.drop k):=by
  rw [par,if_neg (by omega),if_pos h192]
  all_goals (cases hdr x.toNat 128 r<;>rfl)
 rw [hp]
 have t1:Calls Tryz.prog 145 #[.pointer (some ⟨g,0,none⟩),.int .u64 1] w1 _:=take_ok a c L 1 (x::r) hL hLm (by rw [←hL];simp) g w1 R1.hB (R1.bytes h0)
 have hrl:r.length=L - 1:=by rw [←hL];simp
 have hxi:¬ (x.toNat:Int)<128:=by omega
 have hxd:decide ((x.toNat:Int)<128)=false:=by rw [decide_eq_false_iff_not];exact hxi
 have hxj:(x.toNat:Int)<192:=by omega
 have hxe:decide ((x.toNat:Int)<192)=true:=by rw [decide_eq_true_eq];exact hxj
 simp only [List.take_succ_cons,List.take_zero,List.drop_succ_cons,List.drop_zero] at t1
 have lc:∀ (a2:Option Addr) (c2:Nat) (u:World),Blk 160 u g [.slice a2 (L - 1) c2]→Bytes u (.slice a2 (L - 1) c2) r→Calls Tryz.prog 146 #[.pointer (some ⟨g,0,none⟩),.int .u8 (x.toNat:Int),.int .u8 128] u (HdrPost (hdr x.toNat 128 r) (.slice a2 (L - 1) c2) r g u) :=
  fun a2 c2 u h1 h2=>length_any x.toNat 128 (by omega) h128 (by omega) a2 c2 (L - 1) r hrl (by omega) g u h1 h2
 have T1:=Lib.hid t1
 have Hrl:=Lib.hid hrl
 have H0:=Lib.hid h0
 have HL:=Lib.hid hL
 clear t1 hp h0 hrl hL h128 h192 h
 cases hh:hdr x.toNat 128 r with
 | none =>
  simp only [hh,HdrPost_none] at lc
  have Lc:=Lib.hid lc
  clear lc hh
  dsimp only
  go_enter Tryz.func115,Tryz.ntmps115
  go_wp2_with fail
  rw [←Hw1.out]
  go_wp2_with (first
   |(go_at_call 145;(with_reducible refine T1.out.mono ?_);rintro e w2 ⟨a1,c1,a2,c2,rfl,r1,r2,B2,g2⟩;have R2:Rd w (.slice a L c) (x::r) g w2 a2 (L - 1) c2 r:=R1.next g2 B2 r2 Hrl.out (by omega);have hz2:=hz1.grown g2 (by simp;omega);obtain ⟨b,off,rfl,hc⟩:=Bytes.at (r1 w2 (H0.out w2 R2.hg)) 0 (by simp);simp only [List.getElem_cons_zero,Nat.add_zero] at hc)
   |(go_at_call 146;(with_reducible refine (Lc.out _ _ _ R2.hB (R2.bytes H0.out)).mono ?_);rintro e w3 ⟨rfl,g3⟩))
  exact ⟨rfl,rfl,grown_trans R2.hg g3⟩
 | some kr =>
  obtain ⟨k,r'⟩:=kr
  obtain ⟨j,hj,hjl⟩:=hdr_suf hh
  have hr'l:r'.length≤L - 1:=by rw [hj,List.length_drop,Hrl.out];omega
  simp only [hh,HdrPost_some] at lc
  have Lc:=Lib.hid lc
  clear lc hh hj hjl
  dsimp only
  obtain ⟨M,hM⟩:∃ M,M=r'.length:=⟨_,rfl⟩
  rw [←hM] at Lc hr'l
  have hMm:M≤maxLen:=by omega
  simp only [←hM]
  have HM:=Lib.hid hM.symm
  clear hM
  by_cases hk:M<k
  ·rw [if_pos (.inl hk)]
   go_enter Tryz.func115,Tryz.ntmps115
   go_wp2_with fail
   rw [←Hw1.out]
   go_wp2_with (first
    |(go_at_call 145;(with_reducible refine T1.out.mono ?_);rintro e w2 ⟨a1,c1,a2,c2,rfl,r1,r2,B2,g2⟩;have R2:Rd w (.slice a L c) (x::r) g w2 a2 (L - 1) c2 r:=R1.next g2 B2 r2 Hrl.out (by omega);have hz2:=hz1.grown g2 (by simp;omega);obtain ⟨b,off,rfl,hc⟩:=Bytes.at (r1 w2 (H0.out w2 R2.hg)) 0 (by simp);simp only [List.getElem_cons_zero,Nat.add_zero] at hc)
    |(go_at_call 146;(with_reducible refine (Lc.out _ _ _ R2.hB (R2.bytes H0.out)).mono ?_);rintro e w3 ⟨a3,c3,rfl,s3,B3,g3⟩;have R3:=R2.next g3 B3 s3 HM.out (by omega);have hz3:=hz2.grown g3 (by simp;omega))
    |(go_at_call 145;(with_reducible refine (take_bad a3 c3 M k hMm hk g w3 R3.hB).mono ?_);rintro e w4 ⟨rfl,rfl⟩))
   exact ⟨rfl,rfl,R3.hg⟩
  ·by_cases ho:own1 k r'=true
   ·rw [if_pos (.inr ho)]
    have ho':=ho
    unfold own1 at ho'
    simp only [Bool.and_eq_true,decide_eq_true_eq] at ho'
    obtain ⟨rfl,hy⟩:=ho'
    cases r' with
    | nil=>have:=HM.out;simp at this;omega
    | cons y r' =>
     have hyi:(y.toNat:Int)<128:=by simp at hy;omega
     have hyd:decide ((y.toNat:Int)<128)=true:=by rw [decide_eq_true_eq];exact hyi
     have tk:∀ (a3:Option Addr) (c3:Nat) (u:World),Blk 160 u g [.slice a3 M c3]→Bytes u (.slice a3 M c3) (y::r')→Calls Tryz.prog 145 #[.pointer (some ⟨g,0,none⟩),.int .u64 1] u _:=fun a3 c3 u h1 h2=>take_ok a3 c3 M 1 (y::r') HM.out hMm (by omega) g u h1 h2
     simp only [List.take_succ_cons,List.take_zero,List.drop_succ_cons,List.drop_zero] at tk
     have Tk:=Lib.hid tk
     clear ho hy tk
     go_enter Tryz.func115,Tryz.ntmps115
     go_wp2_with fail
     rw [←Hw1.out]
     go_wp2_with (first
      |(go_at_call 145;(with_reducible refine T1.out.mono ?_);rintro e w2 ⟨a1,c1,a2,c2,rfl,r1,r2,B2,g2⟩;have R2:Rd w (.slice a L c) (x::r) g w2 a2 (L - 1) c2 r:=R1.next g2 B2 r2 Hrl.out (by omega);have hz2:=hz1.grown g2 (by simp;omega);obtain ⟨b,off,rfl,hc⟩:=Bytes.at (r1 w2 (H0.out w2 R2.hg)) 0 (by simp);simp only [List.getElem_cons_zero,Nat.add_zero] at hc)
      |(go_at_call 146;(with_reducible refine (Lc.out _ _ _ R2.hB (R2.bytes H0.out)).mono ?_);rintro e w3 ⟨a3,c3,rfl,s3,B3,g3⟩;have R3:=R2.next g3 B3 s3 HM.out (by omega);have hz3:=hz2.grown g3 (by simp;omega))
      |(go_at_call 145;refine (Tk.out a3 c3 w3 R3.hB (R3.bytes H0.out)).mono ?_;rintro e w4 ⟨a4,c4,a5,c5,rfl,r4,r5,B4,g4⟩;have hb4:=r4 w4 (Bytes.off_r (R3.bytes H0.out) R3.hB ⟨_,_,_,rfl⟩ g4);obtain ⟨b4,off4,rfl,hc4⟩:=Bytes.at hb4 0 (by simp);simp only [List.getElem_cons_zero,Nat.add_zero] at hc4))
     exact ⟨rfl,rfl,grown_trans R3.hg g4⟩
   ·rw [if_neg (by rintro (h|h);exact hk h;exact ho h)]
    have hkM:k≤M:=by omega
    have htl:(r'.take k).length=k:=by rw [List.length_take,HM.out];omega
    have hdl:(r'.drop k).length=M - k:=by rw [List.length_drop,HM.out]
    by_cases hk1:k=1
    ·subst hk1
     cases r' with
     | nil=>have:=HM.out;simp at this;omega
     | cons y r' =>
      have hyn:¬ y.toNat<128:=fun hy=>ho (by unfold own1;simp;omega)
      have hyi:¬ (y.toNat:Int)<128:=by omega
      have hyd:decide ((y.toNat:Int)<128)=false:=by rw [decide_eq_false_iff_not];exact hyi
      have tk:∀ (a3:Option Addr) (c3:Nat) (u:World),Blk 160 u g [.slice a3 M c3]→Bytes u (.slice a3 M c3) (y::r')→Calls Tryz.prog 145 #[.pointer (some ⟨g,0,none⟩),.int .u64 1] u _:=fun a3 c3 u h1 h2=>take_ok a3 c3 M 1 (y::r') HM.out hMm (by omega) g u h1 h2
      simp only [List.take_succ_cons,List.take_zero,List.drop_succ_cons,List.drop_zero] at tk hdl ⊢
      have Tk:=Lib.hid tk
      have Hdl:=Lib.hid hdl
      clear ho tk hyn htl hdl hk
      go_enter Tryz.func115,Tryz.ntmps115
      go_wp2_with fail
      rw [←Hw1.out]
      go_wp2_with (first
       |(go_at_call 145;(with_reducible refine T1.out.mono ?_);rintro e w2 ⟨a1,c1,a2,c2,rfl,r1,r2,B2,g2⟩;have R2:Rd w (.slice a L c) (x::r) g w2 a2 (L - 1) c2 r:=R1.next g2 B2 r2 Hrl.out (by omega);have hz2:=hz1.grown g2 (by simp;omega);obtain ⟨b,off,rfl,hc⟩:=Bytes.at (r1 w2 (H0.out w2 R2.hg)) 0 (by simp);simp only [List.getElem_cons_zero,Nat.add_zero] at hc)
       |(go_at_call 146;(with_reducible refine (Lc.out _ _ _ R2.hB (R2.bytes H0.out)).mono ?_);rintro e w3 ⟨a3,c3,rfl,s3,B3,g3⟩;have R3:=R2.next g3 B3 s3 HM.out (by omega);have hz3:=hz2.grown g3 (by simp;omega))
       |(go_at_call 145;refine (Tk.out a3 c3 w3 R3.hB (R3.bytes H0.out)).mono ?_;rintro e w4 ⟨a4,c4,a5,c5,rfl,r4,r5,B4,g4⟩;have R4:Rd w (.slice a L c) (x::r) g w4 a5 (M - 1) c5 r':=R3.next g4 B4 r5 Hdl.out (by omega);have hz4:=hz3.grown g4 (by simp;omega);have hb4:=r4 w4 (Bytes.off_r (R3.bytes H0.out) R3.hB ⟨_,_,_,rfl⟩ g4);have hs4:w.heap.size<w4.heap.size:=hz4.lt;obtain ⟨b4,off4,rfl,hc4⟩:=Bytes.at hb4 0 (by simp);simp only [List.getElem_cons_zero,Nat.add_zero] at hc4)
       |(refine wpList_appA (o:=⟨some 38,_,_,_,_,_⟩) (by rfl) (.tmp 36) (.tmp 37) 25 (by rfl) elU8 (by rfl) (OwnOf.empty b8 1 5 w4 (w.heap.size+1) hs4) (by rfl) (hb4.alloc _) (by simp;omega) (by simp) (by unfold maxLen;simp) ?_;intro v6 w6 o6 g6 p6;have hz6:=(hz4.alloc (.cells #[] 5)).grown g6 (by simp [Value.ownBlock];omega);obtain ⟨a6,c6,rfl,_⟩:=o6.form' 1 (by simp);have R6:=(R4.alloc (.cells #[] 5)).fresh g6 (by intro y hy;simp [Value.ownBlock] at hy;omega) hglt)
       |((with_reducible show wpList _ _ _ (⟨none,.store _ _ _,_,_,_,_⟩::_) _ _);refine wpList_storeA (o:=⟨none,_,_,_,_,_⟩) (by rfl) 77 (.tmp 2) (.tmp 39) (by rfl) w.heap.size [.bool false,.slice a6 1 c6,.slice none 0 0] (by rfl) (by rfl) aggItem hz6 (by rfl) (by rfl) (by intro u hu;simp at hu;rcases hu with rfl|rfl|rfl<;>rfl) (Below.refl _ _) (Nat.le_refl _) ?_;intro w7 hh7 _ hg7))
      have R7:=R6.fresh hg7 (fun y hy=>by cases hy;exact Nat.le_refl _) hglt
      have o7:=o6.grown hg7 (fun k hk e=>by cases hk;have:=o6.lt _ e;omega)
      refine bodyPost_ret (results_blk rfl _ _ w.heap.size aggItem hh7 rfl rfl) rfl ⟨.mk false (.slice a6 1 c6) [y] (.slice none 0 0) [],a5,c5,rfl,?_,?_,R7.hg,Fp.txt o7 (fun _ h=>by omega),by rw [erI_mk];rfl,.txt _ _ _⟩
      ·rw [Hdl.out];exact R7.hs
      ·rw [Hdl.out];exact R7.hB
    ·have hki:((k:Int)==1)=false:=by rw [beq_eq_false_iff_ne];omega
     have tk:∀ (a3:Option Addr) (c3:Nat) (u:World),Blk 160 u g [.slice a3 M c3]→Bytes u (.slice a3 M c3) r'→Calls Tryz.prog 145 #[.pointer (some ⟨g,0,none⟩),.int .u64 (k:Int)] u _:=fun a3 c3 u h1 h2=>take_ok a3 c3 M k r' HM.out hMm hkM g u h1 h2
     obtain ⟨t,ht⟩:∃ t,t=r'.take k:=⟨_,rfl⟩
     obtain ⟨d,hd⟩:∃ d,d=r'.drop k:=⟨_,rfl⟩
     simp only [←ht,←hd] at tk htl hdl ⊢
     have Tk:=Lib.hid tk
     have Hdl:=Lib.hid hdl
     have Htl:=Lib.hid htl
     clear ho tk ht hd htl hdl hk hk1
     go_enter Tryz.func115,Tryz.ntmps115
     go_wp2_with fail
     rw [←Hw1.out]
     go_wp2_with (first
      |(go_at_call 145;(with_reducible refine T1.out.mono ?_);rintro e w2 ⟨a1,c1,a2,c2,rfl,r1,r2,B2,g2⟩;have R2:Rd w (.slice a L c) (x::r) g w2 a2 (L - 1) c2 r:=R1.next g2 B2 r2 Hrl.out (by omega);have hz2:=hz1.grown g2 (by simp;omega);obtain ⟨b,off,rfl,hc⟩:=Bytes.at (r1 w2 (H0.out w2 R2.hg)) 0 (by simp);simp only [List.getElem_cons_zero,Nat.add_zero] at hc)
      |(go_at_call 146;(with_reducible refine (Lc.out _ _ _ R2.hB (R2.bytes H0.out)).mono ?_);rintro e w3 ⟨a3,c3,rfl,s3,B3,g3⟩;have R3:=R2.next g3 B3 s3 HM.out (by omega);have hz3:=hz2.grown g3 (by simp;omega))
      |(go_at_call 145;refine (Tk.out a3 c3 w3 R3.hB (R3.bytes H0.out)).mono ?_;rintro e w4 ⟨a4,c4,a5,c5,rfl,r4,r5,B4,g4⟩;have R4:Rd w (.slice a L c) (x::r) g w4 a5 (M - k) c5 d:=R3.next g4 B4 r5 Hdl.out (by omega);have hz4:=hz3.grown g4 (by simp;omega);have hb4:=r4 w4 (Bytes.off_r (R3.bytes H0.out) R3.hB ⟨_,_,_,rfl⟩ g4);have hs4:w.heap.size<w4.heap.size:=hz4.lt)
      |(refine wpList_appA (o:=⟨some 38,_,_,_,_,_⟩) (by rfl) (.tmp 36) (.tmp 37) 25 (by rfl) elU8 (by rfl) (OwnOf.empty b8 1 5 w4 (w.heap.size+1) hs4) (by rfl) (hb4.alloc _) (by simp;omega) (by rw [Htl.out];simp;omega) (by unfold maxLen;rw [Htl.out];simp;omega) ?_;intro v6 w6 o6 g6 p6;have hz6:=(hz4.alloc (.cells #[] 5)).grown g6 (by simp [Value.ownBlock];omega);obtain ⟨a6,c6,rfl,_⟩:=o6.form' k (by rw [List.nil_append];exact Htl.out);have R6:=(R4.alloc (.cells #[] 5)).fresh g6 (by intro y hy;simp [Value.ownBlock] at hy;omega) hglt)
      |((with_reducible show wpList _ _ _ (⟨none,.store _ _ _,_,_,_,_⟩::_) _ _);refine wpList_storeA (o:=⟨none,_,_,_,_,_⟩) (by rfl) 77 (.tmp 2) (.tmp 39) (by rfl) w.heap.size [.bool false,.slice a6 k c6,.slice none 0 0] (by rfl) (by rfl) aggItem hz6 (by rfl) (by rfl) (by intro u hu;simp at hu;rcases hu with rfl|rfl|rfl<;>rfl) (Below.refl _ _) (Nat.le_refl _) ?_;intro w7 hh7 _ hg7))
     have R7:=R6.fresh hg7 (fun y hy=>by cases hy;exact Nat.le_refl _) hglt
     have o7:=o6.grown hg7 (fun k hk e=>by cases hk;have:=o6.lt _ e;omega)
     refine bodyPost_ret (results_blk rfl _ _ w.heap.size aggItem hh7 rfl rfl) rfl ⟨.mk false (.slice a6 k c6) t (.slice none 0 0) [],a5,c5,rfl,?_,?_,R7.hg,Fp.txt o7 (fun _ h=>by omega),by rw [erI_mk];rfl,.txt _ _ _⟩
     ·rw [Hdl.out];exact R7.hs
     ·rw [Hdl.out];exact R7.hB
def Any (_:World):Prop:=True
structure LsW (w:World)(v0:Value)(b0:List UInt8)(g gi g6:Nat)(a4:Option Addr)(L4 c4:Nat)(rest:List UInt8)(a5:Option Addr)(L5 c5:Nat)(rem:List UInt8)(kv:Value)(ks:List Itm)(u:World):Prop where
 hR:Rd w v0 b0 g u a4 L4 c4 rest
 hI:Blk 160 u gi [.slice a5 L5 c5]
 hs:SubB v0 b0 (.slice a5 L5 c5) rem
 hl:rem.length=L5
 hm:Blk 77 u g6 [.bool true,.slice none 0 0,kv]
 hz:Blk 77 u w.heap.size [.bool false,.slice none 0 0,.slice none 0 0]
 hO:OwnOf icells 3 77 u (g6+1) kv ks
 hF:∀ k∈ks,Fp (fun x=>g6+1≤x∧kv.ownBlock≠some x) u k∧BareI k
 h1:w.heap.size<gi
 h2:gi<g6
 hg:g<w.heap.size
section
variable {w:World} {v0:Value} {b0:List UInt8} {g gi g6:Nat} {a4:Option Addr} {L4 c4:Nat} {rest:List UInt8} {a5:Option Addr} {L5 c5:Nat} {rem:List UInt8} {kv:Value} {ks:List Itm} {u:World}
theorem LsW.kept {u':World}(h:LsW w v0 b0 g gi g6 a4 L4 c4 rest a5 L5 c5 rem kv ks u)(hb:Below u.heap.size u u'):LsW w v0 b0 g gi g6 a4 L4 c4 rest a5 L5 c5 rem kv ks u' :=
 ⟨h.hR.kept hb,h.hI.kept hb,h.hs,h.hl,h.hm.kept hb,h.hz.kept hb,h.hO.kept hb,fun k hk=>⟨(h.hF k hk).1.to hb.size (fun x hx hl=>⟨hb.block x hl,hx⟩),(h.hF k hk).2⟩,h.h1,h.h2,h.hg⟩
theorem LsW.read {u':World}{a':Option Addr}{L' c':Nat}{rem':List UInt8}(h:LsW w v0 b0 g gi g6 a4 L4 c4 rest a5 L5 c5 rem kv ks u)(hg:u.grownBy u' (some gi))(hI:Blk 160 u' gi [.slice a' L' c'])(hs:SubB (.slice a5 L5 c5) rem (.slice a' L' c') rem')(hl:rem'.length=L') :
  LsW w v0 b0 g gi g6 a4 L4 c4 rest a' L' c' rem' kv ks u':=by
 have q1:=h.h1
 have q2:=h.h2
 have q3:=h.hg
 refine ⟨h.hR.fresh hg (fun x hx=>by cases hx;omega) h.hg,hI,h.hs.trans hs,hl,h.hm.grown hg (by simp;omega),h.hz.grown hg (by simp;omega),h.hO.grown hg (fun k hk e=>by cases hk;have:=h.hO.lt _ e;omega),fun k hk=>⟨(h.hF k hk).1.to hg.size (fun x hx hlt=>⟨hg.block x hlt (by simp;omega),hx⟩),(h.hF k hk).2⟩,h.h1,h.h2,h.hg⟩
theorem own_lt {α:Type}{f:α→List Value}{size:Nat}{e:TypeId}{w:World}{B:Nat}{v:Value}{l:List α}(h:OwnOf f size e w B v l){k:Nat}(hk:v.ownBlock=some k):k<w.heap.size:=(World.ownsRow.lt h k hk).2
theorem LsW.grew {u':World}{kv':Value}{it:Itm}(h:LsW w v0 b0 g gi g6 a4 L4 c4 rest a5 L5 c5 rem kv ks u)(hit:Fp (fun x=>g6+1≤x∧kv.ownBlock≠some x) u it)(hbare:BareI it)(hg:u.grownBy u' kv.ownBlock)(hO:OwnOf icells 3 77 u' (g6+1) kv' (ks++[it]))
  (hp:∀ k,kv'.ownBlock=some k→kv.ownBlock=some k∨u.heap.size≤k):LsW w v0 b0 g gi g6 a4 L4 c4 rest a5 L5 c5 rem kv' (ks++[it]) (u'.setCell ⟨g6,2,none⟩ kv'):=by
 have q1:=h.h1
 have q2:=h.h2
 have q3:=h.hg
 have hne:∀ b,b≤g6→kv.ownBlock≠some b:=fun b hb e=>by have:=h.hO.lt b e;omega
 have hst:u'.grownBy (u'.setCell ⟨g6,2,none⟩ kv') (some g6):=grown_cell 2 kv'
 have R1:=h.hR.fresh hg (fun x hx=>by have:=h.hO.lt x hx;omega) h.hg
 have R2:=R1.fresh hst (fun x hx=>by cases hx;omega) h.hg
 have hall:∀ k,Fp (fun x=>g6+1≤x∧kv.ownBlock≠some x) u k→Fp (fun x=>g6+1≤x∧kv'.ownBlock≠some x) (u'.setCell ⟨g6,2,none⟩ kv') k:=by
  intro k hk
  refine hk.to (Nat.le_trans hg.size hst.size) (fun x hx hlt=>⟨?_,hx.1,fun e=>?_⟩)
  ·rw [hst.block x (Nat.lt_of_lt_of_le hlt hg.size) (by simp;omega),hg.block x hlt (fun e=>hx.2 e.symm)]
  ·rcases hp x e with h1|h1
   ·exact hx.2 h1
   ·omega
 refine ⟨R2,(h.hI.grown hg (hne _ (by omega))).other _ (by simp;omega) _,h.hs,h.hl,(h.hm.grown hg (hne _ (Nat.le_refl _))).set 2 kv',(h.hz.grown hg (hne _ (by omega))).other _ (by simp;omega) _,hO.grown hst (fun k hk e=>by cases hk;have:=hO.lt _ e;omega),fun k hk=>?_,h.h1,h.h2,h.hg⟩
 rcases List.mem_append.1 hk with hk|hk
 ·exact ⟨hall k (h.hF k hk).1,(h.hF k hk).2⟩
 ·rw [List.mem_singleton] at hk;subst hk;exact ⟨hall k hit,hbare⟩
theorem LsW.apart {u':World}{it:Itm}(h:LsW w v0 b0 g gi g6 a4 L4 c4 rest a5 L5 c5 rem kv ks u)(hit:Fp (fun x=>u.heap.size≤x) u' it):Fp (fun x=>g6+1≤x∧kv.ownBlock≠some x) u' it:=by
 have hlt:=h.hm.lt
 exact hit.to (Nat.le_refl _) (fun x hx _=>⟨rfl,by omega,fun e=>by have:=own_lt h.hO e;omega⟩)
end
end Go.Proofs.YtcgpjceopnfahaaGreat
