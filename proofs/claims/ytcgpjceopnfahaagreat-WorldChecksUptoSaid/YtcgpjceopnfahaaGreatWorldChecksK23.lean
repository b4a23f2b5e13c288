/- What reading lists of texts needs; a list of texts in the making; parts of blocks. | A leaf by its fields, what it is written as, what reading answers; how a le -/
import Derived.Test.YtcgpjceopnfahaaGreatWorldChecksK17
import Derived.Test.YtcgpjceopnfahaaGreatWorldChecksK11
import Derived.Test.YtcgpjceopnfahaaGreatWorldChecksK19
import Derived.Test.YtcgpjceopnfahaaGreatWorldChecksK02
import Derived.Test.YtcgpjceopnfahaaGreatWorldChecksK22
import Derived.MapViews
import Derived.DeepKeys2
import Derived.Test.YtcgpjceopnfahaaGreatWorldChecksK18
set_option linter.unusedSimpArgs false
set_option linter.unusedVariables false
set_option maxHeartbeats 4000000
set_option maxRecDepth 100000
namespace Go.Proofs.YtcgpjceopnfahaaGreat
open Go.RowKit
theorem mid_drop {α:Type}(a b c:List α)(n m:Nat)(hn:a.length=n)(hm:b.length=m):((a++(b++c)).drop n).take m=b:=by
 rw [List.drop_left' hn,List.take_left' hm]
theorem end_drop {α:Type}(a b:List α)(n m:Nat)(hn:a.length=n)(hm:b.length=m):((a++b).drop n).take m=b:=by
 rw [List.drop_left' hn,List.take_of_length_le (by omega)]
theorem lsB_enc (ts:List (List UInt8)):lsB ts=encP (.lst (ts.map .txt)):=by
 have:∀ ts:List (List UInt8),ts.flatMap textB=encPL (ts.map .txt):=by
  intro ts
  induction ts with
  | nil=>rfl
  | cons t ts ih=>rw [List.flatMap_cons,List.map_cons,encPL,ih];rfl
 unfold lsB
 rw [encP,this]
theorem textB_len (t:List UInt8):(textB t).length≤t.length+9∨18446744073709551616≤t.length:=by
 by_cases h64:t.length<18446744073709551616
 ·left
  unfold textB
  split
  ·omega
  ·unfold headB
   rw [List.length_append]
   split
   ·rw [List.length_cons,List.length_nil];omega
   ·have:=numB_8 t.length h64
    rw [List.length_cons];omega
 ·right;omega
theorem textB_short {t:List UInt8}(h:t.length≤32):(textB t).length≤41:=by
 rcases textB_len t with h1|h1<;>omega
theorem flat_short:∀ (ts:List (List UInt8)),(∀ t∈ts,t.length≤32)→(ts.flatMap textB).length≤41*ts.length
 | [],_=>by simp
 | t::ts,h=>by
  rw [List.flatMap_cons,List.length_append,List.length_cons]
  have h1:=textB_short (h t List.mem_cons_self)
  have h2:=flat_short ts (fun x hx=>h x (List.mem_cons_of_mem _ hx))
  omega
theorem txt_inj:∀ {a b:List (List UInt8)},a.map Pit.txt=b.map Pit.txt→a=b
 | [],[],_=>rfl
 | [],_::_,h=>by simp at h
 | _::_,[],h=>by simp at h
 | x::a,y::b,h=>by
  simp only [List.map_cons,List.cons.injEq,Pit.txt.injEq] at h
  rw [h.1,txt_inj h.2]
theorem numB_inj {x y:Nat}(hx:x<18446744073709551616)(hy:y<18446744073709551616)(h:numB x=numB y):x=y:=by
 rw [←numB_num x (by unfold W256;omega),←numB_num y (by unfold W256;omega),h]
def cpy (n:Nat)(t:List UInt8):List UInt8:=t.take n++List.replicate (n - t.length) 0
theorem cpy_len (n:Nat)(t:List UInt8):(cpy n t).length=n:=by unfold cpy;simp;omega
theorem cpy_full {n:Nat}{t:List UInt8}(h:t.length=n):cpy n t=t:=by unfold cpy;rw [List.take_of_length_le (by omega),h,Nat.sub_self];simp
def nfP (t:List UInt8):Nat:=lim (numV t) 0
def nfR (t:List UInt8):Nat:=lim (numL (last32 t)) 0
theorem lim_small {x:Nat}(h:x<18446744073709551616):lim x 0=x:=by unfold lim;simp;exact h
theorem nfP_num:∀ x<18446744073709551616,nfP (numB x)=x:=by
 intro x hx
 unfold nfP
 have h8:=numB_8 x hx
 have hok:okNum (numB x)=true:=by
  unfold okNum
  have:=bare_head (wb x)
  simp only [Bool.and_eq_true,decide_eq_true_eq,Bool.not_eq_true',beq_eq_false_iff_ne]
  exact ⟨by omega,this⟩
 unfold numV
 rw [if_pos hok,numB_num x (by unfold W256;omega),lim_small hx]
theorem nfR_num:∀ x<18446744073709551616,nfR (numB x)=x:=by
 intro x hx
 unfold nfR
 have h8:=numB_8 x hx
 rw [last_small _ (by omega),numB_num x (by unfold W256;omega),lim_small hx]
section
variable {w:World} {zs:List (TypeId × Nat × List Value)} {B g9:Nat} {kv:Value} {ks:List Itm} {u:World}
end
theorem Blk.bytesAt {e:TypeId}{w:World}{g:Nat}{cs:List Value}(hb:Blk e w g cs)(off n:Nat)(t:List UInt8)(ht:(cs.drop off).take n=by8 t)(hl:t.length=n)(hn:n≤maxLen):Bytes w (.slice (some ⟨g,off,none⟩) n n) t:=by
 subst hl
 refine ⟨flat_len (f:=b8) (size:=1) (fun _=>rfl) t,_,_,rfl,Nat.le_refl _,hn,.inr ⟨g,off,none,rfl,.inl rfl,fun j u hu=>?_⟩⟩
 rw [flat_b8] at hu
 have hj:j<t.length:=by have:=(List.getElem?_eq_some_iff.1 hu).1;simpa using this
 rw [hb.cell]
 have:(by8 t)[j]?=some u:=hu
 rw [←ht,List.getElem?_take_of_lt hj,List.getElem?_drop] at this
 exact this
theorem run_part_at {P:Program}{e:TypeId}(ha:∀ w,(isAgg e).run P w=.ok false w){cs:Array Value}{k:Nat}{v:Value}(h:cs[k]?=some v)(w:World):(part e cs k).run P w=.ok v w:=by
 unfold part
 simp [ha,h]
theorem run_index_at {P:Program}{t e:TypeId}{n:Nat}(ht:P.underlying t=some (.array n e))(hs:(P.info? e).map (·.size)=some 1)(ha:∀ w,(isAgg e).run P w=.ok false w)(cs:Array Value)(k:Nat)(hk:k<n){v:Value}(h:cs[k]?=some v)(w:World)(ik:IntKind) :
  (Instr.index t (.agg cs) (.int ik (k:Int))).run P w=.ok v w:=run_index_agg ht hs cs k hk w ik (run_part_at ha h w)
theorem sl32 (g off:Nat)(w:World):(Instr.sliceAt 30 (.pointer (some ⟨g,off,none⟩)) none none none).run Tryz.prog w=.ok (.slice (some ⟨g,off,none⟩) 32 32) w:=by
 rw [run_sliceAt_array_all w 30 ⟨g,off,none⟩ (by kernel_rfl)]
 have e1:Tryz.prog.arrayLen 30=32:=by kernel_rfl
 have hs:(Tryz.prog.info? (Tryz.prog.elem 30)).map (·.size)=some 1:=by kernel_rfl
 cases hq:Tryz.prog.info? (Tryz.prog.elem 30) with
 | none=>simp [hq] at hs
 | some q =>
  have hs1:q.size=1:=by simpa [hq] using hs
  simp [sizeOf,typeInfo,hq,hs1,e1,slicedAt,Addr.add]
theorem sl8 (g off:Nat)(w:World):(Instr.sliceAt 41 (.pointer (some ⟨g,off,none⟩)) none none none).run Tryz.prog w=.ok (.slice (some ⟨g,off,none⟩) 8 8) w:=by
 rw [run_sliceAt_array_all w 41 ⟨g,off,none⟩ (by kernel_rfl)]
 have e1:Tryz.prog.arrayLen 41=8:=by kernel_rfl
 have hs:(Tryz.prog.info? (Tryz.prog.elem 41)).map (·.size)=some 1:=by kernel_rfl
 cases hq:Tryz.prog.info? (Tryz.prog.elem 41) with
 | none=>simp [hq] at hs
 | some q =>
  have hs1:q.size=1:=by simpa [hq] using hs
  simp [sizeOf,typeInfo,hq,hs1,e1,slicedAt,Addr.add]
theorem txts_snoc' (ps:List (Value × List UInt8))(p:Value × List UInt8):txts (ps++[p])=txts ps++[txt p.1 p.2]:=by unfold txts;rw [List.map_append];rfl
def OneC (v:Value)(t:List UInt8):Ty:=fun u w=>∃ g,u=.slice (some ⟨g,0,none⟩) 1 1∧RowOf icells 3 w u [txt v t]
theorem OneC.mono (v:Value)(t:List UInt8):Mono (OneC v t):=fun _ _ _ ⟨g,h1,h2⟩ hb=>⟨g,h1,RowOf.kept h2 hb⟩
theorem by8_take (n:Nat)(m:List UInt8):by8 (m.take n)=(by8 m).take n:=by unfold by8;rw [List.map_take]
theorem wpList_copyMin {P:Program}{w:World}{ops:Array Oper}{rest:List Oper}{o:Oper}{a:Act}{Q:Exit→Act→World→Prop}(hgd:o.guard=none)(d s:Operand)(dT sT:TypeId)
  (ho:o.op=.call { callee:=.builtin .copy,args:=#[d,s],argTypes:=#[dT,sT] }) {e t:TypeId} {z:Value} {bytes:Nat}(el:El P dT t z 1 bytes b8)
  (g off dLen dCap:Nat) (hd:a.eval d=.slice (some ⟨g,off,none⟩) dLen dCap) (u:Value) (m:List UInt8) (hs:a.eval s=u) (hrow:Bytes w u m)
  (cur:List Value) (hg:Blk e w g cur) (hfit:off+dLen≤cur.length)
  (h:∀ w',Blk e w' g (splice cur off (by8 (m.take dLen)))→Below g w w'→wpList P ops Q rest (a.put o.dst (goInt (m.take dLen).length)) w') :
  wpList P ops Q (o::rest) a w:=by
 obtain ⟨i,hi,hz,hsi,hby⟩:=el.info
 obtain ⟨h0,ad,c,rfl,_,_,h3⟩:=hrow
 have hl:(by8 (m.take dLen)).length=Nat.min m.length dLen:=by rw [by8_len,List.length_take];exact Nat.min_comm _ _
 have hle:(by8 (m.take dLen)).length≤dLen:=by rw [hl];exact Nat.min_le_right _ _
 have hle2:(by8 (m.take dLen)).length≤m.length:=by rw [hl];exact Nat.min_le_left _ _
 refine wpList_copy_splice hgd d s dT sT ho t el.ht (by rw [hi];simp [hsi]) _ ad dLen dCap m.length c hd hs g off cur e hg (by8 (m.take dLen)) hl ?_ (by omega) ?_ g w (Below.refl _ _) (Nat.le_refl _) ?_
 ·intro hpos
  rcases h3 with ⟨_,hm,_⟩|⟨b,o2,sp,rfl,hsp,h3⟩
  ·rw [hl,hm] at hpos;simp at hpos
  ·obtain rfl:sp=none:=hsp.resolve_right (by omega)
   refine ⟨rfl,_,rfl,fun j v hv=>?_⟩
   have hadd:(⟨b,o2,none⟩:Addr).add j=⟨b,o2+j,none⟩:=by unfold Addr.add;split<;>simp_all
   rw [hadd]
   refine h3 j v ?_
   rw [flat_b8]
   have hj:j<dLen:=by
    have:=(List.getElem?_eq_some_iff.1 hv).1
    omega
   rw [by8_take,List.getElem?_take_of_lt hj] at hv
   exact hv
 ·intro u hu
  obtain ⟨x,_,rfl⟩:=List.mem_map.1 hu
  rfl
 ·rw [by8_len]
  exact fun w' h1 h2=>h w' h1.out h2
theorem splice_at (A C:List Value)(X t:List UInt8)(off n:Nat)(hA:A.length=off)(hX:X=zeroB n):splice (A++(by8 X++C)) off (by8 (t.take n))=A++(by8 (cpy n t)++C):=by
 subst hX
 have hl:(by8 (t.take n)).length=min n t.length:=by rw [by8_len,List.length_take]
 have hz:(by8 (zeroB n)).length=n:=by rw [by8_len];unfold zeroB;simp
 unfold splice
 rw [List.take_left' hA,←List.drop_drop,List.drop_left' hA,List.drop_append_of_le_length (by omega),hl]
 have:(by8 (zeroB n)).drop (min n t.length)=by8 (List.replicate (n - t.length) 0):=by
  unfold by8 zeroB
  rw [←List.map_drop,List.drop_replicate]
  congr 2
  omega
 rw [this]
 unfold cpy by8
 rw [List.map_append]
 simp only [List.append_assoc]
theorem dec_read {p:Pit}(h:(encP p).length<18446744073709551616):dec (encP p)=some p:=by
 have h1:=par_read (encP p).length p [] (Nat.le_refl _) h
 rw [List.append_nil] at h1
 unfold dec
 rw [h1]
theorem kidT_txts (ts:List (List UInt8)):kidT (.lst (ts.map .txt))=ts:=by
 show (ts.map Pit.txt).map pitT=ts
 rw [List.map_map]
 exact List.map_id' ts
theorem nfP_lt (t:List UInt8):nfP t<18446744073709551616:=by unfold nfP lim;omega
theorem nfR_lt (t:List UInt8):nfR t<18446744073709551616:=by unfold nfR lim;omega
theorem decE_01 (b:List UInt8)(h:decE b≠0):decE b=1:=by
 unfold decE at h ⊢
 split at h
 ·exact absurd rfl h
 ·rename_i hn;rw [if_neg hn]
theorem kid_text {w1:World}{ka:Option Addr}{n kc:Nat}{ks:List Itm}(hrow:RowOf icells 3 w1 (.slice ka n kc) ks)(hkids:∀ k∈ks,IsItm w1 k)(i:Nat)(hi:i<ks.length):∃ b off ta tc,ka=some ⟨b,off,none⟩ ∧
  ∀ u,Below w1.heap.size w1 u→u.cell? ⟨b,off+i*3+1,none⟩=some (.slice ta ((ks.map itt)[i]?.getD []).length tc)∧Bytes u (.slice ta ((ks.map itt)[i]?.getD []).length tc) ((ks.map itt)[i]?.getD []):=by
 obtain ⟨b,off,rfl,hc⟩:=RowOf.cells icells_len hrow i hi
 have hI:=hkids _ (List.getElem_mem hi)
 have e:(ks.map itt)[i]?.getD []=itt ks[i]:=by rw [List.getElem?_map,List.getElem?_eq_getElem hi];rfl
 rw [e]
 obtain ⟨kid,hkid⟩:∃ x,x=ks[i]:=⟨_,rfl⟩
 rw [←hkid] at hI
 obtain ⟨l,tv,t,kv,kks⟩:=kid
 obtain ⟨ta,tc,rfl,_,_⟩:=hI.inv.1.form
 rw [←hkid]
 refine ⟨b,off,ta,tc,rfl,fun u hu=>⟨?_,RowOf.below (f:=b8) (size:=1) hI.inv.1 hu⟩⟩
 obtain ⟨b',off',e',hc'⟩:=RowOf.cells icells_len (RowOf.below hrow hu) i hi
 simp only [Option.some.injEq,Addr.mk.injEq,and_true] at e'
 obtain ⟨rfl,rfl⟩:=e'
 rw [Nat.add_assoc]
 exact hc' 1 _ (by rw [←hkid];rfl)
theorem idx0w (N:Nat)(w:World):(Instr.index 24 (.agg (wcs N).toArray) (.int .i64 0)).run Tryz.prog w=.ok (.int .u64 (lim N 0:Int)) w :=
 run_index_at (n:=4) (e:=22) Tryz.underlying24 (by kernel_rfl) (fun w=>run_isAgg_plain Tryz.underlying22 rfl w) _ 0 (by omega) rfl w .i64
theorem kid_texts {w1:World}{ka:Option Addr}{n kc:Nat}{ks:List Itm}(hrow:RowOf icells 3 w1 (.slice ka n kc) ks)(hkids:∀ k∈ks,IsItm w1 k)(h0:0<ks.length):∃ b off,ka=some ⟨b,off,none⟩∧∀ i,i<ks.length→∃ ta tc,
  ∀ u,Below w1.heap.size w1 u→u.cell? ⟨b,off+i*3+1,none⟩=some (.slice ta ((ks.map itt)[i]?.getD []).length tc)∧Bytes u (.slice ta ((ks.map itt)[i]?.getD []).length tc) ((ks.map itt)[i]?.getD []):=by
 obtain ⟨b,off,_,_,rfl,_⟩:=kid_text hrow hkids 0 h0
 refine ⟨b,off,rfl,fun i hi=>?_⟩
 obtain ⟨b',off',ta,tc,e,h⟩:=kid_text hrow hkids i hi
 simp only [Option.some.injEq,Addr.mk.injEq,and_true] at e
 obtain ⟨rfl,rfl⟩:=e
 exact ⟨ta,tc,h⟩
theorem tcell_len:∀ p:Value × List UInt8,(tcell p).length=1:=fun _=>rfl
end Go.Proofs.YtcgpjceopnfahaaGreat
namespace Go.Proofs.YtcgpjceopnfahaaGreat
open Go.ChangeShapes Go.WideShapes Go.ChangeAt Go.RowKit
structure Lf where
 n:Nat
 m:Nat
 s:List UInt8
 c:List UInt8
structure Lf.Ok (l:Lf):Prop where
 n:l.n<18446744073709551616
 m:l.m<W256
 s:l.s.length=32
 c:l.c.length=32
def lfcs (l:Lf):List Value:=[u64v l.n]++(wcs l.m++(by8 l.s++by8 l.c))
theorem lfcs_len {l:Lf}(k:l.Ok):(lfcs l).length=69:=by
 unfold lfcs
 simp only [List.length_append,by8_len,k.s,k.c,wcs_len,List.length_cons,List.length_nil]
theorem lfcs_one (l:Lf):∀ u∈lfcs l,u.oneCell'=true:=by
 intro u hu
 unfold lfcs at hu
 simp only [List.mem_append,List.mem_singleton] at hu
 rcases hu with hu|hu|hu|hu
 ·subst hu;rfl
 ·exact wcs_one _ u hu
 ·obtain ⟨x,_,rfl⟩:=List.mem_map.1 hu;rfl
 ·obtain ⟨x,_,rfl⟩:=List.mem_map.1 hu;rfl
section
variable {l:Lf} (k:l.Ok)
include k
omit k in
theorem lfcs_n:(lfcs l)[0]?=some (u64v l.n):=rfl
omit k in
theorem lfcs_m:((lfcs l).drop 1).take 4=wcs l.m:=mid_drop [u64v l.n] _ _ 1 4 rfl (wcs_len _)
theorem lfcs_s:((lfcs l).drop 5).take 32=by8 l.s:=by
 have:lfcs l=([u64v l.n]++wcs l.m)++(by8 l.s++by8 l.c):=by unfold lfcs;simp only [List.append_assoc]
 rw [this]
 exact mid_drop _ _ _ 5 32 (by simp only [List.length_append,wcs_len,List.length_cons,List.length_nil]) (by rw [by8_len,k.s])
theorem lfcs_c:((lfcs l).drop 37).take 32=by8 l.c:=by
 have:lfcs l=([u64v l.n]++(wcs l.m++by8 l.s))++by8 l.c:=by unfold lfcs;simp only [List.append_assoc]
 rw [this]
 exact end_drop _ _ 37 32 (by simp only [List.length_append,by8_len,wcs_len,k.s,List.length_cons,List.length_nil]) (by rw [by8_len,k.c])
end
def lTs (l:Lf):List (List UInt8):=[numB l.n,numB l.m,l.s,l.c]
def wL (l:Lf):List UInt8:=lsB (lTs l)
theorem numB_le32 (N:Nat):(numB N).length≤32:=by
 unfold numB
 exact Nat.le_trans (bare_len _) (by have:=wb_len N;omega)
theorem lTs_short {l:Lf}(k:l.Ok):∀ t∈lTs l,t.length≤32:=by
 intro t ht
 simp only [lTs,List.mem_cons,List.not_mem_nil,or_false] at ht
 rcases ht with rfl|rfl|rfl|rfl
 ·exact numB_le32 _
 ·exact numB_le32 _
 ·rw [k.s];omega
 ·rw [k.c];omega
theorem wL_len {l:Lf}(k:l.Ok):(wL l).length≤200:=by
 have h1:=flat_short (lTs l) (lTs_short k)
 have h2:(lTs l).length=4:=rfl
 unfold wL lsB
 rw [List.length_append]
 have h3:(headB 192 ((lTs l).flatMap textB).length).length≤9:=by
  unfold headB
  split
  ·simp
  ·have:=numB_8 ((lTs l).flatMap textB).length (by omega)
   rw [List.length_cons];omega
 omega
theorem wL_inj {h g:Lf}(k:h.Ok)(j:g.Ok)(e:wL h=wL g):h=g:=by
 have hl:=wL_len k
 unfold wL at e hl
 rw [lsB_enc] at hl
 rw [lsB_enc,lsB_enc] at e
 have:=encP_inj (by omega) e
 injection this with e2
 have e3:=txt_inj e2
 unfold lTs at e3
 simp only [List.cons.injEq,and_true] at e3
 obtain ⟨a1,a2,a3,a4⟩:=e3
 have e4:h.m=g.m:=by rw [←numB_num h.m k.m,←numB_num g.m j.m,a2]
 cases h;cases g
 simp only [Lf.mk.injEq]
 exact ⟨numB_inj k.n j.n a1,e4,a3,a4⟩
theorem wL_dec {g:Lf}(k:g.Ok):dec (wL g)=some (.lst ((lTs g).map .txt)):=by
 have hl:=wL_len k
 unfold wL at hl ⊢
 rw [lsB_enc] at hl ⊢
 exact dec_read (by omega)
def zL:Lf:=⟨0,0,zeroB 32,zeroB 32⟩
theorem zL_ok:zL.Ok:=⟨by decide,by unfold W256;decide,rfl,rfl⟩
def RdL (b:List UInt8)(h:Lf)(e:Int):Prop:=(e=0∧wL h=b)∨(e=1∧h=zL∧∀ g:Lf,g.Ok→wL g≠b)
theorem RdL.one {b:List UInt8}{h g:Lf}{e f:Int}(k:h.Ok)(j:g.Ok)(x:RdL b h e)(y:RdL b g f):h=g∧e=f:=by
 rcases x with ⟨rfl,x⟩|⟨rfl,rfl,x⟩<;>rcases y with ⟨rfl,y⟩|⟨rfl,rfl,y⟩
 ·exact ⟨wL_inj k j (x.trans y.symm),rfl⟩
 ·exact absurd x (y h k)
 ·exact absurd y (x g j)
 ·exact ⟨rfl,rfl⟩
theorem rdl_form {b:List UInt8}(h:decE b≠0∨kidsN (decP b)≠4∨((kidT (decP b))[2]?.getD []).length≠32∨((kidT (decP b))[3]?.getD []).length≠32):RdL b zL 1:=by
 refine .inr ⟨rfl,rfl,fun g k e=>?_⟩
 have hd:=wL_dec k
 rw [e] at hd
 have hp:decP b=.lst ((lTs g).map .txt):=by unfold decP;rw [hd];rfl
 rcases h with h|h|h|h
 ·exact h (by unfold decE;rw [hd];rfl)
 ·exact h (by rw [hp];rfl)
 ·exact h (by rw [hp,kidT_txts];exact k.s)
 ·exact h (by rw [hp,kidT_txts];exact k.c)
theorem rdl_not {rd:List (List UInt8)→Lf}(hf:∀ g:Lf,g.Ok→rd (lTs g)=g){b:List UInt8}(h:wL (rd (kidT (decP b)))≠b):RdL b zL 1:=by
 refine .inr ⟨rfl,rfl,fun g k e=>?_⟩
 have hd:=wL_dec k
 rw [e] at hd
 have hp:decP b=.lst ((lTs g).map .txt):=by unfold decP;rw [hd];rfl
 rw [hp,kidT_txts,hf g k] at h
 exact h e
theorem rdl_yes {b:List UInt8}{h:Lf}(e:wL h=b):RdL b h 0:=.inl ⟨rfl,e⟩
def rdL (nf mf:List UInt8→Nat)(ts:List (List UInt8)):Lf :=
 let g:=fun i=>ts[i]?.getD []
 ⟨nf (g 0),mf (g 1),cpy 32 (g 2),cpy 32 (g 3)⟩
def mfR (t:List UInt8):Nat:=numL (last32 t)
theorem mfP_lt (t:List UInt8):numV t<W256:=by
 unfold numV
 split
 ·rename_i h
  unfold okNum at h
  simp only [Bool.and_eq_true,decide_eq_true_eq] at h
  exact numL_small _ h.1
 ·unfold W256;omega
theorem mfP_num (x:Nat)(hx:x<W256):numV (numB x)=x:=by
 have hok:okNum (numB x)=true:=by
  unfold okNum
  have:=bare_head (wb x)
  simp only [Bool.and_eq_true,decide_eq_true_eq,Bool.not_eq_true',beq_eq_false_iff_ne]
  exact ⟨numB_le32 x,this⟩
 unfold numV
 rw [if_pos hok,numB_num x hx]
theorem mfR_lt (t:List UInt8):mfR t<W256:=numL_small _ (by unfold last32;simp;omega)
theorem mfR_num (x:Nat)(hx:x<W256):mfR (numB x)=x:=by
 unfold mfR
 rw [last_small _ (numB_le32 _),numB_num _ hx]
theorem rdL_ok {nf mf:List UInt8→Nat}(hf:∀ t,nf t<18446744073709551616)(hm:∀ t,mf t<W256)(ts:List (List UInt8)):(rdL nf mf ts).Ok:=⟨hf _,hm _,cpy_len _ _,cpy_len _ _⟩
theorem rdL_self {nf mf:List UInt8→Nat}(hf:∀ x<18446744073709551616,nf (numB x)=x)(hm:∀ x,x<W256→mf (numB x)=x)(g:Lf)(k:g.Ok):rdL nf mf (lTs g)=g:=by
 cases g
 simp only [rdL,lTs,List.getElem?_cons_zero,List.getElem?_cons_succ,Option.getD_some,Lf.mk.injEq]
 exact ⟨hf _ k.n,hm _ k.m,cpy_full k.s,cpy_full k.c⟩
theorem keyTypeLf:Tryz.prog.keyTypeAt 4 32=true:=by kernel_rfl
theorem cellsLf:Tryz.prog.cellsOf 32=69:=by kernel_rfl
theorem aggLf:Agg Tryz.prog 32 69:=⟨_,Tryz.underlying32,rfl,by kernel_rfl⟩
def litW (N:Nat):List Lit:=[lit64 (lim N 0),lit64 (lim N 1),lit64 (lim N 2),lit64 (lim N 3)].flatten
theorem keyW (d N:Nat):Tryz.prog.keyLits (d+2) 24 (wcs N)=some (litW N):=by
 have c1:Tryz.prog.cellsOf 22=1:=by kernel_rfl
 have c4:Tryz.prog.cellsOf 24=4:=by kernel_rfl
 have k:=fun i=>keyL64 d (lim_lt N i)
 have h4:wcs N=[u64v (lim N 0),u64v (lim N 1),u64v (lim N 2),u64v (lim N 3)]:=rfl
 unfold Program.keyLits
 simp only [show Tryz.prog.underlying 24=some (.array 4 22) from Tryz.underlying24]
 rw [if_pos (by rw [wcs_len,c4]),c1,h4]
 simp only [show List.range 4=[0,1,2,3] from rfl,List.mapM_cons,List.mapM_nil,Nat.zero_mul,Nat.one_mul,Nat.mul_one,List.drop_zero,List.drop_succ_cons,List.take_succ_cons,List.take_zero,k]
 rfl
def lfls (l:Lf):List Lit:=[lit64 l.n,litW l.m,lit8 l.s,lit8 l.c].flatten
theorem keyLf {l:Lf}(k:l.Ok):Tryz.prog.keyLits 4 32 (lfcs l)=some (lfls l):=by
 have c32:Tryz.prog.cellsOf 30=32:=by kernel_rfl
 have c4:Tryz.prog.cellsOf 24=4:=by kernel_rfl
 have c1:Tryz.prog.cellsOf 22=1:=by kernel_rfl
 have a32:=fun l hl=>keyA (t:=30) (n:=32) Tryz.underlying30 c32 1 l hl
 have e0:=keyL64 2 k.n
 have e1:=keyW 1 l.m
 have e2:=a32 l.s k.s
 have e3:=a32 l.c k.c
 rw [←one_at lfcs_n] at e0
 rw [←lfcs_m] at e1
 rw [←lfcs_s k] at e2
 rw [←lfcs_c k] at e3
 unfold Program.keyLits
 simp only [show Tryz.prog.underlying 32=some (.struct _) from Tryz.underlying32]
 rw [if_pos ⟨by rw [lfcs_len k,cellsLf],by kernel_rfl⟩]
 simp only [List.mapM_cons,List.mapM_nil,c32,c4,c1,e0,e1,e2,e3]
 rfl
theorem formedLf {l:Lf}(k:l.Ok):(Value.agg (lfcs l).toArray).formed Tryz.prog 32=true:=by
 unfold Value.formed
 simp only [show Tryz.prog.underlying 32=some (.struct _) from Tryz.underlying32,cellsLf,List.size_toArray,lfcs_len k,beq_self_eq_true]
theorem run_eqLf {l:Lf}(k:l.Ok)(w:World):(binOp .eql 32 (.agg (lfcs l).toArray) (.agg (lfcs l).toArray)).run Tryz.prog w=.ok (.bool true) w:=by
 obtain ⟨r,hr,hi⟩:=run_equalIn_deep 9996 4 32 keyTypeLf w 4 4 (.agg (lfcs l).toArray) (.agg (lfcs l).toArray) (lfls l) (lfls l) (formedLf k) (formedLf k) (keyLf k) (keyLf k)
 have h2:r=true:=hi.2 rfl
 rw [h2] at hr
 have h3:(Op.equalIn 10000 32 (.agg (lfcs l).toArray) (.agg (lfcs l).toArray)).run Tryz.prog w=.ok true w:=hr
 rw [run_eql_struct,h3];rfl
theorem guard_eqLf (x y:Lf)(o1 o2:Operand)(w1:World):(eqGuard .eql 32 o1 o2 (.agg (lfcs x).toArray) (.agg (lfcs y).toArray)).run Tryz.prog w1=.ok () w1 :=
 run_eqGuard_agg (P:=Tryz.prog) (w:=w1) .eql 32 o1 o2 _ _ (by kernel_rfl)
section
variable {H:Type} {enc:TypeId × Value→H} {W:World}
theorem word_ofL (A:List Int)(hl:A.length=4)(hw:∀ x∈A,(Lit.int .u64 x).wf=true):∃ N,N<W256∧A=limI N:=by
 match A,hl with
 | [x0,x1,x2,x3],_ =>
  have h0:=bounds_u64 (hw x0 (by simp))
  have h1:=bounds_u64 (hw x1 (by simp))
  have h2:=bounds_u64 (hw x2 (by simp))
  have h3:=bounds_u64 (hw x3 (by simp))
  obtain ⟨y0,rfl⟩:=Int.eq_ofNat_of_zero_le h0.1
  obtain ⟨y1,rfl⟩:=Int.eq_ofNat_of_zero_le h1.1
  obtain ⟨y2,rfl⟩:=Int.eq_ofNat_of_zero_le h2.1
  obtain ⟨y3,rfl⟩:=Int.eq_ofNat_of_zero_le h3.1
  clear hw
  refine ⟨y0+18446744073709551616*y1+340282366920938463463374607431768211456*y2+6277101735386680763835789423207666416102355444464034512896*y3,by unfold W256;omega,?_⟩
  unfold limI
  rw [lim0,lim1,lim2,lim3]
  congr 1
  ·omega
  ·congr 1
   ·omega
   ·congr 1
    ·omega
    ·congr 1;omega
end
end Go.Proofs.YtcgpjceopnfahaaGreat
namespace Go.Proofs.YtcgpjceopnfahaaGreat
open Go.RowKit
def PItm (p:Pit)(m:Nat):Ty:=fun v w=>∃ l a n c a' n' c' t ks,v=.agg #[.bool l,.slice a n c,.slice a' n' c']∧IsItm w (.mk l (.slice a n c) t (.slice a' n' c') ks)∧erI (.mk l (.slice a n c) t (.slice a' n' c') ks)=p∧bulkI (.mk l (.slice a n c) t (.slice a' n' c') ks)≤m
theorem PItm.mono (p:Pit)(m:Nat):Mono (PItm p m):=fun _ _ _ ⟨l,a,n,c,a',n',c',t,ks,h1,h2,h3,h4⟩ hb=>⟨l,a,n,c,a',n',c',t,ks,h1,h2.kept hb,h3,h4⟩
def PRow (ps:List Pit)(m:Nat):Ty:=fun v w=>∃ a n c its,v=.slice a n c∧RowOf icells 3 w v its∧(∀ i∈its,IsItm w i)∧its.map erI=ps∧bulkL its≤m
theorem PRow.mono (ps:List Pit)(m:Nat):Mono (PRow ps m):=fun _ _ _ ⟨a,n,c,its,h1,h2,h3,h4,h5⟩ hb=>⟨a,n,c,its,h1,RowOf.kept h2 hb,fun i hi=>(h3 i hi).kept hb,h4,h5⟩
end Go.Proofs.YtcgpjceopnfahaaGreat
