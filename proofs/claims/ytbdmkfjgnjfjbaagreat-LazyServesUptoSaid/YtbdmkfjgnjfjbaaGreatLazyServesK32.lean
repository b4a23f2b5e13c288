/- Addresses in order: bytes.Compare, world.before. | Accounts and holders; world.before, none, slotsRight. | world.none, slotsRight. | world.slotsRight. -/
import Derived.Test.YtbdmkfjgnjfjbaaGreatLazyServesK20
import Derived.Test.YtbdmkfjgnjfjbaaGreatLazyServesK31
import Derived.Deep.Cut
import Derived.Lib.Bytealg
import Derived.Laws.Externs
set_option linter.unusedSimpArgs false
set_option linter.unusedVariables false
set_option maxHeartbeats 4000000
set_option maxRecDepth 100000
namespace Go.Proofs.YtbdmkfjgnjfjbaaGreat
open Go.RowKit
theorem Q4d {P:Program}(w:World):∀ (l:List UInt8) (b off:Nat) (acc:ByteArray),(∀ j x,l[j]?=some x→w.cell? ⟨b,off+j,none⟩=some (.int .u8 (x.toNat:Int))) →
  (Extern.Bytes.loadBytes ⟨b,off,none⟩ l.length acc).run P w=.ok ⟨acc.data++l.toArray⟩ w
 | [],b,off,acc,_=>by simp [Extern.Bytes.loadBytes]
 | x::l,b,off,acc,h=>by
  have h0:=h 0 x rfl
  rw [Nat.add_zero] at h0
  have hl:(load ⟨b,off,none⟩).run P w=.ok (.int .u8 (x.toNat:Int)) w:=by rw [run_load];simp [h0]
  have ih:=Q4d (P:=P) w l b (off+1) (acc.push x) (fun j y hy=>by
   have:=h (j+1) y hy
   rw [show off+1+j=off+(j+1) from by omega];exact this)
  have ha:(⟨b,off,none⟩:Addr).add 1=⟨b,off+1,none⟩:=by unfold Addr.add;split<;>simp_all
  rw [List.length_cons]
  show Sem.run P (do
   let r ←load ⟨b,off,none⟩
   match r with
   | .int .u8 b_1=>Extern.Bytes.loadBytes ((⟨b,off,none⟩:Addr).add 1) l.length (acc.push b_1.toNat.toUInt8)
   | _ => stuck "loadBytes: a byte expected") w = _
  rw [Sem.run_bind,hl]
  simp only [Result.andThen_ok,ha]
  have hx:(x.toNat:Int).toNat.toUInt8=x:=by simp
  simp only [Int.toNat_natCast] at hx ⊢
  rw [hx,ih]
  simp [ByteArray.push]
theorem Q6t {P:Program}(w:World)(v:Value)(l:List UInt8)(h:Bytes w v l):(Extern.Bytes.bytesOf v).run P w=.ok ⟨l.toArray⟩ w:=by
 obtain ⟨_,a,c,rfl,_,_,h3⟩:=h
 rcases h3 with ⟨rfl,hn,_⟩|⟨b,off,sp,rfl,hsp,h3⟩
 ·obtain rfl:l=[]:=List.eq_nil_of_length_eq_zero hn
  rfl
 ·cases l with
  | nil=>simp [Extern.Bytes.bytesOf,Extern.Bytes.loadBytes];rfl
  | cons x l =>
   obtain rfl:sp=none:=hsp.resolve_right (by simp)
   have:=Q4d (P:=P) w (x::l) b off .empty (fun j y hy=>h3 j _ (by rw [Q13,List.getElem?_map,hy];rfl))
   simpa [Extern.Bytes.bytesOf] using this
theorem Qa4 (x:UInt8)(l:List UInt8):numL (x::l)=x.toNat*256 ^ l.length+numL l:=by rw [numL]
theorem Q6o:∀ (l m:List UInt8),l.length=m.length→Lib.compareBytes l m=if numL l<numL m then -1 else if numL m<numL l then 1 else 0
 | [],[],_=>by simp [Lib.compareBytes,numL]
 | [],_::_,h=>by simp at h
 | _::_,[],h=>by simp at h
 | x::l,y::m,h=>by
  have hl:l.length=m.length:=by simpa using h
  have ih:=Q6o l m hl
  have b1:=Q4u l
  have b2:=Q4u m
  rw [hl] at b1
  rw [Qa4,Qa4,hl,Lib.compareBytes,ih]
  generalize 256 ^ m.length=P at *
  rcases Nat.lt_trichotomy x.toNat y.toNat with h1|h1|h1
  ·have:(x.toNat+1)*P≤y.toNat*P:=Nat.mul_le_mul_right _ h1
   rw [Nat.add_mul,Nat.one_mul] at this
   rw [if_pos (UInt8.lt_iff_toNat_lt.2 h1),if_pos (by omega)]
  ·obtain rfl:x=y:=UInt8.toNat_inj.1 h1
   rw [if_neg (UInt8.lt_irrefl x),if_neg (UInt8.lt_irrefl x)]
   congr 1
   ·simp
   ·congr 1;simp
  ·have:(y.toNat+1)*P≤x.toNat*P:=Nat.mul_le_mul_right _ h1
   rw [Nat.add_mul,Nat.one_mul] at this
   rw [if_neg (fun h2=>by have:=UInt8.lt_iff_toNat_lt.1 h2;omega),if_pos (UInt8.lt_iff_toNat_lt.2 h1),if_neg (by omega),if_pos (by omega)]
def ordI (a b:Nat):Int:=if a<b then -1 else if b<a then 1 else 0
theorem Qak (v u:Value)(l m:List UInt8)(hl:l.length=m.length)(w:World)(h1:Bytes w v l)(h2:Bytes w u m) :
  (callFunc 148 #[v,u]).run Tryz.prog w=.ok (.value (.int .i64 (ordI (numL l) (numL m)))) w:=by
 rw [run_callFunc_extern Tryz.func148 (by kernel_rfl) (by kernel_rfl) (by kernel_rfl) (e:=Extern.BytealgCompare.compare) (by kernel_rfl)]
 have hr:(Extern.BytealgCompare.compare #[v,u]).run Tryz.prog w=.ok (.int .i64 (ordI (numL l) (numL m))) w:=by
  change Sem.run Tryz.prog (do pure (goInt (Extern.BytealgCompare.cmp (←Extern.Bytes.bytesOf v) (←Extern.Bytes.bytesOf u)))) w=_
  simp only [Sem.run_bind,Q6t w v l h1,Q6t w u m h2,Result.andThen_ok,Sem.run_pure,Lib.cmp_eq,Q6o l m hl]
  rfl
 rw [hr];rfl
theorem Qal (a a':Option Addr)(n c n' c':Nat)(l m:List UInt8)(hl:l.length=m.length)(w:World)(h1:Bytes w (.slice a n c) l)(h2:Bytes w (.slice a' n' c') m) :
  Calls Tryz.prog 125 #[.slice a n c,.slice a' n' c'] w fun e w'=>e=.returned (.int .i64 (ordI (numL l) (numL m)))∧w'=w:=by
 have hx:=Qak _ _ l m hl w h1 h2
 clear h1 h2
 go_enter Tryz.func125,Tryz.ntmps125
 go_wp2
 go_ret
 exact ⟨rfl,rfl⟩
theorem Q0v:Agg Tryz.prog 41 8:=⟨_,Tryz.underlying41,rfl,by kernel_rfl⟩
structure Acc where
 n:Nat
 m:Nat
 cv:Value
 c:List UInt8
 sv:Value
 s:List (Nat × Nat)
structure Acc.Ok (a:Acc):Prop where
 n:a.n<18446744073709551616
 m:a.m<W256
 s:∀ p∈a.s,p.1<W256∧p.2<W256
def accs (a:Acc):List Value:=[u64v a.n]++(wcs a.m++[a.cv,a.sv])
def Acc.In (w:World)(a:Acc):Prop:=Bytes w a.cv a.c∧RowOf spc 8 w a.sv a.s
theorem Acc.In.below {w w':World}{a:Acc}(h:a.In w)(hb:Below w.heap.size w w'):a.In w':=⟨h.1.below hb,h.2.below hb⟩
def Acc.val (a:Acc):Nat × Nat × List UInt8 × List (Nat × Nat):=(a.n,a.m,a.c,a.s)
structure Hol where
 f:List UInt8
 a:Acc
 l:f.length=8
def hols (h:Hol):List Value:=by8 h.f++accs h.a
theorem Q10 (h:Hol):(hols h).length=15:=by unfold hols;rw [List.length_append,Q0n,h.l];rfl
def Hol.adr (h:Hol):Nat:=numL h.f
theorem aggAcc:Agg Tryz.prog 28 7:=⟨_,Tryz.underlying28,rfl,by kernel_rfl⟩
theorem aggHol:Agg Tryz.prog 123 15:=⟨_,Tryz.underlying123,rfl,by kernel_rfl⟩
theorem Q28:Agg Tryz.prog 102 8:=⟨_,Tryz.underlying102,rfl,by kernel_rfl⟩
def noneB (a:Acc):Bool:=a.n == 0 && (a.m == 0 && (a.c.isEmpty && a.s.isEmpty))
def okS (l:List (Nat × Nat))(i:Nat):Bool:=match l[i]? with
 | some p=>p.2 != 0&&(i==0 || decide ((l.getD (i - 1) (0,0)).1<p.1))
 | none=>true
def slotsB (l:List (Nat × Nat)):Bool:=(List.range l.length).all (okS l)
def okH (l:List Hol)(i:Nat):Bool:=match l[i]? with
 | some h=>!noneB h.a&&(decide (h.a.c.length≤1024)&&(slotsB h.a.s&&(i==0 || decide ((l.getD (i - 1) h).adr<h.adr))))
 | none=>true
def rightB (l:List Hol):Bool:=(List.range l.length).all (okH l)
theorem Q1g {f:Nat→Bool}{n i:Nat}(hi:i<n)(h:f i=false):(List.range n).all f=false:=by
 rw [List.all_eq_false]
 exact ⟨i,List.mem_range.2 hi,by rw [h];simp⟩
theorem Q96 {f:Nat→Bool}{n:Nat}(h:∀ i,i<n→f i=true):(List.range n).all f=true:=by
 rw [List.all_eq_true]
 exact fun i hi=>h i (List.mem_range.1 hi)
theorem Q5n {u:World}{g:Nat}{A:List UInt8}(h:Blk 41 u g (by8 A))(hA:A.length=8):Bytes u (.slice (some ⟨g,0,none⟩) 8 8) A :=
 Blk.row (f:=b8) (size:=1) h A 8 8 (fun _=>rfl) hA (fun j x hx=>by rw [Q13] at hx;exact hx) (Nat.le_refl _) (by unfold maxLen;omega)
theorem Q7u (A B:List UInt8)(hA:A.length=8)(hB:B.length=8)(w:World) :
  Calls Tryz.prog 99 #[.agg (by8 A).toArray,.agg (by8 B).toArray] w fun e w'=>e=.returned (.int .i64 (ordI (numL A) (numL B)))∧Below w.heap.size w w':=by
 obtain ⟨w1,hw1⟩:∃ w1,w1=(w.alloc (.cells (by8 A).toArray 41)).alloc (.cells (by8 B).toArray 41):=⟨_,rfl⟩
 have z2:Blk 41 w1 w.heap.size (by8 A):=by rw [hw1];exact (Blk.new w _ _).alloc _
 have z3:Blk 41 w1 (w.heap.size+1) (by8 B):=by
  rw [hw1]
  have:=Blk.new (w.alloc (.cells (by8 A).toArray 41)) 41 (by8 B)
  simpa using this
 have hbel:Below w.heap.size w w1:=by rw [hw1];exact (Qba _ _).alloc (by simp) _
 have cc:=fun u:Ext w1=>Qal (some ⟨w.heap.size,0,none⟩) (some ⟨w.heap.size+1,0,none⟩) 8 8 8 8 A B (by omega) u.val (Q5n (u.blk z2) hA) (Q5n (u.blk z3) hB)
 have s2:=fun u=>sl8 w.heap.size 0 u
 have s3:=fun u=>sl8 (w.heap.size+1) 0 u
 obtain ⟨R,hR⟩:∃ R,R=ordI (numL A) (numL B):=⟨_,rfl⟩
 rw [←hR] at cc ⊢
 obtain ⟨X,hX⟩:∃ X,X=by8 A:=⟨_,rfl⟩
 obtain ⟨Y,hY⟩:∃ Y,Y=by8 B:=⟨_,rfl⟩
 rw [←hX,←hY] at hw1 ⊢
 have cd:∀ u:Ext w1,Calls Tryz.prog 125 #[.slice (some ⟨w.heap.size,0,none⟩) 8 8,.slice (some ⟨w.heap.size+1,0,none⟩) 8 8] u.val fun e w'=>e=.returned (.int .i64 R)∧Below u.val.heap.size u.val w':=fun u=>(cc u).mono (by rintro e w' ⟨h1,rfl⟩;exact ⟨h1,Below.refl _ _⟩)
 have Cc:=Qhd cd
 have Hw1:=Qhd hw1
 clear cc cd hw1 hR hX hY z2 z3
 go_enter Tryz.func99,Tryz.ntmps99
 go_wp2_with fail
 rw [←Hw1.out]
 refine Q02 w1 3 (by kernel_rfl) (by kernel_rfl) (Below.refl _ _) ?_;simp only [List.take_succ_cons,List.take_zero,List.take_nil]
 iterate 2 (refine Q01 (by rfl) (fun K hK=>?_);go_simp;refine hK _ ?_;clear hK K)
 (refine Q01 (by rfl) (fun K hK=>?_);go_simp;first|(refine hK _ ?_;clear hK K)|(apply Exists.intro;refine ⟨fun _=>?_,hK _ ?_⟩;exact Cc.out _;clear hK K))
 refine Q09 ?_
 intro y5 b5
 change wpList _ _ _ [_] _ _
 try simp only [Act.put,Qzs]
 go_wp2_with fail
 go_ret
 exact ⟨rfl,Below.then hbel b5⟩
theorem Q1r {P:Program}{w:World}{ops:Array Oper}{rest:List Oper}{o:Oper}{a:Act}{Q:Exit→Act→World→Prop}(ty:TypeId)(x y:Operand)(t:TypeId)(ho:o.op=.binOp .eql ty x y t){v v' u:Value}(hx:a.eval x=v)(hy:a.eval y=v')
  (hg:∀ o1 o2 w1,(eqGuard .eql ty o1 o2 v v').run P w1=.ok () w1) (hq:∀ w1,(binOp .eql ty v v').run P w1=.ok u w1) (hw:Region.wanted o (yielded ops a.tmps)=true) (h:wpList P ops Q rest (a.put o.dst u) w):wpList P ops Q (o::rest) a w:=by
 refine wpList_step fun K hK=>?_
 rw [if_pos hw]
 unfold Oper.wp execOp
 simp only [ho,hx,hy,Sem.run_bind,hg,hq,Result.andThen_ok,Sem.run_pure]
 exact hK _ _ h
theorem Q2b {P:Program}{w:World}{ops:Array Oper}{rest:List Oper}{o:Oper}{a:Act}{Q:Exit→Act→World→Prop}(ty:TypeId)(x y:Operand)(t:TypeId)(ho:o.op=.binOp .neq ty x y t){v v' u:Value}(hx:a.eval x=v)(hy:a.eval y=v')
  (hg:∀ o1 o2 w1,(eqGuard .neq ty o1 o2 v v').run P w1=.ok () w1) (hq:∀ w1,(binOp .neq ty v v').run P w1=.ok u w1) (hw:Region.wanted o (yielded ops a.tmps)=true) (h:wpList P ops Q rest (a.put o.dst u) w):wpList P ops Q (o::rest) a w:=by
 refine wpList_step fun K hK=>?_
 rw [if_pos hw]
 unfold Oper.wp execOp
 simp only [ho,hx,hy,Sem.run_bind,hg,hq,Result.andThen_ok,Sem.run_pure]
 exact hK _ _ h
theorem Q0w {w:World}{a:Acc}(h:a.In w):∃ ca cc sa sc,a.cv=.slice ca a.c.length cc∧a.sv=.slice sa a.s.length sc:=by
 obtain ⟨ca,cc,h1,_⟩:=RowOf.form (f:=b8) (size:=1) h.1
 obtain ⟨sa,sc,h2,_⟩:=h.2.form
 exact ⟨ca,cc,sa,sc,h1,h2⟩
theorem Qf5 (a:Acc)(k:a.Ok)(w:World)(h:a.In w):Calls Tryz.prog 98 #[.agg (accs a).toArray] w fun e w'=>e=.returned (.bool (noneB a))∧Below w.heap.size w w':=by
 obtain ⟨ca,cc,sa,sc,hcv,hsv⟩:=Q0w h
 obtain ⟨w1,hw1⟩:∃ w1,w1=w.alloc (.cells (accs a).toArray 28):=⟨_,rfl⟩
 have z1:Blk 28 w1 w.heap.size (accs a):=by rw [hw1];exact Blk.new w _ _
 have hbel:Below w.heap.size w w1:=by rw [hw1];exact Qba _ _
 have c0:w1.cell? ⟨w.heap.size,0,none⟩=some (.int .u64 (a.n:Int)):=z1.cell 0
 have rM:w1.rangeAt w.heap.size 1 (wcs a.m):=by have:=z1.range 1 4;exact this
 have c5:w1.cell? ⟨w.heap.size,5,none⟩=some (.slice ca a.c.length cc):=by have:=z1.cell 5;rw [show (accs a)[5]?=some a.cv from rfl,hcv] at this;exact this
 have c6:w1.cell? ⟨w.heap.size,6,none⟩=some (.slice sa a.s.length sc):=by have:=z1.cell 6;rw [show (accs a)[6]?=some a.sv from rfl,hsv] at this;exact this
 have gq:=fun o1 o2 w1=>Qbn a.m 0 o1 o2 w1
 have qq:=fun w1=>eqWN a.m 0 k.m (by unfold W256;omega) w1
 rw [wz0] at gq qq
 obtain ⟨n,hn⟩:∃ n,n=a.n:=⟨_,rfl⟩
 obtain ⟨cn,hcn⟩:∃ n,n=a.c.length:=⟨_,rfl⟩
 obtain ⟨sn,hsn⟩:∃ n,n=a.s.length:=⟨_,rfl⟩
 have hno:noneB a=(n==0&&(a.m==0&&(cn==0&&sn==0))):=by
  unfold noneB
  rw [hn,hcn,hsn]
  cases a.c<;>cases a.s<;>simp
 rw [←hn] at c0
 rw [←hcn] at c5
 rw [←hsn] at c6
 rw [hno]
 obtain ⟨YM,hYM⟩:∃ Y,Y=wcs a.m:=⟨_,rfl⟩
 have hlM:YM.length=4:=by rw [hYM];rfl
 rw [←hYM] at rM gq qq
 obtain ⟨X,hX⟩:∃ X,X=accs a:=⟨_,rfl⟩
 rw [←hX] at hw1 ⊢
 have Hw1:=Qhd hw1
 have Gq:=Qhd gq
 obtain ⟨m,hm⟩:∃ m,m=a.m:=⟨_,rfl⟩
 rw [←hm] at qq ⊢
 clear gq hw1 hX hYM hn hcn hsn hno hm hcv hsv h k z1
 by_cases h1:n=0
 ·subst h1
  by_cases h2:m=0
  ·rw [decide_eq_true h2] at qq
   subst h2
   have Qq:=Qhd qq
   clear qq
   by_cases h3:cn=0
   ·have h3':((cn:Int)==0)=true:=by rw [h3];rfl
    by_cases h4:sn=0
    ·have h4':((sn:Int)==0)=true:=by rw [h4];rfl
     have hr:((0==0)&&((0==0)&&(cn==0&&sn==0)))=true:=by rw [h3,h4];rfl
     rw [hr]
     clear hr h3 h4
     go_enter Tryz.func98,Tryz.ntmps98
     go_upto_region 1 with fail
     rw [←Hw1.out]
     go_wp2_with (first
      |((with_reducible refine Qgl 8 ?_);refine Qlw 24 7 w.heap.size 1 Q0f hlM rM ?_)
      |((with_reducible refine Qgl 10 ?_);refine Q1r (o:=⟨some 10,_,_,_,_,_⟩) 24 (.tmp 8) (.tmp 9) _ (by rfl) (by rfl) (by rfl) Gq.out Qq.out (by rfl) ?_))
     go_ret
     exact ⟨rfl,hbel⟩
    ·have h4':((sn:Int)==0)=false:=by rw [beq_eq_false_iff_ne];omega
     have hr:((0==0)&&((0==0)&&(cn==0&&sn==0)))=false:=by rw [h3];simpa using h4
     rw [hr]
     clear hr h3 h4
     go_enter Tryz.func98,Tryz.ntmps98
     go_upto_region 1 with fail
     rw [←Hw1.out]
     go_wp2_with (first
      |((with_reducible refine Qgl 8 ?_);refine Qlw 24 7 w.heap.size 1 Q0f hlM rM ?_)
      |((with_reducible refine Qgl 10 ?_);refine Q1r (o:=⟨some 10,_,_,_,_,_⟩) 24 (.tmp 8) (.tmp 9) _ (by rfl) (by rfl) (by rfl) Gq.out Qq.out (by rfl) ?_))
     go_ret
     exact ⟨rfl,hbel⟩
   ·have h3':((cn:Int)==0)=false:=by rw [beq_eq_false_iff_ne];omega
    have hr:((0==0)&&((0==0)&&(cn==0&&sn==0)))=false:=by simp [h3]
    rw [hr]
    clear hr h3
    go_enter Tryz.func98,Tryz.ntmps98
    go_upto_region 1 with fail
    rw [←Hw1.out]
    go_wp2_with (first
     |((with_reducible refine Qgl 8 ?_);refine Qlw 24 7 w.heap.size 1 Q0f hlM rM ?_)
     |((with_reducible refine Qgl 10 ?_);refine Q1r (o:=⟨some 10,_,_,_,_,_⟩) 24 (.tmp 8) (.tmp 9) _ (by rfl) (by rfl) (by rfl) Gq.out Qq.out (by rfl) ?_))
    go_ret
    exact ⟨rfl,hbel⟩
  ·rw [decide_eq_false h2] at qq
   have Qq:=Qhd qq
   have hr:((0==0)&&(m==0&&(cn==0&&sn==0)))=false:=by simp [h2]
   rw [hr]
   clear qq hr
   go_enter Tryz.func98,Tryz.ntmps98
   go_upto_region 1 with fail
   rw [←Hw1.out]
   go_wp2_with (first
    |((with_reducible refine Qgl 8 ?_);refine Qlw 24 7 w.heap.size 1 Q0f hlM rM ?_)
    |((with_reducible refine Qgl 10 ?_);refine Q1r (o:=⟨some 10,_,_,_,_,_⟩) 24 (.tmp 8) (.tmp 9) _ (by rfl) (by rfl) (by rfl) Gq.out Qq.out (by rfl) ?_))
   go_ret
   exact ⟨rfl,hbel⟩
 ·have h1':((n:Int)==0)=false:=by rw [beq_eq_false_iff_ne];omega
  have hr:(n==0&&(m==0&&(cn==0&&sn==0)))=false:=by simp [h1]
  rw [hr]
  clear hr qq
  go_enter Tryz.func98,Tryz.ntmps98
  go_upto_region 1 with fail
  rw [←Hw1.out]
  go_wp2_with fail
  go_ret
  exact ⟨rfl,hbel⟩
theorem cmp_ge (A B:Nat):(0≤cmpI A B)↔¬ A<B:=by
 unfold cmpI
 split
 ·omega
 ·split<;>omega
theorem Q3u (a:Option Addr)(n c:Nat)(l:List (Nat × Nat))(hn:l.length=n)(hk:∀ p∈l,p.1<W256∧p.2<W256)(w:World)(h:RowOf spc 8 w (.slice a n c) l) :
  Calls Tryz.prog 34 #[.slice a n c] w fun e w'=>e=.returned (.bool (slotsB l))∧Below w.heap.size w w':=by
 have Hn:=Qhd hn
 have Hk:=Qhd hk
 have hsm:=h.small
 unfold maxLen at hsm
 rw [hn] at hsm
 clear hn hk
 go_enter Tryz.func34,Tryz.ntmps34
 go_wp2_with fail
 go_loopw [7] (fun ix wr=>∃ i:Nat,i≤n∧ix=.int .i64 (i:Int)∧Below w.heap.size w wr∧Hid (∀ j,j<i→okS l j=true)) (fun ix _=>n - (intOf ix).toNat)
 case atStart=>exact ⟨0,by omega,rfl,Below.refl _ _,Qhd (fun j hj=>by omega)⟩
 case round =>
  obtain ⟨i,hin,rfl,hbel,hok⟩:=hrel
  by_cases hlt:i<n
  ·have hz:(i:Int)<(n:Int):=by omega
   have hil:i<l.length:=by rw [Hn.out];exact hlt
   obtain ⟨b,off,rfl,hr⟩:=RowOf.range Q26 (h.below hbel) i hil
   have hkp:=Hk.out _ (List.getElem_mem hil)
   obtain ⟨p,hp⟩:∃ p,p=l[i]:=⟨_,rfl⟩
   rw [←hp] at hr hkp
   have hli:l[i]?=some p:=by rw [hp];exact List.getElem?_eq_getElem hil
   obtain ⟨P8,hP8⟩:∃ P,P=spc p:=⟨_,rfl⟩
   have hl8:P8.length=8:=by rw [hP8];rfl
   have ho8:∀ u∈P8,u.oneCell'=true:=by rw [hP8];exact Qfn p
   have hr4:∀ u x,Blk 102 u x P8→u.rangeAt x 0 (wcs p.1)∧u.rangeAt x 4 (wcs p.2):=fun u x h=>by
    rw [hP8] at h
    exact ⟨by have:=h.range 0 4;exact this,by have:=h.range 4 4;exact this⟩
   rw [←hP8] at hr
   have gq:=fun o1 o2 w1=>Qbn p.2 0 o1 o2 w1
   have qq:=fun w1=>eqWN p.2 0 hkp.2 (by unfold W256;omega) w1
   rw [wz0] at gq qq
   obtain ⟨Y,hY⟩:∃ Y,Y=wcs p.1:=⟨_,rfl⟩
   obtain ⟨Z,hZ⟩:∃ Z,Z=wcs p.2:=⟨_,rfl⟩
   have hlY:Y.length=4:=by rw [hY];rfl
   have hlZ:Z.length=4:=by rw [hZ];rfl
   rw [←hY,←hZ] at hr4
   rw [←hZ] at gq qq
   have Hr4:=Qhd hr4
   have Gq:=Qhd gq
   have n4:=Blk.newA wr 102 z8s.toArray
   have hb4:Below wr.heap.size wr (wr.alloc (.cells z8s.toArray 102)):=Qba _ _
   clear hr4 gq
   by_cases hv:p.2=0
   ·rw [decide_eq_true hv] at qq
    have Qq:=Qhd qq
    have hbad:okS l i=false:=by unfold okS;rw [hli];simp [hv]
    have Hres:=Qhd (show slotsB l=false from Q1g hil hbad)
    clear qq hv hbad hli hp hP8 hY hZ hkp hil
    go_upto_region 4 with (first
     |((with_reducible refine Qgl 11 ?_);refine Qlw 102 10 b (off+i*8) Q28 hl8 hr ?_)
     |((with_reducible refine Qgs 11 ?_);refine Qsa 102 4 11 wr.heap.size P8 Q28 n4 hl8 (by rfl) ho8 hb4 (Nat.le_refl _) ?_;intro w2 z2 b2 _))
    have R2:=Qhd (Hr4.out _ _ z2)
    refine Q02 w2 19 (by kernel_rfl) (by kernel_rfl) (Below.refl _ _) ?_;simp only [List.take_succ_cons,List.take_zero,List.take_nil]
    (refine Q01 (by rfl) (fun K hK=>?_);go_simp;refine hK _ ?_;clear hK K)
    (refine Q01 (by rfl) (fun K hK=>?_);rw [if_pos (by rfl)];refine ⟨_,fun u=>Q08 _ (.tmp 12) (by rfl) _ _ (by rfl) Q0f hlZ (rangeAt.ext R2.out.2 u),hK _ ?_⟩;clear hK K;simp only [Act.put,Qzs])
    (refine Q01 (by rfl) (fun K hK=>?_);go_simp;refine hK _ ?_;clear hK K)
    (refine Q01 (by rfl) (fun K hK=>?_);rw [if_pos (by rfl)];refine ⟨_,fun u=>Q22 _ _ _ _ (by rfl) (by rfl) (by rfl) (fun o1 o2 w1=>Gq.out o1 o2 w1) (fun w1=>Qq.out w1),hK _ ?_⟩;clear hK K;simp only [Act.put,Qzs])
    iterate 15 (refine Q01 (by rfl) (fun K hK=>?_);go_simp;refine hK _ ?_;clear hK K)
    refine Q09 ?_
    intro y5 b5
    change wpList _ _ _ [_] _ _
    try simp only [Act.put,Qzs]
    go_wp2_with fail
    go_ret
    rw [Hres.out]
    exact ⟨rfl,Below.then (Below.then hbel b2) b5⟩
   ·rw [decide_eq_false hv] at qq
    have Qq:=Qhd qq
    by_cases hi0:i=0
    ·have hi1:¬ 0<i:=by omega
     have hd1:decide (0<i)=false:=decide_eq_false hi1
     have hgood:okS l i=true:=by unfold okS;rw [hli,hi0];simp [hv]
     have hi0':=Qhd hi0
     have Hgood:=Qhd hgood
     clear qq hv hgood hli hp hP8 hY hZ hkp hil hi0
     go_upto_region 4 with (first
      |((with_reducible refine Qgl 11 ?_);refine Qlw 102 10 b (off+i*8) Q28 hl8 hr ?_)
      |((with_reducible refine Qgs 11 ?_);refine Qsa 102 4 11 wr.heap.size P8 Q28 n4 hl8 (by rfl) ho8 hb4 (Nat.le_refl _) ?_;intro w2 z2 b2 _))
     have R2:=Qhd (Hr4.out _ _ z2)
     refine Q02 w2 19 (by kernel_rfl) (by kernel_rfl) (Below.refl _ _) ?_;simp only [List.take_succ_cons,List.take_zero,List.take_nil]
     (refine Q01 (by rfl) (fun K hK=>?_);go_simp;refine hK _ ?_;clear hK K)
     (refine Q01 (by rfl) (fun K hK=>?_);rw [if_pos (by rfl)];refine ⟨_,fun u=>Q08 _ (.tmp 12) (by rfl) _ _ (by rfl) Q0f hlZ (rangeAt.ext R2.out.2 u),hK _ ?_⟩;clear hK K;simp only [Act.put,Qzs])
     (refine Q01 (by rfl) (fun K hK=>?_);go_simp;refine hK _ ?_;clear hK K)
     (refine Q01 (by rfl) (fun K hK=>?_);rw [if_pos (by rfl)];refine ⟨_,fun u=>Q22 _ _ _ _ (by rfl) (by rfl) (by rfl) (fun o1 o2 w1=>Gq.out o1 o2 w1) (fun w1=>Qq.out w1),hK _ ?_⟩;clear hK K;simp only [Act.put,Qzs])
     iterate 15 (refine Q01 (by rfl) (fun K hK=>?_);go_simp;refine hK _ ?_;clear hK K)
     refine Q09 ?_
     intro y5 b5
     change wpList _ _ _ [_] _ _
     try simp only [Act.put,Qzs]
     go_wp2_with fail
     go_roundw
     case rel=>exact ⟨i+1,by omega,by go_num,Below.then (Below.then hbel b2) b5,Qhd (fun j hj=>by
      have:j=i:=by have:=hi0'.out;omega
      rw [this];exact Hgood.out)⟩
     case measure=>simp [intOf];omega
    ·have hi1:0<i:=by omega
     have hd1:decide (0<i)=true:=decide_eq_true hi1
     obtain ⟨J,hJ⟩:∃ J,J=i - 1:=⟨_,rfl⟩
     have hJl:J<l.length:=by omega
     have hsub:IntKind.i64.wrap ((i:Int) - 1)=(J:Int):=by rw [IntWalk.i64_in _ (by omega)];omega
     have hJn:(J:Int)<(n:Int):=by omega
     have hJn2:J<n:=by omega
     obtain ⟨b2',off2',hbe,hr2⟩:=RowOf.range Q26 (h.below hbel) J hJl
     simp only [Option.some.injEq,Addr.mk.injEq,and_true] at hbe
     obtain ⟨rfl,rfl⟩:=hbe
     have hkq:=Hk.out _ (List.getElem_mem hJl)
     have hgd:l.getD (i - 1) (0,0)=l[J]:=by rw [←hJ,List.getD_eq_getElem?_getD,List.getElem?_eq_getElem hJl];rfl
     obtain ⟨q,hq⟩:∃ q,q=l[J]:=⟨_,rfl⟩
     rw [←hq] at hr2 hkq hgd
     have hrq:wr.rangeAt b (off+J*8) (wcs q.1):=fun j v hv=>hr2 j v (by
      unfold spc
      rw [List.getElem?_append_left (by have:=(List.getElem?_eq_some_iff.1 hv).1;exact this)];exact hv)
     have hok2:okS l i=decide (q.1<p.1):=by
      unfold okS
      rw [hli]
      simp only [hgd]
      have:(p.2 != 0)=true:=by simpa using hv
      have h2:(i==0)=false:=by simpa using hi0
      rw [this,h2];simp
     have cc:=fun u=>Qly q.1 p.1 hkq.1 hkp.1 u
     have hge:=cmp_ge q.1 p.1
     obtain ⟨r,hrr⟩:∃ r,r=cmpI q.1 p.1:=⟨_,rfl⟩
     rw [←hrr] at hge
     have cc2:∀ u:World,Calls Tryz.prog 74 #[.agg (wcs q.1).toArray,.agg Y.toArray] u (fun e w'=>e=.returned (.int .i64 r)∧Below u.heap.size u w'):=fun u=>by have:=cc u;rw [←hrr] at this;rw [hY];exact this
     obtain ⟨V,hV⟩:∃ V,V=wcs q.1:=⟨_,rfl⟩
     have hlV:V.length=4:=by rw [hV];rfl
     rw [←hV] at hrq cc2
     have Cc:=Qhd cc2
     have RQ:=Qhd hrq
     by_cases hcm:q.1<p.1
     ·have hr0:¬ (0:Int)≤r:=by rw [hge];simpa using hcm
      have hr1:decide ((0:Int)≤r)=false:=decide_eq_false hr0
      have hgood:okS l i=true:=by rw [hok2];exact decide_eq_true hcm
      have Hgood:=Qhd hgood
      clear qq hv hgood hli hp hP8 hY hZ hkp hil hok2 hge hrr hV hcm cc cc2 hq hkq hgd hJl hr2 hJ hrq
      go_upto_region 4 with (first
       |((with_reducible refine Qgl 11 ?_);refine Qlw 102 10 b (off+i*8) Q28 hl8 hr ?_)
       |((with_reducible refine Qgs 11 ?_);refine Qsa 102 4 11 wr.heap.size P8 Q28 n4 hl8 (by rfl) ho8 hb4 (Nat.le_refl _) ?_;intro w2 z2 b2 _))
      have R2:=Qhd (Hr4.out _ _ z2)
      refine Q02 w2 19 (by kernel_rfl) (by kernel_rfl) (Below.refl _ _) ?_;simp only [List.take_succ_cons,List.take_zero,List.take_nil]
      (refine Q01 (by rfl) (fun K hK=>?_);go_simp;refine hK _ ?_;clear hK K)
      (refine Q01 (by rfl) (fun K hK=>?_);rw [if_pos (by rfl)];refine ⟨_,fun u=>Q08 _ (.tmp 12) (by rfl) _ _ (by rfl) Q0f hlZ (rangeAt.ext R2.out.2 u),hK _ ?_⟩;clear hK K;simp only [Act.put,Qzs])
      (refine Q01 (by rfl) (fun K hK=>?_);go_simp;refine hK _ ?_;clear hK K)
      (refine Q01 (by rfl) (fun K hK=>?_);rw [if_pos (by rfl)];refine ⟨_,fun u=>Q22 _ _ _ _ (by rfl) (by rfl) (by rfl) (fun o1 o2 w1=>Gq.out o1 o2 w1) (fun w1=>Qq.out w1),hK _ ?_⟩;clear hK K;simp only [Act.put,Qzs])
      iterate 9 (refine Q01 (by rfl) (fun K hK=>?_);go_simp;refine hK _ ?_;clear hK K)
      (refine Q01 (by rfl) (fun K hK=>?_);rw [if_pos (by rfl)];refine ⟨_,fun u=>Q08 _ (.tmp 24) (by rfl) _ _ (by rfl) Q0f hlV (rangeAt.ext (World.rangeAt.below RQ.out b2) u),hK _ ?_⟩;clear hK K;simp only [Act.put,Qzs])
      (refine Q01 (by rfl) (fun K hK=>?_);go_simp;refine hK _ ?_;clear hK K)
      (refine Q01 (by rfl) (fun K hK=>?_);rw [if_pos (by rfl)];refine ⟨_,fun u=>Q08 _ (.tmp 26) (by rfl) _ _ (by rfl) Q0f hlY (rangeAt.ext R2.out.1 u),hK _ ?_⟩;clear hK K;simp only [Act.put,Qzs])
      (refine Q01 (by rfl) (fun K hK=>?_);go_simp;first|(refine hK _ ?_;clear hK K)|(apply Exists.intro;refine ⟨fun _=>?_,hK _ ?_⟩;exact Cc.out _;clear hK K))
      iterate 2 (refine Q01 (by rfl) (fun K hK=>?_);go_simp;refine hK _ ?_;clear hK K)
      refine Q09 ?_
      intro y5 b5
      change wpList _ _ _ [_] _ _
      try simp only [Act.put,Qzs]
      go_wp2_with fail
      go_roundw
      case rel=>exact ⟨i+1,by omega,by go_num,Below.then (Below.then hbel b2) b5,Qhd (fun j hj=>by
       by_cases hji:j=i
       ·rw [hji];exact Hgood.out
       ·exact hok.out j (by omega))⟩
      case measure=>simp [intOf];omega
     ·have hr0:(0:Int)≤r:=by rw [hge];exact hcm
      have hr1:decide ((0:Int)≤r)=true:=decide_eq_true hr0
      have hbad:okS l i=false:=by rw [hok2];exact decide_eq_false hcm
      have Hres:=Qhd (show slotsB l=false from Q1g hil hbad)
      clear qq hv hbad hli hp hP8 hY hZ hkp hil hok2 hge hrr hV hcm cc cc2 hq hkq hgd hJl hr2 hJ hrq
      go_upto_region 4 with (first
       |((with_reducible refine Qgl 11 ?_);refine Qlw 102 10 b (off+i*8) Q28 hl8 hr ?_)
       |((with_reducible refine Qgs 11 ?_);refine Qsa 102 4 11 wr.heap.size P8 Q28 n4 hl8 (by rfl) ho8 hb4 (Nat.le_refl _) ?_;intro w2 z2 b2 _))
      have R2:=Qhd (Hr4.out _ _ z2)
      refine Q02 w2 19 (by kernel_rfl) (by kernel_rfl) (Below.refl _ _) ?_;simp only [List.take_succ_cons,List.take_zero,List.take_nil]
      (refine Q01 (by rfl) (fun K hK=>?_);go_simp;refine hK _ ?_;clear hK K)
      (refine Q01 (by rfl) (fun K hK=>?_);rw [if_pos (by rfl)];refine ⟨_,fun u=>Q08 _ (.tmp 12) (by rfl) _ _ (by rfl) Q0f hlZ (rangeAt.ext R2.out.2 u),hK _ ?_⟩;clear hK K;simp only [Act.put,Qzs])
      (refine Q01 (by rfl) (fun K hK=>?_);go_simp;refine hK _ ?_;clear hK K)
      (refine Q01 (by rfl) (fun K hK=>?_);rw [if_pos (by rfl)];refine ⟨_,fun u=>Q22 _ _ _ _ (by rfl) (by rfl) (by rfl) (fun o1 o2 w1=>Gq.out o1 o2 w1) (fun w1=>Qq.out w1),hK _ ?_⟩;clear hK K;simp only [Act.put,Qzs])
      iterate 9 (refine Q01 (by rfl) (fun K hK=>?_);go_simp;refine hK _ ?_;clear hK K)
      (refine Q01 (by rfl) (fun K hK=>?_);rw [if_pos (by rfl)];refine ⟨_,fun u=>Q08 _ (.tmp 24) (by rfl) _ _ (by rfl) Q0f hlV (rangeAt.ext (World.rangeAt.below RQ.out b2) u),hK _ ?_⟩;clear hK K;simp only [Act.put,Qzs])
      (refine Q01 (by rfl) (fun K hK=>?_);go_simp;refine hK _ ?_;clear hK K)
      (refine Q01 (by rfl) (fun K hK=>?_);rw [if_pos (by rfl)];refine ⟨_,fun u=>Q08 _ (.tmp 26) (by rfl) _ _ (by rfl) Q0f hlY (rangeAt.ext R2.out.1 u),hK _ ?_⟩;clear hK K;simp only [Act.put,Qzs])
      (refine Q01 (by rfl) (fun K hK=>?_);go_simp;first|(refine hK _ ?_;clear hK K)|(apply Exists.intro;refine ⟨fun _=>?_,hK _ ?_⟩;exact Cc.out _;clear hK K))
      iterate 2 (refine Q01 (by rfl) (fun K hK=>?_);go_simp;refine hK _ ?_;clear hK K)
      refine Q09 ?_
      intro y5 b5
      change wpList _ _ _ [_] _ _
      try simp only [Act.put,Qzs]
      go_wp2_with fail
      go_ret
      rw [Hres.out]
      exact ⟨rfl,Below.then (Below.then hbel b2) b5⟩
  ·obtain rfl:i=n:=by omega
   have hz:¬ (i:Int)<(i:Int):=by omega
   have Hres:=Qhd (show slotsB l=true from Q96 (fun j hj=>hok.out j (by rw [←Hn.out];exact hj)))
   go_wp2_with fail
   go_ret
   rw [Hres.out]
   exact ⟨rfl,hbel⟩
end Go.Proofs.YtbdmkfjgnjfjbaaGreat
