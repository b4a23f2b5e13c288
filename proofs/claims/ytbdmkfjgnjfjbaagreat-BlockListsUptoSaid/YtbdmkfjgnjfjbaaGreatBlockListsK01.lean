/- Small lemmas of my own on worlds, rows of cells and lists, with no program in sight. | A region that draws its order and whose operations read, and call functio -/
import Derived.WalkKit
import Derived.WalkSpells
import Derived.WalkLawsBesides
import Derived.Deep.QuietTactic
import Derived.BigQuiet
import Derived.Lib.Hide
import Derived.Laws.AppendOwnNone
import Derived.Laws.CopyOwn
import Derived.StillTail
import Derived.OrdersHeld
import Derived.Maps.AppendAt
import Derived.Great.BuildSlice
import Derived.Deep.MidRow
import Derived.Lib.ConvBytes
import Derived.Laws.Concat
import Derived.Laws.StructEq
set_option linter.unusedSimpArgs false
set_option linter.unusedVariables false
set_option maxHeartbeats 4000000
set_option maxRecDepth 100000
open List (all_eq_true eq_nil_of_length_eq_zero flatMap_append length_append map_cons mem_cons mem_cons_of_mem mem_cons_self mem_filter mem_map)
open Nat (add_assoc add_mul le_refl mul_one zero_add)
namespace Go.Proofs.YtbdmkfjgnjfjbaaGreat
open Go.RowKit

@[go_sem] def u8v (x:UInt8):Value:=.int .u8 (x.toNat:Int)
theorem Qhd {p : Prop} (h : p) : RowKit.Hid p := h
theorem Qba (w : World) (o : Obj) : Below w.heap.size w (w.alloc o) := (Below.refl _ _).alloc (le_refl _) _
theorem Qe {α : Sort _} (e : α) : ∃ x, x = e := ⟨e, rfl⟩
theorem Qzs {α : Type} : (∀ (l : List α) (i : Nat) (a : α), l.toArray.setIfInBounds i a = (l.set i a).toArray) /\ (∀ (a b : α) (l : List α), (a :: l).set 0 b = b :: l) /\ (∀ (a : α) (l : List α) (n : Nat) (b : α), (a :: l).set (n + 1) b = a :: l.set n b) := ⟨fun _ _ _ => List.setIfInBounds_toArray .., fun _ _ _ => rfl, fun _ _ _ _ => rfl⟩
theorem Qf6 (x:UInt8):(x.toNat:Int)<256/\0<=(x.toNat:Int):=by have:=x.toNat_lt;omega
theorem Qry {k:IntKind}{a b:Int}(h:a=b):Ending.returned (.int k a)=.returned (.int k b):=by rw [h]
theorem Qkk {k:IntKind}{a b:Int}(h:a=b):Value.int k a=.int k b:=by rw [h]
theorem Qhi {a b:Bool}(h:a=b):Ending.returned (.bool a)=.returned (.bool b):=by rw [h]
def Row (w:World)(size:Nat)(v:Value)(n:Nat)(xs:List Value):Prop :=
 xs.length=n*size/\∃ a c,v=.slice a n c/\n<=c/\c<=maxLen /\
  ((a=none/\n=0/\c=0)∨∃ b off s,a=some ⟨b,off,s⟩/\(s=none∨n=0)/\∀ j u,xs[j]?=some u->w.cell? ⟨b,off+j,none⟩=some u)
def Q05 {α:Type}(f:α->List Value)(size:Nat)(w:World)(v:Value)(l:List α):Prop:=Row w size v l.length (l.flatMap f)
def Q08 {α:Type}(f:α->List Value)(size:Nat)(e:TypeId)(w:World)(B:Nat)(v:Value)(l:List α):Prop:=w.ownsRow B e size v l.length (l.flatMap f)
def b8 (x:UInt8):List Value:=[u8v x]
abbrev Q02 (w:World)(v:Value)(l:List UInt8):Prop:=Q05 b8 1 w v l
theorem Q22 (l:List UInt8):l.flatMap b8=l.map u8v:=by induction l <;> simp_all [b8]
theorem Q28 {α:Type}{f:α->List Value}{size:Nat}(hf:∀ x,(f x).length=size)(l:List α):(l.flatMap f).length=l.length*size:=by
 induction l with
 | nil=>simp
 | cons x l ih=>simp [ih,hf,add_mul];omega
theorem Q89 {α:Type}{f:α->List Value}{size:Nat}(hf:∀ x,(f x).length=size)(l:List α)(k:Nat)(hk:k<l.length)(j:Nat)(hj:j<size) :
  (l.flatMap f)[k*size+j]?=(f l[k])[j]?:=by
 induction l generalizing k with
 | nil=>simp at hk
 | cons x l ih =>
  rw [List.flatMap_cons];cases k with
  | zero=>simp only [Nat.zero_mul,zero_add,List.getElem_cons_zero];rw [List.getElem?_append_left (by rw [hf];exact hj)]
  | succ k =>
   rw [List.getElem?_append_right (by rw [hf,add_mul];omega)];have:(k+1)*size+j - (f x).length=k*size+j:=by rw [hf,add_mul];omega
   rw [this,ih k (by simpa using hk)];rfl

theorem Row.kept {w w':World}{size:Nat}{v:Value}{n:Nat}{z:List Value}(h:Row w size v n z)(H:Below w.heap.size w w'):Row w' size v n z:=by
 obtain ⟨D,a,c,rfl,E,G,y⟩:=h;refine ⟨D,a,c,rfl,E,G,?_⟩;rcases y with y|⟨b,off,s,rfl,I,y⟩
 ·exact .inl y
 refine .inr ⟨b,off,s,rfl,I,fun j u J=>?_⟩;have:=y j u J;rw [H.cell (World.block_lt_of_cell? w _ this)];exact this
theorem Row.alloc {w:World}{size:Nat}{v:Value}{n:Nat}{y:List Value}(h:Row w size v n y)(o:Obj):Row (w.alloc o) size v n y :=
 h.kept ((Below.refl _ _).alloc (le_refl _) o)
theorem Row.made (w:World)(size:Nat)(cs:List Value)(e:TypeId)(n:Nat)(y:cs.length=n*size)(h:n<=maxLen) :
  Row (w.alloc (.cells cs.toArray e)) size (.slice (some ⟨w.heap.size,0,none⟩) n n) n cs:=by
 refine ⟨by simpa using y,_,_,rfl,le_refl _,h,.inr ⟨_,_,_,rfl,.inl rfl,fun j u z=>?_⟩⟩;rw [World.cell?_alloc_at _ _ _ _ rfl];simpa using z
theorem Row.own {w:World}{z:Nat}{e:TypeId}{size:Nat}{v:Value}{n:Nat}{y:List Value}(h:w.ownsRow z e size v n y):Row w size v n y:=by
 refine ⟨h.1,?_⟩;have H:=@World.ownsRow.cells w z e size v n y h;rcases h.2 with ⟨rfl,rfl⟩|⟨g,cap,J,rfl,_,_,D,E,_,_⟩
 ·exact ⟨none,0,rfl,le_refl _,by unfold maxLen;omega,.inl ⟨rfl,rfl,rfl⟩⟩
 refine ⟨_,_,rfl,D,E,.inr ⟨g,0,none,rfl,.inl rfl,fun j u I=>?_⟩⟩;have:=H (g:=g) rfl j u I;have G:(⟨g,0,none⟩:Addr).add j=⟨g,0+j,none⟩:=by unfold Addr.add;split<;>simp_all
 rwa [G] at this
theorem Row.nil (w:World)(size:Nat):Row w size (.slice none 0 0) 0 []:=⟨by simp,none,0,rfl,le_refl _,by unfold maxLen;omega,.inl ⟨rfl,rfl,rfl⟩⟩

theorem Q05.kept {α:Type}{f:α->List Value}{size:Nat}{w w':World}{v:Value}{l:List α}(h:Q05 f size w v l)(hb:Below w.heap.size w w'):Q05 f size w' v l:=Row.kept h hb
theorem Q05.below {α:Type}{f:α->List Value}{size:Nat}{w0 w':World}{v:Value}{l:List α}(h:Q05 f size w0 v l)(hb:Below w0.heap.size w0 w'):Q05 f size w' v l:=Row.kept h hb
theorem Q05.alloc {α:Type}{f:α->List Value}{size:Nat}{w:World}{v:Value}{l:List α}(h:Q05 f size w v l)(o:Obj):Q05 f size (w.alloc o) v l:=Row.alloc h o
theorem Q05.fits {α:Type}{f:α->List Value}{size:Nat}{w:World}{a:Option Addr}{n c:Nat}{l:List α}(h:Q05 f size w (.slice a n c) l):n=l.length/\n<=c/\c<=maxLen:=by
 obtain ⟨_,_,_,y,z,D,_⟩:=h;simp only [Value.slice.injEq] at y;obtain ⟨rfl,rfl,rfl⟩:=y;exact ⟨rfl,z,D⟩
theorem Q05.form {α:Type}{f:α->List Value}{size:Nat}{w:World}{v:Value}{l:List α}(h:Q05 f size w v l):∃ a c,v=.slice a l.length c/\l.length<=c/\c<=maxLen:=by
 obtain ⟨_,a,c,D,y,z,_⟩:=h;exact ⟨a,c,D,y,z⟩
theorem Q05.small {α:Type}{f:α->List Value}{size:Nat}{w:World}{v:Value}{l:List α}(h:Q05 f size w v l):l.length<=maxLen:=by
 obtain ⟨a,c,_,y,z⟩:=h.form;omega
theorem Q05.cells {α:Type}{f:α->List Value}{size:Nat}(hf:∀ x,(f x).length=size){w:World}{a:Option Addr}{n c:Nat}{l:List α}(h:Q05 f size w (.slice a n c) l)(k:Nat)(hk:k<l.length) :
  ∃ b off,a=some ⟨b,off,none⟩/\∀ j u,(f l[k])[j]?=some u->w.cell? ⟨b,off+(k*size+j),none⟩=some u:=by
 obtain ⟨_,_,_,z,_,_,h⟩:=h;simp only [Value.slice.injEq] at z;obtain ⟨rfl,rfl,rfl⟩:=z;rcases h with ⟨_,H,_⟩|⟨b,off,s,rfl,G,D⟩
 ·omega
 obtain rfl:s=none:=G.resolve_right (by omega);refine ⟨b,off,rfl,fun j u y=>D _ _ ?_⟩;have E:j<size:=by
  have:=(List.getElem?_eq_some_iff.1 y).1
  rwa [hf] at this
 rw [Q89 hf l k hk j E];exact y
theorem Q02.at {w:World}{a:Option Addr}{n c:Nat}{l:List UInt8}(h:Q02 w (.slice a n c) l)(k:Nat)(D:k<l.length) :
  ∃ b off,a=some ⟨b,off,none⟩/\w.cell? ⟨b,off+k,none⟩=some (.int .u8 (l[k].toNat:Int)):=by
 obtain ⟨b,off,y,z⟩:=Q05.cells (f:=b8) (size:=1) (fun _=>rfl) h k D;exact ⟨b,off,y,by simpa [u8v] using z 0 _ rfl⟩

theorem Q02.later {w w':World}{a:Option Addr}{n c:Nat}{l:List UInt8}(h:Q02 w (.slice a n c) l)(E:Below w.heap.size w w')(k:Nat)(G:k<l.length) :
  ∃ b off,a=some ⟨b,off,none⟩/\b<w.heap.size/\w'.cell? ⟨b,off+k,none⟩=some (.int .u8 (l[k].toNat:Int)):=by
 obtain ⟨b,off,D,y⟩:=h.at k G;have z:=World.block_lt_of_cell? w _ y;exact ⟨b,off,D,z,by rw [E.cell z];exact y⟩
theorem Qk4 {w:World}{p q:Addr}{v u:Value}(h:w.cell? p=some v)(y:p.block≠q.block):(w.setCell q u).cell? p=some v:=by
 rw [World.cell?_of_block (w:=w) (heap_setCell_other w q p.block u y)];exact h
structure El {α:Type}(P:Program)(t e:TypeId)(z:Value)(size bytes:Nat)(f:α->List Value):Prop where
 ht:P.underlying t=some (.slice e)
 hi:(P.info? e).map (fun i=>(i.zero,i.size,i.bytes))=some (some z,size,bytes)
 hzs:z.cells.size=size
 hsz:0<size
 hf:∀ x,(f x).length=size
 h1:∀ x,∀ u∈f x,u.oneCell'=true
theorem El.info {α:Type}{P:Program}{t e:TypeId}{z:Value}{size bytes:Nat}{f:α->List Value}(h:El P t e z size bytes f):∃ i,P.info? e=some i/\i.zero=some z/\i.size=size/\i.bytes=bytes:=by
 have:=h.hi;cases hh:P.info? e with
 | none=>simp [hh] at this
 | some i=>simp [hh] at this;exact ⟨i,rfl,this⟩
theorem El.one {α:Type}{P:Program}{t e:TypeId}{z:Value}{size bytes:Nat}{f:α->List Value}(h:El P t e z size bytes f)(l:List α):∀ u∈l.flatMap f,u.oneCell'=true:=by
 intro u y;obtain ⟨x,_,D⟩:=List.mem_flatMap.1 y;exact h.h1 x u D

theorem Q08.form {α:Type}{f:α->List Value}{size:Nat}{e:TypeId}{w:World}{B:Nat}{v:Value}{l:List α}(h:Q08 f size e w B v l):∃ a c,v=.slice a l.length c/\c<=maxLen:=by
 rcases h.2 with ⟨rfl,y⟩|⟨g,cap,D,rfl,_,_,_,z,_⟩
 ·rw [y];exact ⟨_,_,rfl,by unfold maxLen;omega⟩
 exact ⟨_,_,rfl,z⟩
theorem Q08.form' {α:Type}{f:α->List Value}{size:Nat}{e:TypeId}{w:World}{B:Nat}{v:Value}{l:List α}(h:Q08 f size e w B v l)(n:Nat)(hn:l.length=n):∃ a c,v=.slice a n c/\c<=maxLen:=hn▸h.form
theorem Q05.form' {α:Type}{f:α->List Value}{size:Nat}{w:World}{v:Value}{l:List α}(h:Q05 f size w v l)(n:Nat)(hn:l.length=n):∃ a c,v=.slice a n c/\c<=maxLen:=by
 obtain ⟨a,c,z,_,y⟩:=h.form;exact ⟨a,c,hn▸z,y⟩
theorem Q08.row {α:Type}{f:α->List Value}{size:Nat}{e:TypeId}{w:World}{B:Nat}{v:Value}{l:List α}(h:Q08 f size e w B v l):Q05 f size w v l:=Row.own h
theorem Q08.lt {α:Type}{f:α->List Value}{size:Nat}{e:TypeId}{w:World}{B:Nat}{v:Value}{l:List α}(h:Q08 f size e w B v l):∀ k,v.ownBlock=some k->B<=k:=fun k hk=>(World.ownsRow.lt h k hk).1
theorem Q08.nil {α:Type}(f:α->List Value)(size:Nat)(e:TypeId)(w:World)(B:Nat):Q08 f size e w B (.slice none 0 0) ([]:List α):=World.ownsRow_nil w B e size
theorem Q08.alloc {α:Type}{f:α->List Value}{size:Nat}{e:TypeId}{w:World}{B:Nat}{v:Value}{l:List α}(h:Q08 f size e w B v l)(o:Obj):Q08 f size e (w.alloc o) B v l:=World.ownsRow.alloc h o
theorem Q08.kept {α:Type}{f:α->List Value}{size:Nat}{e:TypeId}{w w':World}{B:Nat}{v:Value}{l:List α}(h:Q08 f size e w B v l)(hb:Below w.heap.size w w'):Q08 f size e w' B v l :=
 World.ownsRow.kept (row:=none) h ⟨hb.os,hb.tape,hb.output,hb.size,fun k y _=>hb.block k y⟩ (by cases hv:v.ownBlock<;>simp)
theorem Q08.made {α:Type}(f:α->List Value)(size:Nat)(e:TypeId)(w:World)(B:Nat)(l:List α)(cs:Array Value)(n:Nat)(hcs:cs.toList=l.flatMap f)(hn:n=l.length)(hs:cs.size=n*size)(hB:B<=w.heap.size)(hm:n<=maxLen) :
  Q08 f size e (w.alloc (.cells cs e)) B (.slice (some ⟨w.heap.size,0,none⟩) n n) l:=by
 subst hn;unfold Q08;rw [<-hcs];exact World.ownsRow_lit w cs _ hB hm hs
theorem Q08.empty {α:Type}(f:α->List Value)(size:Nat)(e:TypeId)(w:World)(B:Nat)(hB:B<=w.heap.size):Q08 f size e (w.alloc (.cells #[] e)) B (.slice (some ⟨w.heap.size,0,none⟩) 0 0) ([]:List α) :=
 Q08.made f size e w B [] #[] 0 rfl rfl (by simp) hB (by unfold maxLen;omega)

theorem Q1v {α:Type}{f:α->List Value}{P:Program}{w:World}{ops:Array Oper}{rest:List Oper}{o:Oper}{a:Act}{Q:Exit->Act->World->Prop}(hgd:o.guard=none)(s x:Operand)(t:TypeId)
  (ho:o.op=.call { callee:=.builtin .append,args:=#[s,x],argTypes:=#[t,t] })
  {e:TypeId} {z:Value} {size bytes:Nat}(el:El P t e z size bytes f) {B:Nat} {w0:World}
  {v:Value} {l m:List α}(hs:a.eval s=v) (hown:Q08 f size e w B v l)
  {u:Value}(hx:a.eval x=u) (hrow:Q05 f size w u m) (hbel:Below B w0 w) (hB:B<=w.heap.size)
  (hbytes:(l.length+m.length)*bytes<=140737488355328) (h63:l.length+m.length<=maxLen)
  (h:∀ D w',Q08 f size e w' B D (l++m)->Below B w0 w'->w.grownBy w' v.ownBlock->B<=w'.heap.size->wpList P ops Q rest (a.put o.dst D) w'):wpList P ops Q (o::rest) a w:=by
 obtain ⟨i,H,V,S,N⟩:=el.info;obtain ⟨K,Z,c,rfl,_,_,E⟩:=hrow;rcases E with ⟨rfl,O,rfl⟩|⟨b,off,J,rfl,U,E⟩
 ·obtain rfl:m=[]:=eq_nil_of_length_eq_zero O;refine wpList_append_own_none hgd s x t ho B e i size el.ht H v _ _ hs hown hx ?_;exact h v w (by simpa using hown) hbel ⟨rfl,rfl,rfl,le_refl _,fun _ _ _=>rfl⟩ hB
 refine wpList_append_own w hgd s x t ho B e i z size bytes el.ht H V S N el.hzs el.hsz v _ _ hs hown ⟨b,off,J⟩ _ c _ hx K (fun j y I=>?_) (el.one m) h63 hbytes hB
  (fun D w' W G _=>h D w' (by unfold Q08;rw [length_append,flatMap_append];exact W) (hbel.grown G hB hown.lt) G (Nat.le_trans hB G.size))
 have T:J=none:=U.resolve_right fun L=>by
  have:m=[]:=eq_nil_of_length_eq_zero L;subst this;simp at I
 subst T;have M:(⟨b,off,none⟩:Addr).add j=⟨b,off+j,none⟩:=by unfold Addr.add;split<;>simp_all
 rw [M];exact E j y I
theorem Q05.one {α:Type}(f:α->List Value)(size:Nat)(w:World)(x:α)(cs:Array Value)(e:TypeId)(hcs:cs.toList=f x)(hs:(f x).length=size):Q05 f size (w.alloc (.cells cs e)) (.slice (some ⟨w.heap.size,0,none⟩) 1 1) [x]:=by
 have:=Row.made w size (f x) e 1 (by simpa using hs) (by unfold maxLen;omega);unfold Q05;rw [show cs=(f x).toArray from by rw [<-hcs]];simpa using this
theorem Q05.nil {α:Type}(f:α->List Value)(size:Nat)(w:World):Q05 f size w (.slice none 0 0) ([]:List α):=Row.nil w size
theorem Q05.made {α:Type}(f:α->List Value)(size:Nat)(w:World)(l:List α)(cs:Array Value)(e:TypeId)(n:Nat)(hcs:cs.toList=l.flatMap f)(hn:n=l.length)(hs:(l.flatMap f).length=n*size)(hm:n<=maxLen):Q05 f size (w.alloc (.cells cs e)) (.slice (some ⟨w.heap.size,0,none⟩) n n) l:=by
 subst hn;have:=Row.made w size (l.flatMap f) e l.length hs hm;unfold Q05;rw [show cs=(l.flatMap f).toArray from by rw [<-hcs]];exact this
theorem Qtr (x:UInt8):∀ u∈b8 x,u.oneCell'=true:=by
 intro u h;simp only [b8,List.mem_singleton] at h;subst h;rfl

def Blk (e:TypeId)(w:World)(g:Nat)(cs:List Value):Prop:=w.heap[g]?=some (.cells cs.toArray e (0,0))
theorem Blk.cell {e:TypeId}{w:World}{g:Nat}{cs:List Value}(h:Blk e w g cs)(i:Nat):w.cell? ⟨g,i,none⟩=cs[i]?:=by
 rw [cell_of_row w g i _ e (0,0) h];simp
theorem Blk.get {e:TypeId}{w:World}{g:Nat}{cs:List Value}(h:Blk e w g cs)(i:Nat)(y:i<cs.length):w.cell? ⟨g,i,none⟩=some cs[i]:=by
 rw [h.cell,List.getElem?_eq_getElem y]
theorem Blk.has {e:TypeId}{w:World}{g:Nat}{cs:List Value}(h:Blk e w g cs)(i:Nat)(y:i<cs.length):∃ x,w.cell? ⟨g,i,none⟩=some x:=⟨_,h.get i y⟩
theorem Blk.free {e:TypeId}{w:World}{g:Nat}{cs:List Value}(h:Blk e w g cs)(i:Nat):w.frozen? ⟨g,i,none⟩=false:=frozen_of_row w g i _ e h
theorem Blk.set {e:TypeId}{w:World}{g:Nat}{cs:List Value}(h:Blk e w g cs)(i:Nat)(u:Value):Blk e (w.setCell ⟨g,i,none⟩ u) g (cs.set i u):=by
 unfold Blk;rw [heap_setCell_same w g i _ e u h];simp
theorem Blk.other {e:TypeId}{w:World}{g:Nat}{cs:List Value}(h:Blk e w g cs)(a:Addr)(y:a.block≠g)(u:Value):Blk e (w.setCell a u) g cs:=by
 unfold Blk;rw [heap_setCell_other w a g u (Ne.symm y)];exact h
theorem Blk.alloc {e:TypeId}{w:World}{g:Nat}{cs:List Value}(h:Blk e w g cs)(o:Obj):Blk e (w.alloc o) g cs:=by
 unfold Blk;rw [Below.heap_alloc w o g (Array.getElem?_eq_some_iff.1 h).1];exact h
theorem D01 (w:World)(e:TypeId)(cs:List Value):Blk e (w.alloc (.cells cs.toArray e)) w.heap.size cs:=heap_alloc_new w _
theorem Blk.lt {e:TypeId}{w:World}{g:Nat}{cs:List Value}(h:Blk e w g cs):g<w.heap.size:=(Array.getElem?_eq_some_iff.1 h).1
theorem Blk.drew {e:TypeId}{w:World}{g:Nat}{cs:List Value}(h:Blk e w g cs):Blk e w.drew g cs:=h
theorem Blk.below {e:TypeId}{w w':World}{g B:Nat}{cs:List Value}(h:Blk e w g cs)(y:Below B w w')(z:g<B):Blk e w' g cs:=(y.block g z).trans h
theorem Blk.kept {e:TypeId}{w w':World}{g:Nat}{cs:List Value}(h:Blk e w g cs)(y:Below w.heap.size w w'):Blk e w' g cs:=(y.block g h.lt).trans h
theorem Blk.grown {e:TypeId}{w w':World}{g:Nat}{cs:List Value}{row:Option Nat}(h:Blk e w g cs)(y:w.grownBy w' row)(z:row≠some g):Blk e w' g cs :=
 (y.block g h.lt (fun e=>z e.symm)).trans h
theorem Blk.row {α:Type}{f:α->List Value}{size:Nat}{e:TypeId}{w:World}{g:Nat}{cs:List Value}(h:Blk e w g cs)(l:List α)(n c:Nat)(hf:∀ x,(f x).length=size)(hl:l.length=n)(hcs:∀ (j:Nat) (u:Value),(l.flatMap f)[j]?=some u->cs[j]?=some u)(hc:n<=c)(hm:c<=maxLen) :
  Q05 f size w (.slice (some ⟨g,0,none⟩) n c) l:=by
 subst hl;refine ⟨Q28 hf l,_,_,rfl,hc,hm,.inr ⟨g,0,none,rfl,.inl rfl,fun j u y=>?_⟩⟩;rw [zero_add,h.cell];exact hcs j u y
theorem Blk.own {α:Type}{f:α->List Value}{size:Nat}{e:TypeId}{w:World}{g B:Nat}{l:List α}(h:Blk e w g (l.flatMap f))(n:Nat)(hf:∀ x,(f x).length=size)(hl:l.length=n)(hB:B<=g)(hm:n<=maxLen):Q08 f size e w B (.slice (some ⟨g,0,none⟩) n n) l:=by
 subst hl;refine ⟨Q28 hf l,.inr ⟨g,_,_,rfl,hB,h,le_refl _,hm,by simpa using Q28 hf l,?_⟩⟩;simp only [List.toList_toArray];exact List.take_of_length_le (by rw [Q28 hf l];exact le_refl _)
theorem Q4p {α:Type}{f:α->List Value}{P:Program}{w:World}{ops:Array Oper}{rest:List Oper}{o:Oper}{a:Act}{Q:Exit->Act->World->Prop}
  (hg:o.guard=none) (l c:Operand) (t:TypeId) (hop:o.op=Op.makeSlice t l c)
  {e:TypeId} {z:Value} {bytes:Nat}(el:El P t e z 1 bytes f) (hzc:z.cells=#[z]) {B:Nat} {w0:World}
  (kl kc:IntKind) (L C:Int) (n:Nat) (hl:a.eval l=.int kl L) (hc:a.eval c=.int kc C) (hL:L=(n:Int)) (hC:C=(n:Int))
  (hbel:Below B w0 w) (hB:B<=w.heap.size) (b2:bytes*n<=281474976710656) (b3:n<=maxLen)
  (hK:∀ w',Blk e w' w.heap.size (List.replicate n z)->Below B w0 w'->w.grownBy w' none->B<w'.heap.size->wpList P ops Q rest (a.put o.dst (.slice (some ⟨w.heap.size,0,none⟩) n n)) w') :
  wpList P ops Q (o::rest) a w:=by
 obtain ⟨i,J,O,M,H⟩:=el.info;refine wpList_make_full w hg l c t hop B e i z 1 el.ht J O M kl kc L C n hl hc hL hC (by rw [H];exact b2) b3 hB fun w' y D=>?_;rw [mul_one,hzc,toList_madeCells_one] at y;have E:Blk e w' w.heap.size (List.replicate n z):=by
  rcases y.2 with ⟨h,_⟩|⟨T,S,G,h,_,I,_,_,hcs,N⟩
  ·simp at h
  simp only [Value.slice.injEq,Option.some.injEq,Addr.mk.injEq,and_true,true_and] at h;obtain ⟨rfl,rfl⟩:=h;have:G.toList=List.replicate n z:=by
   rw [<-N];exact (List.take_of_length_le (by simp [hcs])).symm
  unfold Blk;rw [<-this];simpa using I
 exact hK w' E (hbel.grown D hB (fun k K=>by cases K)) D (Nat.lt_of_le_of_lt hB E.lt)

def Agg (P:Program)(ty:TypeId)(n:Nat):Prop:=∃ d,P.underlying ty=some d/\(match d with|.struct _|.array _ _=>true|_=>false)=true/\(P.info? ty).map (·.size)=some n
theorem Q1b {P:Program}{w:World}{ops:Array Oper}{z:List Oper}{o:Oper}{a:Act}{Q:Exit->Act->World->Prop}(G:o.guard=none)(y:TypeId)(x:Operand)(H:o.op=.load y x)
  (g:Nat) (hx:a.eval x=.pointer (some ⟨g,0,none⟩)) {n:Nat}(hty:Agg P y n) {e:TypeId} {cs:List Value}(hb:Blk e w g cs) (hn:cs.length=n)
  (h:wpList P ops Q z (a.put o.dst (.agg cs.toArray)) w):wpList P ops Q (o::z) a w:=by
 obtain ⟨d,D,I,E⟩:=hty;exact wpList_load_row G y x H g hx e cs.toArray (0,0) d hb D (by cases d<;>simp_all) (by rw [E];simp [hn]) h
theorem Q0n {P:Program}{w:World}{ops:Array Oper}{D:List Oper}{o:Oper}{a:Act}{Q:Exit->Act->World->Prop}(G:o.guard=none)(z:TypeId)(x y:Operand)(I:o.op=.store z x y)
  (g:Nat) (cs:List Value) (hx:a.eval x=.pointer (some ⟨g,0,none⟩)) (hy:a.eval y=.agg cs.toArray) {n:Nat}(hty:Agg P z n) {e:TypeId} {old:List Value}(hb:Blk e w g old) (hn:cs.length=n) (ho2:old.length=n)
  (h1:∀ u∈cs,u.oneCell'=true) {B:Nat} {w0:World}(hbel:Below B w0 w) (hB:B<=g)
  (h:∀ w',Blk e w' g cs->Below B w0 w'->w.grownBy w' (some g)->wpList P ops Q D (a.put o.dst undef) w'):wpList P ops Q (o::D) a w:=by
 obtain ⟨d,_,_,E⟩:=hty;refine wpList_store_row G z x y I g cs.toArray hx hy e old.toArray hb (by rw [E];simp [hn]) (by simp [hn,ho2]) (by rw [Array.all_eq_true_iff_forall_mem];simpa using h1) ?_;refine h _ ?_ (below_setRow hbel hB _) ⟨rfl,rfl,rfl,by simp,fun k _ H=>setRow_other w g k _ (fun e=>H (by rw [e]))⟩;exact setRow_heap w g _ _ e _ hb
theorem Qgs {P : Program} {ops : Array Oper} {Q : Exit -> Act -> World -> Prop} {D : List Oper} {a : Act} {w : World} {t : TypeId} {x : Operand} {t' : TypeId} {ps : String} {y : Array Edge} {z : Option (Tmp × Bool)} (n : Nat) (h : wpList P ops Q (⟨none, .store t x (.tmp n), t', ps, y, z⟩ :: D) a w) : wpList P ops Q (⟨none, .store t x (.tmp n), t', ps, y, z⟩ :: D) a w := h
theorem Qgl {P : Program} {ops : Array Oper} {Q : Exit -> Act -> World -> Prop} {D : List Oper} {a : Act} {w : World} {o : Op} {t' : TypeId} {ps : String} {y : Array Edge} {z : Option (Tmp × Bool)} (n : Nat) (h : wpList P ops Q (⟨some n, o, t', ps, y, z⟩ :: D) a w) : wpList P ops Q (⟨some n, o, t', ps, y, z⟩ :: D) a w := h
theorem Qsa {P : Program} {w : World} {ops : Array Oper} {D : List Oper} {a : Act} {Q : Exit -> Act -> World -> Prop} {t' : TypeId} {ps : String} {G : Array Edge} (z : TypeId) (x y : Nat) (g : Nat) (cs : List Value) {n : Nat} (N : Agg P z n) {e : TypeId} {old : List Value} (J : Blk e w g old) (L : cs.length = n) (M : old.length = n) (H : ∀ u ∈ cs, u.oneCell' = true) {B : Nat} {E : World} (K : Below B E w) (I : B <= g) (h : ∀ w', Blk e w' g cs -> Below B E w' -> w.grownBy w' (some g) -> wpList P ops Q D (a.put none undef) w') (O : a.eval (.tmp x) = .pointer (some ⟨g, 0, none⟩) := by rfl) (S : a.eval (.tmp y) = .agg cs.toArray := by rfl) : wpList P ops Q (⟨none, .store z (.tmp x) (.tmp y), t', ps, G, none⟩ :: D) a w := Q0n rfl z _ _ rfl g cs O S N J L M H K I h
theorem Qla {P : Program} {w : World} {ops : Array Oper} {D : List Oper} {a : Act} {Q : Exit -> Act -> World -> Prop} {d : Option Tmp} {t' : TypeId} {ps : String} {z : Array Edge} (y : TypeId) (x : Nat) (g : Nat) {n : Nat} (H : Agg P y n) {e : TypeId} {cs : List Value} (E : Blk e w g cs) (G : cs.length = n) (h : wpList P ops Q D (a.put d (.agg cs.toArray)) w) (I : a.eval (.tmp x) = .pointer (some ⟨g, 0, none⟩) := by rfl) : wpList P ops Q (⟨d, .load y (.tmp x), t', ps, z, none⟩ :: D) a w := Q1b (o := ⟨d, .load y (.tmp x), t', ps, z, none⟩) rfl y _ rfl g I H E G h
theorem Q0h {P:Program}{z:Func}{p:Tmp}{D:TypeId}(h:z.results=#[.cell p D])(y:Array Value)(w:World)(g:Nat){n:Nat}(J:Agg P D n){e:TypeId}{cs:List Value}(H:Blk e w g cs)(I:cs.length=n)
  (hp:y.getD p undef=.pointer (some ⟨g,0,none⟩)):(results z y).run P w=.ok (.agg cs.toArray) w:=by
 obtain ⟨d,E,K,G⟩:=J;exact results_cell_row h y w g e cs.toArray (0,0) d hp H E (by cases d<;>simp_all) (by rw [G];simp [I])

theorem Qbf {α:Type}{f:α->List Value}{P:Program}{w:World}{ops:Array Oper}{rest:List Oper}{o:Oper}{a:Act}{Q:Exit->Act->World->Prop}(hgd:o.guard=none)(d s:Operand)(dT sT:TypeId)
  (ho:o.op=.call { callee:=.builtin .copy,args:=#[d,s],argTypes:=#[dT,sT] }) {e t:TypeId} {z:Value} {bytes:Nat}(el:El P dT t z 1 bytes f)
  (g off dLen dCap:Nat) (hd:a.eval d=.slice (some ⟨g,off,none⟩) dLen dCap) (u:Value) (m:List α) (hs:a.eval s=u) (hrow:Q05 f 1 w u m) (hle:m.length<=dLen)
  (cur:List Value) (hg:Blk e w g cur) (hfit:off+m.length<=cur.length) (B:Nat) (w0:World) (hb:Below B w0 w) (hBg:B<=g)
  (h:∀ w',Blk e w' g (splice cur off (m.flatMap f))->Below B w0 w'->wpList P ops Q rest (a.put o.dst (goInt m.length)) w') :
  wpList P ops Q (o::rest) a w:=by
 obtain ⟨i,K,W,L,T⟩:=el.info;have D:(m.flatMap f).length=m.length:=by rw [Q28 el.hf];simp
 obtain ⟨S,G,c,rfl,_,_,y⟩:=hrow;refine wpList_copy_splice hgd d s dT sT ho t el.ht (by rw [K];simp [L]) _ G dLen dCap m.length c hd hs g off cur e hg (m.flatMap f) (by rw [D];exact (Nat.min_eq_left hle).symm) ?_ (by rw [D];exact hfit) (el.one m) B w0 hb hBg ?_
 ·intro V;rcases y with ⟨_,U,_⟩|⟨b,E,O,rfl,M,y⟩
  ·omega
  obtain rfl:O=none:=M.resolve_right (by omega);refine ⟨rfl,_,rfl,fun j v N=>?_⟩;have J:(⟨b,E,none⟩:Addr).add j=⟨b,E+j,none⟩:=by unfold Addr.add;split<;>simp_all
  rw [J];exact y j v N
 ·rw [D];exact fun w' H I=>h w' H I

theorem Calls.quiet_of2 {P:Program}{f:FuncId}{args:Array Value}{w:World}{a n:Nat}{v:Value}
  (h:Calls P f args (w.drewN (a+n)) fun e w'=>e=.returned v/\∃ m,w'=(w.drewN (a+n)).drewN m):Calls P f args (w.drewN (a+n)) fun e y=>e=.returned v/\∃ m,y=w.drewN (a+m) :=
 h.mono fun _ _ ⟨he,m,hm⟩=>⟨he,n+m,by rw [hm,World.drewN_drewN,add_assoc]⟩
theorem D00 {y z D:World}(h:Below y.heap.size y z)(k:Below z.heap.size z D):Below y.heap.size y D:=h.trans (k.mono h.size)
@[go_sem] def str (l:List UInt8):Value:=.string ⟨l.toArray⟩
theorem Qnp (l:List UInt8):∀ r:ByteArray,(l.map (fun x=>(x.toNat:Int))).foldl (fun r n=>r.push (UInt8.ofNat n.toNat)) r=⟨r.data++l.toArray⟩:=by
 induction l with
 | nil=>intro r;simp
 | cons x l ih =>
  intro r;simp only [map_cons,List.foldl_cons];rw [ih];simp [ByteArray.push]
theorem Q0q {P:Program}{w:World}{src dst e:TypeId}(K:P.underlying src=some (.slice e))(I:P.underlying e=some (.int .u8))(H:P.underlying dst=some .string)
  {v:Value} {l:List UInt8}(h:Q02 w v l):(convert src dst v).run P w=.ok (str l) w:=by
 obtain ⟨N,a,c,rfl,_,_,y⟩:=h;rw [run_convert_bytes_string w src dst e a _ c K I H];rcases y with ⟨rfl,J,rfl⟩|⟨b,off,D,rfl,L,y⟩
 ·obtain rfl:l=[]:=eq_nil_of_length_eq_zero J;simp [Conv.bytesToString,str];rfl
 ·by_cases hn0:l.length=0
  ·obtain rfl:l=[]:=eq_nil_of_length_eq_zero hn0;have z:(loadCells ⟨b,off,D⟩ 0).run P w=.ok (([]:List Int).map (Value.int .u8)).toArray w:=by simp [loadCells,loadCellsFrom]
   simp only [List.length_nil];rw [run_bytesToString w _ _ c _ z];simp [str];rfl
  obtain rfl:D=none:=L.resolve_right hn0;have z:(loadCells ⟨b,off,none⟩ l.length).run P w=.ok ((l.map (fun x=>(x.toNat:Int))).map (Value.int .u8)).toArray w:=by
   have G:(l.map (fun x=>(x.toNat:Int))).map (Value.int .u8)=l.flatMap b8:=by rw [Q22,List.map_map];rfl
   have:=run_loadCells_list (P:=P) (w:=w) ⟨b,off,none⟩ (l.flatMap b8) (fun j v M=>by
    have E:(⟨b,off,none⟩:Addr).add j=⟨b,off+j,none⟩:=by unfold Addr.add;split<;>simp_all
    rw [E];exact y j v M)
   rw [G];simpa [Q22] using this
  rw [run_bytesToString w _ _ c _ z,Qnp];simp [str]

theorem Q05.part {α:Type}{f:α->List Value}{size:Nat}(hf:∀ x,(f x).length=size)(_hsz:0<size){w:World}{a:Option Addr}{n c:Nat}{l:List α}(h:Q05 f size w (.slice a n c) l)(lo hi:Nat)(h1:lo<=hi)(h2:hi<=n) :
  ∃ a' c',sliced a lo hi c size=.slice a' (hi - lo) c'/\Q05 f size w (.slice a' (hi - lo) c') ((l.take hi).drop lo):=by
 obtain ⟨O,S,N⟩:=h.fits;have G:((l.take hi).drop lo).length=hi - lo:=by simp;omega
 obtain ⟨_,_,_,I,_,_,z⟩:=h;simp only [Value.slice.injEq] at I;obtain ⟨rfl,_,rfl⟩:=I;refine ⟨if c=lo then a else a.map (·.add (lo*size)),c - lo,rfl,?_⟩;unfold Q05;rw [G];refine ⟨by rw [Q28 hf,G],_,_,rfl,by omega,by omega,?_⟩;rcases z with ⟨rfl,E,rfl⟩|⟨b,off,s,rfl,M,z⟩
 ·left
  refine ⟨by split<;>rfl,by omega,by omega⟩
 right
 have H:∀ j u,(((l.take hi).drop lo).flatMap f)[j]?=some u->w.cell? ⟨b,off+(lo*size+j),none⟩=some u:=by
  intro j u y;apply z;have J:l.flatMap f=(l.take lo).flatMap f++(((l.take hi).drop lo).flatMap f++(l.drop hi).flatMap f):=by
   rw [<-flatMap_append,<-flatMap_append];congr 1;rw [<-List.append_assoc];have K:l.take lo=(l.take hi).take lo:=by rw [List.take_take,Nat.min_eq_left h1]
   rw [K,List.take_append_drop,List.take_append_drop]
  have D:((l.take lo).flatMap f).length=lo*size:=by rw [Q28 hf,List.length_take,Nat.min_eq_left (by omega)]
  rw [J,List.getElem?_append_right (by rw [D];omega),D,show lo*size+j - lo*size=j from by omega];have L:=(List.getElem?_eq_some_iff.1 y).1;rw [List.getElem?_append_left L];exact y
 by_cases hc:c=lo
 ·have E:hi - lo=0:=by omega
  rw [if_pos hc];refine ⟨b,off,s,rfl,.inr E,fun j u y=>?_⟩;have:(l.take hi).drop lo=[]:=eq_nil_of_length_eq_zero (by omega);rw [this] at y;simp at y
 rw [if_neg hc];by_cases hlo:lo*size=0
 ·refine ⟨b,off,s,by simp [Addr.add,hlo],M.imp_right (fun h=>by omega),fun j u y=>?_⟩;have:=H j u y
  rwa [hlo,zero_add] at this
 refine ⟨b,off+lo*size,none,by simp [Addr.add,hlo],.inl rfl,fun j u y=>?_⟩;have:=H j u y
 rwa [<-add_assoc] at this
theorem Q05.from {α:Type}{f:α->List Value}{P:Program}{t e:TypeId}{z:Value}{size bytes:Nat}(el:El P t e z size bytes f){w:World}{a:Option Addr}{n c:Nat}{l:List α}(h:Q05 f size w (.slice a n c) l)(lo:Nat)(h1:lo<=n)(x:Int)(hx:x=lo) :
  ∃ y D,(∀ k w',(Instr.slice t (.slice a n c) (some (.int k x)) none none).run P w'=.ok (.slice y (n - lo) D) w')/\Q05 f size w (.slice y (n - lo) D) (l.drop lo):=by
 subst hx;obtain ⟨J,M,L⟩:=h.fits;obtain ⟨y,D,G,H⟩:=h.part el.hf el.hsz lo n h1 (le_refl _);obtain ⟨i,I,_,K,_⟩:=el.info;have E:P.elem t=e:=by unfold Program.elem;rw [el.ht]
 refine ⟨y,D,fun k w'=>?_,by subst J;simpa using H⟩;rw [run_slice_l (P:=P) w' (t:=t) (a:=a) (len:=n) (cap:=c) (by rw [E];exact el.ht) k (lo:Int) (by omega) (by omega)];rw [E];simp [sizeOf,typeInfo,I,K,<-G]
theorem Q05.to {α:Type}{f:α->List Value}{P:Program}{t e:TypeId}{z:Value}{size bytes:Nat}(el:El P t e z size bytes f){w:World}{a:Option Addr}{n c:Nat}{l:List α}(h:Q05 f size w (.slice a n c) l)(hi:Nat)(h1:hi<=n)(x:Int)(hx:x=hi) :
  ∃ y D,(∀ k w',(Instr.slice t (.slice a n c) none (some (.int k x)) none).run P w'=.ok (.slice y hi D) w')/\Q05 f size w (.slice y hi D) (l.take hi):=by
 subst hx;obtain ⟨L,M,K⟩:=h.fits;obtain ⟨y,D,E,H⟩:=h.part el.hf el.hsz 0 hi (Nat.zero_le _) h1;obtain ⟨i,I,_,J,_⟩:=el.info;have G:P.elem t=e:=by unfold Program.elem;rw [el.ht]
 refine ⟨y,D,fun k w'=>?_,by simpa using H⟩;rw [run_slice_h (P:=P) w' (t:=t) (a:=a) (len:=n) (cap:=c) (by rw [G];exact el.ht) k (hi:Int) (by omega) (by omega)];rw [G];simp [sizeOf,typeInfo,I,J] at E |-;exact E
theorem Q05.between {α:Type}{f:α->List Value}{P:Program}{t e:TypeId}{z:Value}{size bytes:Nat}(el:El P t e z size bytes f){w:World}{a:Option Addr}{n c:Nat}{l:List α}(h:Q05 f size w (.slice a n c) l)(lo hi:Nat)(h0:lo<=hi)(h1:hi<=n)(x y:Int)(hx:x=lo)(hy:y=hi) :
  ∃ D E,(∀ k G w',(Instr.slice t (.slice a n c) (some (.int k x)) (some (.int G y)) none).run P w'=.ok (.slice D (hi - lo) E) w')/\Q05 f size w (.slice D (hi - lo) E) ((l.take hi).drop lo):=by
 subst hx;subst hy;obtain ⟨N,O,M⟩:=h.fits;obtain ⟨D,E,H,J⟩:=h.part el.hf el.hsz lo hi h0 h1;obtain ⟨i,K,_,L,_⟩:=el.info;have I:P.elem t=e:=by unfold Program.elem;rw [el.ht]
 refine ⟨D,E,fun k G w'=>?_,J⟩;rw [run_slice_lh (P:=P) w' (t:=t) (a:=a) (len:=n) (cap:=c) (by rw [I];exact el.ht) k G (lo:Int) (hi:Int) (by omega) (by omega) (by omega)];rw [I];simp [sizeOf,typeInfo,K,L] at H |-;exact H

def Q34 (T:List Value)(z:Value)(i:Nat):List Value:=T.take i++List.replicate (T.length - i) z
theorem Q5j (T:List Value)(z:Value)(i:Nat)(h:i<=T.length):(Q34 T z i).length=T.length:=by simp [Q34];omega
theorem Q55 (T:List Value)(z:Value):Q34 T z 0=List.replicate T.length z:=by simp [Q34]
theorem Q6u (T:List Value)(z:Value):Q34 T z T.length=T:=by simp [Q34]
theorem Qqa (T:List Value)(z:Value)(i:Nat)(h:i<T.length):(Q34 T z i).set i T[i]=Q34 T z (i+1):=by
 unfold Q34;have y:(T.take i).length=i:=by simp;omega
 rw [List.set_append_right _ _ (by omega),y,Nat.sub_self,List.take_succ_eq_append_getElem h];obtain ⟨m,D⟩:∃ m,T.length - i=m+1:=⟨T.length - i - 1,by omega⟩;rw [D,show T.length - (i+1)=m from by omega,List.replicate_succ,List.set_cons_zero,List.append_assoc];rfl
theorem Q56 (T:List Value)(z:Value)(i:Nat)(u:Value)(h:T[i]?=some u):(Q34 T z i).set i u=Q34 T z (i+1):=by
 obtain ⟨y,rfl⟩:=List.getElem?_eq_some_iff.1 h;exact Qqa T z i y
def lenV:Value->Nat
 | .slice _ n _=>n
 | _=>0
def Ext (w0:World):Type:={ w':World // Below w0.heap.size w0 w' }
instance (w0:World):Nonempty (Ext w0):=⟨⟨w0,Below.refl _ _⟩⟩
def Ext.val {w0:World}(u:Ext w0):World:=Subtype.val u
theorem Ext.bel {h:World}(u:Ext h):Below h.heap.size h u.val:=u.property
section
variable {P:Program}
theorem Ext.cell {y:World}(u:Ext y){p:Addr}{v:Value}(h:y.cell? p=some v):u.val.cell? p=some v:=by
 rw [u.bel.cell (World.block_lt_of_cell? y _ h)];exact h
theorem Ext.row {α:Type}{f:α->List Value}{size:Nat}{w0:World}(u:Ext w0){v:Value}{l:List α}(h:Q05 f size w0 v l):Q05 f size u.val v l:=h.kept u.bel
end
abbrev Ty:=Value->World->Prop
abbrev Env:=List (Tmp × Ty)
def Env.get (Γ:Env)(t:Tmp):Option Ty:=(Γ.find? fun p=>p.1 == t).map (·.2)
def Mono (T:Ty):Prop:=∀ v w w',T v w->Below w.heap.size w w'->T v w'
def okAt (Γ:Env)(a:Act)(w:World)(t:Tmp)(b:Act):Prop :=
 match Γ.get t with
 | some T=>∃ v,b.tmps[t]?=some v/\T v w
 | none=>b.tmps[t]?=a.tmps[t]?
section
variable {P:Program} {ops:Array Oper}
def Q57 (P:Program)(w:World)(v:Value):Result Next->Prop
 | .ok (.value u) w'=>w'=w/\u=v
 | .ok .skip w'=>w'=w/\v=undef
 | .ok (.enter f args) w'=>w'=w/\Calls P f args w (fun e w''=>e=.returned v/\Below w.heap.size w w'')
 | _=>False
def Q58 (P:Program)(o:Oper)(a:Act)(w:World)(v:Value):Prop:=Q57 P w v ((execOp a.eval o).run P w)
def Qga (P:Program)(w0:World)(o:Oper)(a:Act)(next:Act->Prop):Prop:=∃ v,(∀ u:Ext w0,Q58 P o a u.val v)/\next (a.put o.dst v)
attribute [go_sem] Qga Q58 Q57
def Q2l (P:Program)(T:Ty)(w:World):Result Next->Prop
 | .ok (.value u) w'=>Below w.heap.size w w'/\T u w'
 | .ok .skip w'=>Below w.heap.size w w'/\T undef w'
 | .ok (.enter f args) w'=>w'=w/\Calls P f args w (fun e w''=>∃ v,e=.returned v/\T v w''/\Below w.heap.size w w'')
 | _=>False
attribute [go_sem] Q2l
def Q00 (w:World):Env->Act->(Act->Prop)->Prop
 | [],a,K=>K a
 |(t,T)::r,a,K=>∀ v,T v w->Q00 w r (a.put (some t) v) K
def Q18 (Γ:Env)(ts:List Tmp):Env:=Γ.filter fun p=>ts.contains p.1
def wpX (P:Program)(ops:Array Oper)(w0:World)(fin:Act->Env->Prop):List Oper->Act->Env->Prop
 | [],a,Γ=>fin a Γ
 | o::rest,a,Γ =>
  ((Q18 Γ (o.looksAt ops))=[] /\
   if Region.wanted o (yielded ops a.tmps) then Qga P w0 o a (fun a'=>wpX P ops w0 fin rest a' Γ) else wpX P ops w0 fin rest (a.put o.dst undef) Γ) ∨
  (∃ (d:Tmp) (T:Ty),o.dst=some d/\d<a.tmps.size/\Mono T /\
   (∀ w,Below w0.heap.size w0 w->Q00 w (Q18 Γ (o.looksAt ops)) a (fun a'=>Region.wanted o (yielded ops a'.tmps)=true/\Q2l P T w ((execOp a'.eval o).run P w))) /\
   wpX P ops w0 fin rest (a.put o.dst undef) ((d,T)::Γ)) ∨
  (∃ (X:Value),
   (∀ w,Below w0.heap.size w0 w->Q00 w (Q18 Γ (o.looksAt ops)) a (fun a'=>Region.wanted o (yielded ops a'.tmps)=true/\Q2l P (fun v _=>v=X) w ((execOp a'.eval o).run P w))) /\
   wpX P ops w0 fin rest (a.put o.dst X) Γ)
theorem Q0i {z:World}{y:Act->Env->Prop}{a:Act}{Γ:Env}(h:y a Γ):wpX P ops z y [] a Γ:=h
theorem Q06 {y:World}{z:Act->Env->Prop}{a:Act}{Γ:Env}{o:Oper}{rest:List Oper}(hr:(Q18 Γ (o.looksAt ops))=[])
  (h:∀ K:Act->Prop,(∀ a,wpX P ops y z rest a Γ->K a)->if Region.wanted o (yielded ops a.tmps) then Qga P y o a K else K (a.put o.dst undef)):wpX P ops y z (o::rest) a Γ :=
 .inl ⟨hr,h (fun a=>wpX P ops y z rest a Γ) (fun _ h=>h)⟩
theorem Q0e {y:World}{D:Act->Env->Prop}{a:Act}{Γ:Env}{o:Oper}{rest:List Oper}(d:Tmp)(T:Ty)(hd:o.dst=some d)(hlt:d<a.tmps.size)(hm:Mono T)
  (h:∀ w,Below y.heap.size y w->Q00 w (Q18 Γ (o.looksAt ops)) a (fun z=>Region.wanted o (yielded ops z.tmps)=true/\Q2l P T w ((execOp z.eval o).run P w)))
  (hn:wpX P ops y D rest (a.put o.dst undef) ((d,T)::Γ)):wpX P ops y D (o::rest) a Γ :=
 .inr (.inl ⟨d,T,hd,hlt,hm,h,hn⟩)
theorem Q3a {y:World}{D:Act->Env->Prop}{a:Act}{Γ:Env}{o:Oper}{rest:List Oper}(X:Value)
  (h:∀ w,Below y.heap.size y w->Q00 w (Q18 Γ (o.looksAt ops)) a (fun z=>Region.wanted o (yielded ops z.tmps)=true/\Q2l P (fun v _=>v=X) w ((execOp z.eval o).run P w)))
  (hn:wpX P ops y D rest (a.put o.dst X) Γ):wpX P ops y D (o::rest) a Γ :=
 .inr (.inr ⟨X,h,hn⟩)

/-! ### which operations come before which -/
def Q3p (ops:Array Oper)(j:Nat):List Nat:=match ops[j]? with
 | some o=>(o.after.toList.filter (Region.binds .any)).map (·.on)
 | none=>[]
def Q7v (ops:Array Oper):Nat->List Nat->List Nat->List Nat
 | 0,_,seen=>seen
 | _+1,[],seen=>seen
 | f+1,x::wl,seen=>if seen.contains x then Q7v ops f wl seen else Q7v ops f (Q3p ops x++wl) (x::seen)
def Q2x (ops:Array Oper)(i:Nat):Option Tmp:=(ops[i]?).bind (·.dst)
def Q7b (ops:Array Oper)(j:Nat):List Tmp:=match ops[j]? with
 | some o=>o.looksAt ops
 | none=>[]
def Qkq (ops:Array Oper)(n:Nat):Bool :=
 Region.noSelect ops&&decide (n<=ops.size) &&
 ((List.range ops.size).all fun i=>(Q3p ops i).all fun k=>decide (k<i)) &&
 ((List.range n).all fun j=>(List.range n).all fun i =>
  match Q2x ops i with
  | none=>true
  | some t=>(i==j || Q2x ops j != some t) &&
   (!(Q7b ops j).contains t ||(if i<j then (Q7v ops 5000 (Q3p ops j) []).contains i else (i != j)&&(Q7v ops 5000 (Q3p ops i) []).contains j))) &&
 ((List.range ops.size).all fun i=>decide (i<n) ||((List.range i).all fun k=>(Q7v ops 5000 (Q3p ops i) []).contains k))
def Qf0 (ops:Array Oper)(listed:Array Bool):Prop:=∀ j,listed.getD j false=true->∀ i∈Q3p ops j,listed.getD i false=true
theorem Q2f {z:Array Bool}(D:Qf0 ops z):∀ (f:Nat) (wl seen:List Nat),(∀ x∈wl,z.getD x false=true)->(∀ x∈seen,z.getD x false=true)->∀ x∈Q7v ops f wl seen,z.getD x false=true
 | 0,_,_,_,hs=>hs
 | _+1,[],_,_,hs=>hs
 | f+1,x::wl,seen,hw,hs=>by
  unfold Q7v;split
  ·exact Q2f D f wl seen (fun y h=>hw y (mem_cons_of_mem _ h)) hs
  refine Q2f D f _ _ (fun y h=>?_) (fun y h=>?_)
  ·rcases List.mem_append.1 h with h|h
   ·exact D x (hw x mem_cons_self) y h
   exact hw y (mem_cons_of_mem _ h)
  rcases mem_cons.1 h with rfl|h
  ·exact hw y mem_cons_self
  exact hs y h
theorem Q63 {z:Array Bool}{j:Nat}(h:j∈Region.ready .any ops z):z.getD j true=false/\(∃ o,ops[j]?=some o)/\∀ i∈Q3p ops j,z.getD i false=true:=by
 obtain ⟨E,o,D,G⟩:=mem_ready.1 h;refine ⟨E,⟨o,D⟩,fun i y=>?_⟩;unfold Q3p at y;simp only [D,mem_map,mem_filter] at y;obtain ⟨e,⟨I,H⟩,rfl⟩:=y;exact G e (by simpa using I) H
/-! ### the lexical walk,as a row of states -/
def Q72 (P:Program)(ops:Array Oper)(w0:World)(o:Oper)(a:Act)(Γ:Env)(a':Act)(Γ':Env):Prop :=
 (Q18 Γ (o.looksAt ops)=[]/\Γ'=Γ/\((Region.wanted o (yielded ops a.tmps)=true/\∃ v,(∀ u:Ext w0,Q58 P o a u.val v)/\a'=a.put o.dst v)∨(Region.wanted o (yielded ops a.tmps)=false/\a'=a.put o.dst undef))) ∨
 (∃ (d:Tmp) (T:Ty),o.dst=some d/\d<a.tmps.size/\Mono T /\
   (∀ w,Below w0.heap.size w0 w->Q00 w (Q18 Γ (o.looksAt ops)) a (fun a'=>Region.wanted o (yielded ops a'.tmps)=true/\Q2l P T w ((execOp a'.eval o).run P w)))/\a'=a.put o.dst undef/\Γ'=(d,T)::Γ) ∨
 (∃ (X:Value),
   (∀ w,Below w0.heap.size w0 w->Q00 w (Q18 Γ (o.looksAt ops)) a (fun a'=>Region.wanted o (yielded ops a'.tmps)=true/\Q2l P (fun v _=>v=X) w ((execOp a'.eval o).run P w)))/\a'=a.put o.dst X/\Γ'=Γ)
theorem seqX {z:World}{E:Act->Env->Prop}:∀ (l:List Oper) (a:Act) (Γ:Env),wpX P ops z E l a Γ ->
  ∃ (A:Nat->Act) (G:Nat->Env),A 0=a/\G 0=Γ/\E (A l.length) (G l.length)/\∀ j o,l[j]?=some o->Q72 P ops z o (A j) (G j) (A (j+1)) (G (j+1))
 | [],a,Γ,h=>⟨fun _=>a,fun _=>Γ,rfl,rfl,h,fun j o y=>by simp at y⟩
 | o::l,a,Γ,h=>by
  have Z:∃ D Γ',Q72 P ops z o a Γ D Γ'/\wpX P ops z E l D Γ':=by
   unfold wpX at h;rcases h with ⟨K,h⟩|⟨d,T,L,M,N,H,I⟩|⟨X,H,I⟩
   ·by_cases hw:Region.wanted o (yielded ops a.tmps)=true
    ·rw [if_pos hw] at h;obtain ⟨v,W,J⟩:=h;exact ⟨_,_,.inl ⟨K,rfl,.inl ⟨hw,v,W,rfl⟩⟩,J⟩
    rw [if_neg hw] at h;exact ⟨_,_,.inl ⟨K,rfl,.inr ⟨by simpa using hw,rfl⟩⟩,h⟩
   ·exact ⟨_,_,.inr (.inl ⟨d,T,L,M,N,H,rfl,rfl⟩),I⟩
   exact ⟨_,_,.inr (.inr ⟨X,H,rfl,rfl⟩),I⟩
  obtain ⟨D,Γ',V,J⟩:=Z;obtain ⟨A,G,O,S,U,hst⟩:=seqX l D Γ' J;refine ⟨fun k=>match k with|0=>a|k+1=>A k,fun k=>match k with|0=>Γ|k+1=>G k,rfl,rfl,U,fun j o' y=>?_⟩;cases j with
  | zero =>
   simp only [List.getElem?_cons_zero,Option.some.injEq] at y;subst y;show Q72 P ops z o a Γ (A 0) (G 0);rw [O,S];exact V
  | succ j=>exact hst j o' (by simpa using y)
theorem Q5f (a:Act)(d:Option Tmp)(v:Value):(a.put d v).tmps.size=a.tmps.size:=by cases d <;> simp [Act.put]
theorem Q2q (a:Act)(d:Option Tmp)(v:Value):(a.put d v).defers=a.defers:=by cases d <;> rfl
theorem Q3b (a:Act)(d:Option Tmp)(v:Value)(t:Tmp)(h:d≠some t):(a.put d v).tmps[t]?=a.tmps[t]?:=by
 cases d with
 | none=>rfl
 | some d=>simp only [Act.put];exact Array.getElem?_setIfInBounds_ne (fun e=>h (by rw [e]))
theorem Qhj (a:Act)(d:Tmp)(v:Value)(h:d<a.tmps.size):(a.put (some d) v).tmps[d]?=some v:=by
 simp [Act.put,h]
theorem Q72.keeps {G:World}{o:Oper}{a z:Act}{Γ Γ':Env}(h:Q72 P ops G o a Γ z Γ'):z.tmps.size=a.tmps.size/\z.defers=a.defers/\∀ t,o.dst≠some t->z.tmps[t]?=a.tmps[t]?/\Γ'.get t=Γ.get t:=by
 rcases h with ⟨_,rfl,⟨_,v,_,rfl⟩|⟨_,rfl⟩⟩|⟨d,T,E,_,_,_,rfl,rfl⟩|⟨X,_,rfl,rfl⟩
 ·exact ⟨Q5f _ _ _,Q2q _ _ _,fun t y=>⟨Q3b _ _ _ _ y,rfl⟩⟩
 ·exact ⟨Q5f _ _ _,Q2q _ _ _,fun t y=>⟨Q3b _ _ _ _ y,rfl⟩⟩
 ·refine ⟨Q5f _ _ _,Q2q _ _ _,fun t y=>⟨Q3b _ _ _ _ y,?_⟩⟩;have:d≠t:=fun e=>y (by rw [E,e]);have D:(d==t)=false:=by simpa using this
  unfold Env.get;rw [List.find?_cons_of_neg (by simpa using D)]
 exact ⟨Q5f _ _ _,Q2q _ _ _,fun t y=>⟨Q3b _ _ _ _ y,rfl⟩⟩
def unl:Nat->Array Bool->Nat
 | 0,_=>0
 | n+1,l=>unl n l+(if l.getD n false=true then 0 else 1)
theorem Qbh {y:Array Bool}:∀ (n:Nat),unl n y=0->∀ i,i<n->y.getD i false=true
 | 0,_,i,hi=>by omega
 | n+1,h,i,hi=>by
  unfold unl at h;by_cases hn:y.getD n false=true
  ·rw [if_pos hn] at h;by_cases hin:i=n
   ·rw [hin];exact hn
   exact Qbh n (by omega) i (by omega)
  rw [if_neg hn] at h;omega
theorem Qgy {y:Array Bool}(j:Nat):∀ (n:Nat),n<=j->unl n (y.setIfInBounds j true)=unl n y
 | 0,_=>rfl
 | n+1,h=>by
  unfold unl;rw [Qgy j n (by omega),getD_set_ne false (by omega)]
theorem Q4k {y:Array Bool}{j:Nat}(h:j<y.size):(y.setIfInBounds j true).getD j false=true:=by
 simp [h]
theorem Qkn {y:Array Bool}{j:Nat}(D:j<y.size)(z:y.getD j false=false):∀ (n:Nat),j<n->unl n (y.setIfInBounds j true)+1=unl n y
 | 0,h=>by omega
 | n+1,h=>by
  unfold unl;by_cases hjn:j=n
  ·subst hjn;rw [Qgy j j (le_refl _),if_pos (Q4k D),if_neg (by rw [z];simp)]
  have:=Qkn D z n (by omega);rw [getD_set_ne false hjn];omega
theorem Qgx {y:Array Bool}:∀ (n:Nat),unl n y≠0->∃ i,i<n/\y.getD i false=false/\∀ k,k<i->y.getD k false=true
 | 0,h=>by simp [unl] at h
 | n+1,h=>by
  by_cases h0:unl n y=0
  ·refine ⟨n,by omega,?_,Qbh n h0⟩;unfold unl at h;by_cases hn:y.getD n false=true
   ·rw [if_pos hn] at h;omega
   simpa using hn
  obtain ⟨i,E,z,D⟩:=Qgx n h0;exact ⟨i,by omega,z,D⟩
/-! ### what the tail asks -/
theorem Q3u {y:Array Bool}{i:Nat}(z:i<y.size)(h:y.getD i false=false):y.getD i true=false:=by
 simp [z] at h |-;exact h
theorem Q2m {y:Array Bool}{i:Nat}(h:y.getD i true=false):y.getD i false=false/\i<y.size:=by
 rcases Nat.lt_or_ge i y.size with z|z
 ·simp [z] at h |-;exact h
 simp [z] at h
theorem Qbb {h:Array Bool}(D:Qf0 ops h){j:Nat}(E:∀ i∈Q3p ops j,h.getD i false=true):Qf0 ops (h.setIfInBounds j true):=by
 intro k z i y;by_cases hkj:k=j
 ·subst hkj;exact getD_set_true (E i y)
 rw [getD_set_ne false (Ne.symm hkj)] at z;exact getD_set_true (D k z i y)
structure Qgm (ops:Array Oper)(n:Nat):Prop where
 nosel:Region.noSelect ops=true
 le:n<=ops.size
 low:∀ i k,i<ops.size->k∈Q3p ops i->k<i
 dist:∀ i j t,i<n->j<n->Q2x ops i=some t->i≠j->Q2x ops j≠some t
 pre:∀ i j t,i<n->j<n->Q2x ops i=some t->t∈Q7b ops j->(i<j->i∈Q7v ops 5000 (Q3p ops j) [])/\(¬ i<j->i≠j/\j∈Q7v ops 5000 (Q3p ops i) [])
 tail:∀ i k,i<ops.size->n<=i->k<i->k∈Q7v ops 5000 (Q3p ops i) []
theorem Qp5 {n:Nat}(h:Qkq ops n=true):Qgm ops n:=by
 unfold Qkq at h;simp only [Bool.and_eq_true,decide_eq_true_eq] at h;obtain ⟨⟨⟨⟨H,I⟩,J⟩,K⟩,L⟩:=h;have G:∀ i j t,i<n->j<n->Q2x ops i=some t->(i==j || Q2x ops j != some t)=true/\((!(Q7b ops j).contains t)=true∨(if i<j then (Q7v ops 5000 (Q3p ops j) []).contains i else (i != j)&&(Q7v ops 5000 (Q3p ops i) []).contains j)=true):=by
  intro i j t y z D;have:=all_eq_true.1 (all_eq_true.1 K j (by simpa using z)) i (by simpa using y);rw [D] at this;simp only [Bool.and_eq_true,Bool.or_eq_true] at this;simpa using this
 refine ⟨H,I,fun i k y E=>?_,fun i j t y z D O=>?_,fun i j t y z D M=>?_,fun i k y S E=>?_⟩
 ·have:=all_eq_true.1 (all_eq_true.1 J i (by simpa using y)) k E;simpa using this
 ·have:=(G i j t y z D).1;simp only [Bool.or_eq_true,beq_iff_eq,bne_iff_ne] at this;exact this.resolve_left O
 ·have:=(G i j t y z D).2;have N:(!(Q7b ops j).contains t)=false:=by simpa using M
  rw [N] at this;have:=this.resolve_left (by simp);by_cases hij:i<j
  ·rw [if_pos hij] at this;exact ⟨fun _=>by simpa using this,fun h=>(h hij).elim⟩
  rw [if_neg hij] at this;simp only [Bool.and_eq_true,bne_iff_ne] at this;exact ⟨fun h=>(hij h).elim,fun _=>⟨this.1,by simpa using this.2⟩⟩
 have:=all_eq_true.1 L i (by simpa using y);simp only [Bool.or_eq_true,decide_eq_true_eq] at this;have:=all_eq_true.1 (this.resolve_left (by omega)) k (by simpa using E);simpa using this
theorem Qai {n:Nat}(D:Qgm ops n){Q:Exit->Act->World->Prop}:∀ (l:List Oper) (k:Nat) (listed:Array Bool) (b:Act) (w:World),n<=k->k+l.length=ops.size->(∀ j,l[j]?=ops[k+j]?)->listed.size=ops.size ->
  Qf0 ops listed->(∀ i,i<k->listed.getD i false=true)->(∀ i,k<=i->listed.getD i false=false)->wpList P ops Q l b w->wpAny P .any ops Q l.length listed b w
 | [],k,listed,b,w,_,hkl,_,hsz,_,hlo,_,h=>by
  refine ⟨?_,h⟩;apply List.eq_nil_iff_forall_not_mem.2;intro j E;obtain ⟨y,⟨o,ho⟩,_⟩:=Q63 E;have I:j<ops.size:=(Array.getElem?_eq_some_iff.1 ho).1;have:=(Q2m y).1;rw [hlo j (by simp at hkl;omega)] at this;cases this
 | o::l,k,listed,b,w,hnk,hkl,hl,hsz,hcl,hlo,hhi,h=>by
  have y:ops[k]?=some o:=by simpa using (hl 0).symm
  have V:k<ops.size:=(Array.getElem?_eq_some_iff.1 y).1;have W:=D.low;have J:k∈Region.ready .any ops listed:=by
   rw [mem_ready];refine ⟨Q3u (by omega) (hhi k (le_refl _)),o,y,fun e M L=>hlo _ (W k e.on V ?_)⟩;unfold Q3p;simp only [y,mem_map,mem_filter];exact ⟨e,⟨by simpa using M,L⟩,rfl⟩
  refine ⟨fun hn=>(by rw [hn] at J;cases J),fun j E=>?_⟩;obtain ⟨T,⟨oj,a2⟩,H⟩:=Q63 E;have I:j<ops.size:=(Array.getElem?_eq_some_iff.1 a2).1;have U:j=k:=by
   have G:=(Q2m T).1;rcases Nat.lt_trichotomy j k with Z|N|O
   ·rw [hlo j Z] at G;cases G
   ·exact N
   have:=Q2f hcl 5000 (Q3p ops j) [] H (fun x hx=>by cases hx) k (D.tail j k I (by omega) O);rw [hhi k (le_refl _)] at this;cases this
  subst U;have K:∀ b w,wpList P ops Q l b w->wpAny P .any ops Q l.length (listed.setIfInBounds j true) b w:=fun b w z=>Qai D l (j+1) (listed.setIfInBounds j true) b w (by omega) (by simp at hkl;omega) (fun i=>by have:=hl (i+1);simpa [add_assoc,Nat.add_comm 1 i] using this) (by simp [hsz])
   (Qbb hcl H) (fun i S=>by
    by_cases hij:i=j
    ·subst hij;exact Q4k (by omega)
    exact getD_set_true (hlo i (by omega))) (fun i S=>by rw [getD_set_ne false (by omega)];exact hhi i (by omega)) z
  unfold wpList at h;unfold wpOp;simp only [y];split
  ·rename_i z;rw [if_pos z] at h;rcases h with h|h
   ·exact .inl (Oper.wp_mono (fun a w hq=>K a w hq) h)
   exact .inr h
  rename_i z;rw [if_neg z] at h;exact K _ _ h
/-! ### the head: whatever order is picked -/
theorem Qma {Γ:Env}(hm:∀ t T,Γ.get t=some T->Mono T){a b:Act}{w w':World}{t:Tmp}(h:okAt Γ a w t b)(hb:Below w.heap.size w w'):okAt Γ a w' t b:=by
 unfold okAt at *;cases hg:Γ.get t with
 | none=>simpa [hg] using h
 | some T =>
  simp only [hg] at h |-;obtain ⟨v,y,z⟩:=h;exact ⟨v,y,hm t T hg v w w' z hb⟩
theorem Q9o {Γ:Env}{t:Tmp}{T:Ty}(h:Γ.get t=some T):(t,T)∈Γ:=by
 unfold Env.get at h;obtain ⟨p,y,rfl⟩:=Option.map_eq_some_iff.1 h;have z:=List.mem_of_find?_eq_some y;have D:=List.find?_some y;have:p.1=t:=by simpa using D
 rw [<-this];exact z
theorem Qlq {Γ:Env}{ts:List Tmp}(h:Q18 Γ ts=[]){t:Tmp}(ht:t∈ts):Γ.get t=none:=by
 cases hg:Γ.get t with
 | none=>rfl
 | some T =>
  have:(t,T)∈Q18 Γ ts:=mem_filter.2 ⟨Q9o hg,by simpa using ht⟩;rw [h] at this;cases this
theorem Q3v {w:World}{b:Act}:∀ (r:Env) (a:Act) (K:Act->Prop),a.tmps.size=b.tmps.size->(∀ p∈r,∃ v,b.tmps[p.1]?=some v/\p.2 v w)->Q00 w r a K ->
  ∃ z,K z/\z.tmps.size=b.tmps.size/\z.defers=a.defers/\∀ t,(z.tmps[t]?=a.tmps[t]?/\(∀ p∈r,p.1≠t))∨((∃ p∈r,p.1=t)/\z.tmps[t]?=b.tmps[t]?)
 | [],a,K,hs,_,h=>⟨a,h,hs,rfl,fun t=>.inl ⟨rfl,fun p y=>by cases y⟩⟩
 |(d,T)::r,a,K,hs,hv,h=>by
  obtain ⟨v,D,G⟩:=hv (d,T) mem_cons_self;have N:d<b.tmps.size:=(Array.getElem?_eq_some_iff.1 D).1;obtain ⟨z,J,S,M,L⟩:=Q3v r (a.put (some d) v) K (by rw [Q5f];exact hs) (fun p y=>hv p (mem_cons_of_mem _ y)) (h v G);refine ⟨z,J,S,by rw [M,Q2q],fun t=>?_⟩;rcases L t with ⟨E,H⟩|⟨⟨p,y,O⟩,I⟩
  ·by_cases hdt:d=t
   ·subst hdt;refine .inr ⟨⟨(d,T),mem_cons_self,rfl⟩,?_⟩;rw [E,Qhj _ _ _ (by rw [hs];exact N),D]
   refine .inl ⟨by rw [E,Q3b _ _ _ _ (by simpa using hdt)],fun p y=>?_⟩;rcases mem_cons.1 y with rfl|y
   ·exact hdt
   exact H p y
  exact .inr ⟨⟨p,mem_cons_of_mem _ y,O⟩,I⟩
theorem Qt0 {a b:Act}(h:a.defers=b.defers)(y:∀ t:Nat,a.tmps[t]?=b.tmps[t]?):a=b:=by
 cases a;cases b;simp only at h y;subst h;congr 1;exact Array.ext_getElem? y
theorem Q9r {o:Oper}{a b:Act}(y:∀ cs z,o.op≠.select cs z)(h:∀ t∈o.looksAt ops,a.tmps[t]?=b.tmps[t]?):execOp a.eval o=execOp b.eval o :=
 execOp_congr o y fun x D=>by
  cases x with
  | tmp t =>
   have:=h t (List.mem_append_left _ (List.mem_filterMap.2 ⟨.tmp t,by simpa using D,rfl⟩));simp [Act.eval,this]
  | const v=>rfl
  | global g=>rfl
  | func f=>rfl
theorem Q60 {o:Oper}{a b:Act}(h:∀ t∈o.looksAt ops,a.tmps[t]?=b.tmps[t]?):Region.wanted o (yielded ops a.tmps)=Region.wanted o (yielded ops b.tmps):=by
 unfold Region.wanted;cases hg:o.guard with
 | none=>rfl
 | some gd =>
  obtain ⟨j,z⟩:=gd;simp only [yielded];cases hd:(ops[j]?).bind (·.dst) with
  | none=>rfl
  | some t =>
   have y:t∈o.looksAt ops:=by
    unfold Oper.looksAt;refine List.mem_append_right _ ?_;simp [hg,hd]
   simp only [Option.bind_some];rw [h t y]
def finX (P:Program)(ops:Array Oper)(w0:World)(Q:Exit->Act->World->Prop)(n:Nat)(a:Act)(Γ:Env):Prop :=
 ∀ w',Below w0.heap.size w0 w'->Q00 w' Γ.reverse a (fun a'=>wpList P ops Q (ops.toList.drop n) a' w')
theorem Q75 {y:World}{Q:Exit->Act->World->Prop}{n:Nat}{a:Act}{Γ:Env}(hn:ops.toList.drop n=[])(h:∀ w',Below y.heap.size y w'->Q00 w' Γ.reverse a (fun a'=>Q .normal a' w')):wpX P ops y (finX P ops y Q n) [] a Γ:=by
 intro w' z;rw [hn];exact h w' z
structure Inv (ops:Array Oper)(w0:World)(n:Nat)(A:Nat->Act)(G:Nat->Env)(listed:Array Bool)(b:Act)(w:World):Prop where
 size:listed.size=ops.size
 closed:Qf0 ops listed
 bel:Below w0.heap.size w0 w
 defers:b.defers=(A 0).defers
 bs:b.tmps.size=(A 0).tmps.size
 typed:∀ i,i<n->listed.getD i false=true->∀ t,Q2x ops i=some t->okAt (G (i+1)) (A (i+1)) w t b
 rest:∀ t,(∀ i,i<n->listed.getD i false=true->Q2x ops i≠some t)->b.tmps[t]?=(A 0).tmps[t]?
 tail:∀ i,n<=i->listed.getD i false=false
section
variable {w0:World} {n:Nat} {A:Nat->Act} {G:Nat->Env}
theorem Q61 (hst:∀ j o,ops[j]?=some o->j<n->Q72 P ops w0 o (A j) (G j) (A (j+1)) (G (j+1)))(y:n<=ops.size):∀ j,j<=n->(A j).tmps.size=(A 0).tmps.size/\(A j).defers=(A 0).defers
 | 0,_=>⟨rfl,rfl⟩
 | j+1,hj=>by
  have h:=Q61 hst y j (by omega);have z:ops[j]?=some ops[j]:=Array.getElem?_eq_getElem (by omega);have:=(hst j _ z (by omega)).keeps;exact ⟨this.1.trans h.1,this.2.1.trans h.2⟩
theorem Q33 (hst:∀ j o,ops[j]?=some o->j<n->Q72 P ops w0 o (A j) (G j) (A (j+1)) (G (j+1)))(E:n<=ops.size)(t:Tmp):∀ j,j<=n->(∀ i,i<j->Q2x ops i≠some t)->(A j).tmps[t]?=(A 0).tmps[t]?/\(G j).get t=(G 0).get t
 | 0,_,_=>⟨rfl,rfl⟩
 | j+1,hj,h=>by
  have D:=Q33 hst E t j (by omega) (fun i H=>h i (by omega));have z:ops[j]?=some ops[j]:=Array.getElem?_eq_getElem (by omega);have y:=(hst j _ z (by omega)).keeps.2.2 t (by have:=h j (by omega);unfold Q2x at this;rw [z] at this;exact this);exact ⟨y.1.trans D.1,y.2.trans D.2⟩
theorem Q3r (hst:∀ j o,ops[j]?=some o->j<n->Q72 P ops w0 o (A j) (G j) (A (j+1)) (G (j+1)))(h:Qgm ops n)(t:Tmp)(i:Nat)(y:i<n)(E:Q2x ops i=some t):∀ d,i+1+d<=n->(A (i+1+d)).tmps[t]?=(A (i+1)).tmps[t]?/\(G (i+1+d)).get t=(G (i+1)).get t
 | 0,_=>⟨rfl,rfl⟩
 | d+1,hd=>by
  have H:=Q3r hst h t i y E d (by omega);have I:=h.le;have D:ops[i+1+d]?=some ops[i+1+d]:=Array.getElem?_eq_getElem (by omega);have z:=(hst (i+1+d) _ D (by omega)).keeps.2.2 t (by
   have:=h.dist i (i+1+d) t y (by omega) E (by omega);unfold Q2x at this;rw [D] at this;exact this)
  exact ⟨z.1.trans H.1,z.2.trans H.2⟩
theorem Q4a (hst:∀ j o,ops[j]?=some o->j<n->Q72 P ops w0 o (A j) (G j) (A (j+1)) (G (j+1)))(M:n<=ops.size)(H:G 0=[]):∀ j,j<=n->(∀ t T,(t,T)∈G j->Mono T/\∃ i,i<j/\Q2x ops i=some t)/\((G j).map (·.1)).length=(G j).length
 | 0,_=>⟨fun t T h=>(by rw [H] at h;cases h),by simp⟩
 | j+1,hj=>by
  have E:=Q4a hst M H j (by omega);have J:ops[j]?=some ops[j]:=Array.getElem?_eq_getElem (by omega);refine ⟨fun t T h=>?_,by simp⟩;rcases hst j _ J (by omega) with ⟨_,D,_⟩|⟨d,N,K,_,L,_,_,D⟩|⟨X,_,_,D⟩
  ·rw [D] at h;obtain ⟨y,i,I,z⟩:=E.1 t T h;exact ⟨y,i,by omega,z⟩
  rotate_left
  ·rw [D] at h;obtain ⟨y,i,I,z⟩:=E.1 t T h;exact ⟨y,i,by omega,z⟩
  rw [D] at h;rcases mem_cons.1 h with e|h
  ·simp only [Prod.mk.injEq] at e;obtain ⟨rfl,rfl⟩:=e;exact ⟨L,j,by omega,by unfold Q2x;rw [J];exact K⟩
  obtain ⟨y,i,I,z⟩:=E.1 t T h;exact ⟨y,i,by omega,z⟩
theorem Q5d (hst:∀ j o,ops[j]?=some o->j<n->Q72 P ops w0 o (A j) (G j) (A (j+1)) (G (j+1)))(D:Qgm ops n)(z:G 0=[]):∀ j,j<=n->∀ t T,(t,T)∈G j->(G j).get t=some T
 | 0,_,t,T,h=>by rw [z] at h;cases h
 | j+1,hj,t,T,h=>by
  have L:=D.le;have E:=Q5d hst D z j (by omega) t T;have H:ops[j]?=some ops[j]:=Array.getElem?_eq_getElem (by omega);rcases hst j _ H (by omega) with ⟨_,y,_⟩|⟨d,N,I,_,S,_,_,y⟩|⟨X,_,_,y⟩
  ·rw [y] at h |-;exact E h
  rotate_left
  ·rw [y] at h |-;exact E h
  rw [y] at h |-;have J:Q2x ops j=some d:=by unfold Q2x;rw [H];exact I
  rcases mem_cons.1 h with e|h
  ·simp only [Prod.mk.injEq] at e;obtain ⟨rfl,rfl⟩:=e;simp [Env.get]
  obtain ⟨_,i,O,K⟩:=(Q4a hst L z j (by omega)).1 t T h;have M:d≠t:=by
   intro e;subst e;exact D.dist i j d (by omega) (by omega) K (by omega) J
  have:=E h;unfold Env.get at this |-;rw [List.find?_cons_of_neg (by simpa using M)];exact this
theorem Qbv {a b:Act}(h:a.tmps.size=b.tmps.size)(t:Tmp)(v:Value):(b.put (some t) v).tmps[t]?=(a.put (some t) v).tmps[t]?:=by
 simp only [Act.put,Array.getElem?_setIfInBounds_self,h]
theorem Inv.step (J:Qgm ops n)(hst:∀ j o,ops[j]?=some o->j<n->Q72 P ops w0 o (A j) (G j) (A (j+1)) (G (j+1)))(L:G 0=[]){D:Array Bool}{b:Act}{w w':World}(inv:Inv ops w0 n A G D b w){j:Nat}{o:Oper}(K:j<n)(U:ops[j]?=some o)
  (hun:D.getD j false=false) (hedge:∀ i∈Q3p ops j,D.getD i false=true) (hb:Below w.heap.size w w') (v:Value) (hv:∀ t,o.dst=some t->okAt (G (j+1)) (A (j+1)) w' t (b.put o.dst v)) :
  Inv ops w0 n A G (D.setIfInBounds j true) (b.put o.dst v) w':=by
 have O:=J.le;have E:Q2x ops j=o.dst:=by unfold Q2x;rw [U];rfl
 refine ⟨by simp [inv.size],Qbb inv.closed hedge,inv.bel.trans (hb.mono inv.bel.size),by rw [Q2q];exact inv.defers,by rw [Q5f];exact inv.bs,fun i h z t y=>?_,fun t y=>?_,fun i h=>?_⟩
 ·by_cases hij:i=j
  ·subst hij;exact hv t (by rw [<-E];exact y)
  rw [getD_set_ne false (Ne.symm hij)] at z;have H:o.dst≠some t:=by
   rw [<-E];exact J.dist i j t h K y hij
  have M:=inv.typed i h z t y;have S:∀ t T,(G (i+1)).get t=some T->Mono T:=fun t T N=>((Q4a hst O L (i+1) (by omega)).1 t T (Q9o N)).1;have I:=Qma S M hb;unfold okAt at I |-;rw [Q3b _ _ _ _ H];exact I
 ·have H:o.dst≠some t:=by
   rw [<-E];exact y j K (Q4k (by rw [inv.size];omega))
  rw [Q3b _ _ _ _ H];exact inv.rest t fun i h z=>y i h (getD_set_true z)
 rw [getD_set_ne false (by omega)];exact inv.tail i h
theorem Q4o (D:Qgm ops n)(hst:∀ j o,ops[j]?=some o->j<n->Q72 P ops w0 o (A j) (G j) (A (j+1)) (G (j+1)))(O:G 0=[]){Q:Exit->Act->World->Prop}(a1:finX P ops w0 Q n (A n) (G n)){J:Nat}{H:Array Bool}{b:Act}{w:World}
  (inv:Inv ops w0 n A G H b w) (hf:unl n H+(ops.size - n)=J) (hz:unl n H=0):wpAny P .any ops Q J H b w:=by
 have M:=D.le;have N:=Qbh n hz;have V:=Q61 hst M n (le_refl _);obtain ⟨W,S,a6,a0,a5⟩:=Q3v (b:=b) (G n).reverse (A n) _ (by rw [V.1,inv.bs]) (fun p hp=>by
  have U:(p.1,p.2)∈G n:=by simpa using hp
  obtain ⟨_,i,y,E⟩:=(Q4a hst M O n (le_refl _)).1 p.1 p.2 U;have z:=inv.typed i y (N i y) p.1 E;have I:=Q3r hst D p.1 i y E (n - (i+1)) (by omega);rw [show i+1+(n - (i+1))=n from by omega] at I;unfold okAt at z;rw [<-I.2,Q5d hst D O n (le_refl _) p.1 p.2 U] at z;exact z) (a1 w inv.bel)
 have Z:W=b:=by
  refine Qt0 (by rw [a0,V.2,inv.defers]) fun t=>?_;rcases a5 t with ⟨z,I⟩|⟨_,z⟩
  ·have a2:(G n).get t=none:=by
    cases hgt:(G n).get t with
    | none=>rfl
    | some T'=>exact (I (t,T') (by simpa using Q9o hgt) rfl).elim
   rw [z];by_cases hex:∃ i,i<n/\Q2x ops i=some t
   ·obtain ⟨i,y,E⟩:=hex;have K:=inv.typed i y (N i y) t E;have L:=Q3r hst D t i y E (n - (i+1)) (by omega);rw [show i+1+(n - (i+1))=n from by omega] at L;unfold okAt at K;rw [<-L.2,a2] at K;rw [L.1];exact K.symm
   have T:∀ i,i<n->Q2x ops i≠some t:=fun i y h=>hex ⟨i,y,h⟩;rw [(Q33 hst M t n (le_refl _) T).1,inv.rest t fun i y _=>T i y]
  exact z
 rw [Z] at S;have hl:(ops.toList.drop n).length=J:=by simp;omega
 have:=Qai D (Q:=Q) (ops.toList.drop n) n H b w (le_refl _) (by simp;omega) (fun j=>by simp [List.getElem?_drop]) inv.size inv.closed N inv.tail S;rw [hl] at this;exact this
theorem Qiw (H:Qgm ops n)(hst:∀ j o,ops[j]?=some o->j<n->Q72 P ops w0 o (A j) (G j) (A (j+1)) (G (j+1)))(Z:G 0=[]){Q:Exit->Act->World->Prop}(ax:finX P ops w0 Q n (A n) (G n)) :
  ∀ (O:Nat) (L:Array Bool) (b:Act) (w:World),Inv ops w0 n A G L b w->unl n L+(ops.size - n)=O->wpAny P .any ops Q O L b w:=by
 have ak:=H.le;intro O;induction O with
 | zero =>
  intro L b w inv hf;exact Q4o H hst Z ax inv hf (by omega)
 | succ O ih =>
  intro L b w inv hf;by_cases hz:unl n L=0
  ·exact Q4o H hst Z ax inv hf hz
  obtain ⟨i0,aO,ay,aG⟩:=Qgx n hz;have aB:i0∈Region.ready .any ops L:=by
   rw [mem_ready];have J:ops[i0]?=some ops[i0]:=Array.getElem?_eq_getElem (by omega);refine ⟨Q3u (by rw [inv.size];omega) ay,_,J,fun e he I=>aG _ (H.low i0 e.on (by omega) ?_)⟩;unfold Q3p;simp only [J,mem_map,mem_filter];exact ⟨e,⟨by simpa using he,I⟩,rfl⟩
  refine ⟨fun hn=>(by rw [hn] at aB;cases aB),fun j hj=>?_⟩;obtain ⟨aI,⟨o,J⟩,af⟩:=Q63 hj;have az:j<ops.size:=(Array.getElem?_eq_some_iff.1 J).1;have ar:=(Q2m aI).1;have a4:j<n:=by
   rcases Nat.lt_or_ge j n with h|h
   ·exact h
   have:=Q2f inv.closed 5000 (Q3p ops j) [] af (fun x E=>by cases E) i0 (H.tail j i0 az h (by omega));rw [ay] at this;cases this
  have aD:Q2x ops j=o.dst:=by unfold Q2x;rw [J];rfl
  have aA:Q7b ops j=o.looksAt ops:=by unfold Q7b;rw [J]
  have a8:∀ t∈o.looksAt ops,okAt (G j) (A j) w t b:=by
   intro t D;by_cases U:∃ i,i<j/\Q2x ops i=some t
   ·obtain ⟨i,ai,aj⟩:=U;have hr:=(H.pre i j t (by omega) a4 aj (by rw [aA];exact D)).1 ai;have aK:=Q2f inv.closed 5000 (Q3p ops j) [] af (fun x E=>by cases E) i hr;have y:=inv.typed i (by omega) aK t aj;have N:=Q3r hst H t i (by omega) aj (j - (i+1)) (by omega);rw [show i+1+(j - (i+1))=j from by omega] at N;unfold okAt at y |-;rw [N.1,N.2];exact y
   have ac:∀ i,i<j->Q2x ops i≠some t:=fun i hi h=>U ⟨i,hi,h⟩;have y:=Q33 hst ak t j (by omega) ac;have N:=inv.rest t (fun i hi hl h=>by
    have ai:¬ i<j:=fun hh=>ac i hh h;obtain ⟨aQ,hr⟩:=(H.pre i j t hi a4 h (by rw [aA];exact D)).2 ai;have:=Q2f inv.closed 5000 (Q3p ops i) [] (fun x E=>inv.closed i hl x E) (fun x E=>by cases E) j hr;rw [ar] at this;cases this)
   unfold okAt;rw [y.2,Z];simp only [Env.get,List.find?_nil,Option.map_none];rw [N,y.1]
  have ab:∀ (v:Value) (w':World),Below w.heap.size w w'->(∀ t,o.dst=some t->okAt (G (j+1)) (A (j+1)) w' t (b.put o.dst v))->wpAny P .any ops Q O (L.setIfInBounds j true) (b.put o.dst v) w' :=
   fun v w' I hv=>ih _ _ _ (inv.step H hst Z a4 J ar af I v hv) (by
    have:=Qkn (by rw [inv.size];exact az) ar n a4;omega)
  have aM:=Q61 hst ak j (by omega);have a9:(A j).tmps.size=b.tmps.size:=by rw [aM.1,inv.bs]
  unfold wpOp;simp only [J];have ae:∀ v,(A (j+1))=(A j).put o.dst v->G (j+1)=G j->∀ w' t,o.dst=some t->okAt (G (j+1)) (A (j+1)) w' t (b.put o.dst v):=by
   intro v S V w' t D;have ac:∀ i,i<j->Q2x ops i≠some t:=fun i hi h=>H.dist i j t (by omega) a4 h (by omega) (by rw [aD];exact D);have y:=Q33 hst ak t j (by omega) ac;unfold okAt;rw [V,y.2,Z];simp only [Env.get,List.find?_nil,Option.map_none];rw [S,D];exact Qbv a9 t v
  rcases hst j o J a4 with ⟨hrel,V,aC⟩|⟨d,T,hd,aE,hm,al,S,V⟩|⟨X,al,S,V⟩
  ·have W:∀ t∈o.looksAt ops,b.tmps[t]?=(A j).tmps[t]?:=by
    intro t D;have y:=a8 t D;unfold okAt at y;rw [Qlq hrel D] at y;exact y
   rw [Q60 W];rcases aC with ⟨hw,v,hv,S⟩|⟨hw,S⟩
   ·rw [if_pos hw];left
    have E:=hv (⟨w,inv.bel⟩:Ext w0);have U:=Q9r (ops:=ops) (Region.noSelect_spec H.nosel j o · · J) W;have K:=fun w' I=>ab v w' I (ae v S V w');unfold Q58 at E;rw [<-U] at E;unfold Oper.wp;change Q57 P w v ((execOp b.eval o).run P w) at E;generalize (execOp b.eval o).run P w=r at E;cases r with
    | ok nx w' =>
     cases nx<;>simp only [Q57] at E<;>simp only [Oper.upon]
     case value u =>
      obtain ⟨M,e2⟩:=E;rw [M,e2];exact K w (Below.refl _ _)
     case skip =>
      obtain ⟨M,e2⟩:=E;rw [M,<-e2];exact K w (Below.refl _ _)
     case enter f args =>
      obtain ⟨M,hc⟩:=E;rw [M];exact hc.mono fun e w'' ⟨he,I⟩=>by subst he;exact K w'' I
    | halt x w'=>simp only [Q57] at E
   rw [if_neg (by rw [hw];simp)];exact ab undef w (Below.refl _ _) (ae undef S V w)
  ·obtain ⟨a',⟨av,z⟩,_,_,aq⟩:=Q3v (b:=b) (Q18 (G j) (o.looksAt ops)) (A j) _ a9 (fun p hp=>by
    obtain ⟨an,ao⟩:=mem_filter.1 hp;have y:=a8 p.1 (by simpa using ao);unfold okAt at y;rw [Q5d hst H Z j (by omega) p.1 p.2 an] at y;exact y) (al w inv.bel)
   have W:∀ t∈o.looksAt ops,b.tmps[t]?=a'.tmps[t]?:=by
    intro t D;rcases aq t with ⟨y,N⟩|⟨_,y⟩
    ·have ah:(G j).get t=none:=by
      cases hgt:(G j).get t with
      | none=>rfl
      | some T'=>exact (N (t,T') (mem_filter.2 ⟨Q9o hgt,by simpa using D⟩) rfl).elim
     have h3:=a8 t D;unfold okAt at h3;rw [ah] at h3;rw [y];exact h3
    exact y.symm
   have hw:Region.wanted o (yielded ops b.tmps)=true:=by rw [Q60 W];exact av
   rw [if_pos hw];left
   have U:=Q9r (ops:=ops) (Region.noSelect_spec H.nosel j o · · J) W;have K:∀ u w',Below w.heap.size w w'->T u w'->wpAny P .any ops Q O (L.setIfInBounds j true) (b.put o.dst u) w':=fun u w' I hT =>
    ab u w' I (fun t D=>by
     have aN:d=t:=by rw [hd] at D;exact Option.some.inj D
     subst aN;unfold okAt;rw [V];have:Env.get ((d,T)::G j) d=some T:=by simp [Env.get]
     rw [this,hd];exact ⟨u,Qhj _ _ _ (by rw [<-a9];exact aE),hT⟩)
   unfold Oper.wp;rw [U];generalize (execOp a'.eval o).run P w=r at z;cases r with
   | ok nx w' =>
    cases nx<;>simp only [Q2l] at z<;>simp only [Oper.upon]
    case value u=>exact K u w' z.1 z.2
    case skip=>exact K undef w' z.1 z.2
    case enter f args =>
     obtain ⟨M,hc⟩:=z;rw [M];exact hc.mono fun e w'' ⟨v,he,hT,I⟩=>by subst he;exact K v w'' I hT
   | halt x w'=>simp only [Q2l] at z
  obtain ⟨a',⟨av,z⟩,_,_,aq⟩:=Q3v (b:=b) (Q18 (G j) (o.looksAt ops)) (A j) _ a9 (fun p hp=>by
   obtain ⟨an,ao⟩:=mem_filter.1 hp;have y:=a8 p.1 (by simpa using ao);unfold okAt at y;rw [Q5d hst H Z j (by omega) p.1 p.2 an] at y;exact y) (al w inv.bel)
  have W:∀ t∈o.looksAt ops,b.tmps[t]?=a'.tmps[t]?:=by
   intro t D;rcases aq t with ⟨y,N⟩|⟨_,y⟩
   ·have ah:(G j).get t=none:=by
     cases hgt:(G j).get t with
     | none=>rfl
     | some T'=>exact (N (t,T') (mem_filter.2 ⟨Q9o hgt,by simpa using D⟩) rfl).elim
    have h3:=a8 t D;unfold okAt at h3;rw [ah] at h3;rw [y];exact h3
   exact y.symm
  have hw:Region.wanted o (yielded ops b.tmps)=true:=by rw [Q60 W];exact av
  rw [if_pos hw];left
  have U:=Q9r (ops:=ops) (Region.noSelect_spec H.nosel j o · · J) W;have K:∀ u w',Below w.heap.size w w'->u=X->wpAny P .any ops Q O (L.setIfInBounds j true) (b.put o.dst u) w':=fun u w' I hT =>
   ab u w' I (by rw [hT];exact ae X S V w')
  unfold Oper.wp;rw [U];generalize (execOp a'.eval o).run P w=r at z;cases r with
  | ok nx w' =>
   cases nx<;>simp only [Q2l] at z<;>simp only [Oper.upon]
   case value u=>exact K u w' z.1 z.2
   case skip=>exact K undef w' z.1 z.2
   case enter f args =>
    obtain ⟨M,hc⟩:=z;rw [M];exact hc.mono fun e w'' ⟨v,he,hT,I⟩=>by subst he;exact K v w'' I hT
  | halt x w'=>simp only [Q2l] at z
theorem Q03 (z:World)(n:Nat){T:Nat}{Q:Exit->Act->World->Prop}{a:Act}{w:World}{l:List Oper}(O:P.follows .mixedOrders=true)(K:Qkq l.toArray n=true)(y:Below z.heap.size z w)
  (h:wpX P l.toArray z (finX P l.toArray z Q n) (l.take n) a []):(Code.region T l.toArray true).wp P Q a w:=by
 refine wp_region_any O ?_;have H:=Qp5 K;obtain ⟨A,G,E,L,I,hst⟩:=seqX (l.take n) a [] h;have N:(l.take n).length=n:=by have:=H.le;simp at this;simp;omega
 rw [N] at I;have S:∀ j o,l.toArray[j]?=some o->j<n->Q72 P l.toArray z o (A j) (G j) (A (j+1)) (G (j+1)):=fun j o D M=>hst j o (by simpa [List.getElem?_take,M] using D);refine Qiw H S L I _ _ _ _ ⟨by simp,fun j D=>?_,⟨y.os,y.tape,y.output,y.size,y.block⟩,by rw [E],by rw [E],fun i _ J=>?_,fun t _=>by rw [E],fun i _=>getD_replicate_false _ _⟩ ?_
 ·rw [getD_replicate_false] at D;cases D
 ·rw [getD_replicate_false] at J;cases J
 have:∀ k,unl k (Array.replicate l.toArray.size false)=k:=by
  intro k;induction k with
  | zero=>rfl
  | succ k ih=>unfold unl;rw [ih,getD_replicate_false];simp
 rw [this];have:=H.le;omega
end
end
def In (S:World->Prop):Type:={ w:World // S w }
def In.val {S:World->Prop}(u:In S):World:=Subtype.val u
theorem In.held {S:World->Prop}(u:In S):S u.val:=u.property
section
variable {P:Program} {ops:Array Oper} {Q:Exit->Act->World->Prop} {S:World->Prop}
def Q8a (P:Program)(o:Oper)(a:Act)(w:World)(v:Value):Prop:=(execOp a.eval o).run P w=.ok (.value v) w
def Qeo (P:Program)(S:World->Prop)(o:Oper)(a:Act)(next:Act->Prop):Prop:=∃ v,(∀ u:In S,Q8a P o a u.val v)/\next (a.put o.dst v)
attribute [go_sem] Q8a Qeo
def wpH (P:Program)(ops:Array Oper)(S:World->Prop)(Q:Exit->Act->World->Prop)(n:Nat)(listed:Array Bool)(a:Act)(w:World):Prop:=wpAnyH P .any ops Q S n listed a w
theorem Q0w (S:World->Prop){z:Nat}{a:Act}{w:World}{l:List Oper}(y:P.follows .mixedOrders=true)
  (h:∀ w1,w1=w.drew->wpH P l.toArray S Q l.length (List.replicate l.length false).toArray a w1):(Code.region z l.toArray true).wp P Q a w :=
 wp_region_held y (by have:=h w.drew rfl;rw [List.toArray_replicate] at this;simpa [wpH] using this)
theorem Qop (i:Nat){y:Oper}{n:Nat}{D:Array Bool}{a:Act}{w:World}(G:ops[i]?=some y)
  (hs:(Region.noSelect ops&&Region.free .any ops D i&&(Region.ready .any ops D).contains i)=true)
  (hQ:∀ c a w,Q (.panic c) (a.put y.dst undef) w->Q (.panic c) a w) (hQ':∀ c (a:Act) v w,Q (.panic c) (a.put y.dst v) w->Q (.panic c) a w) (hS:S w)
  (h:∀ K:Act->Prop,(∀ a,wpH P ops S Q n (D.setIfInBounds i true) a w->K a)->if Region.wanted y (yielded ops a.tmps) then Qeo P S y a K else K (a.put y.dst undef)):wpH P ops S Q (n+1) D a w:=by
 simp only [Bool.and_eq_true] at hs;have E:=h (fun a=>wpH P ops S Q n (D.setIfInBounds i true) a w) (fun _ h=>h);by_cases z:Region.wanted y (yielded ops a.tmps)=true
 ·rw [if_pos z] at E;obtain ⟨v,I,H⟩:=E;exact wpAnyH_take G hs.1.1 hs.1.2 hs.2 (fun c a w=>hQ' c a v w) (.inl ⟨z,fun w z=>I ⟨w,z⟩⟩) hS H
 rw [if_neg z] at E;exact wpAnyH_take G hs.1.1 hs.1.2 hs.2 hQ (.inr ⟨by simpa using z,rfl⟩) hS E
theorem Qtk (i : Nat) {y : Oper} {n : Nat} {z : Array Bool} {a : Act} {w : World} (h : ∀ K : Act -> Prop, (∀ a, wpH P ops S Q n (z.setIfInBounds i true) a w -> K a) -> if Region.wanted y (yielded ops a.tmps) then Qeo P S y a K else K (a.put y.dst undef)) (H : ops[i]? = some y := by rfl) (I : (Region.noSelect ops && Region.free .any ops z i && (Region.ready .any ops z).contains i) = true := by kernel_rfl) (D : ∀ c a w, Q (.panic c) (a.put y.dst undef) w -> Q (.panic c) a w := by intro _ _ _ h; first | exact h | (cases h.1)) (E : ∀ c (a : Act) v w, Q (.panic c) (a.put y.dst v) w -> Q (.panic c) a w := by intro _ _ _ _ h; first | exact h | (cases h.1)) (G : S w := by assumption) : wpH P ops S Q (n + 1) z a w := Qop i H I D E G h
theorem Q0f (i:Nat){y:Oper}{n:Nat}{E:Array Bool}{a:Act}{w:World}(I:ops[i]?=some y)(L:Region.ready .any ops E=[i])
  (h:∀ K:Act->World->Prop,(∀ z w',S w'->wpH P ops S Q n (E.setIfInBounds i true) z w'->K z w')->if Region.wanted y (yielded ops a.tmps) then y.wp P a w K Q else K (a.put y.dst undef) w):wpH P ops S Q (n+1) E a w:=by
 refine wpAnyH_all L (by simp) fun j J=>?_;obtain rfl:j=i:=by simpa using J
 have D:=h (fun z w'=>S w'/\wpH P ops S Q n (E.setIfInBounds j true) z w') (fun _ _ G H=>⟨G,H⟩);unfold wpOp;simp only [I];by_cases hw:Region.wanted y (yielded ops a.tmps)=true
 ·rw [if_pos hw] at D |-;exact .inl D
 rw [if_neg hw] at D |-;exact D
def brH (P:Program)(ops:Array Oper)(S:World->Prop)(Q:Exit->Act->World->Prop)(n:Nat)(listed:Array Bool)(a:Act)(w:World)(i:Nat):Prop :=
 ∀ oi,ops[i]?=some oi->∀ K:Act->World->Prop,(∀ a' w',S w'->wpH P ops S Q n (listed.setIfInBounds i true) a' w'->K a' w')->if Region.wanted oi (yielded ops a.tmps) then oi.wp P a w K Q else K (a.put oi.dst undef) w
theorem Q31 {i:Nat}{y:Oper}{n:Nat}{D:Array Bool}{a:Act}{w:World}(E:ops[i]?=some y)
  (h:∀ K:Act->World->Prop,(∀ a' w',S w'->wpH P ops S Q n (D.setIfInBounds i true) a' w'->K a' w')->if Region.wanted y (yielded ops a.tmps) then y.wp P a w K Q else K (a.put y.dst undef) w):brH P ops S Q n D a w i:=by
 intro o z;rw [E] at z;obtain rfl:y=o:=by simpa using z
 exact h
theorem Q4q (D:List Nat){n:Nat}{y:Array Bool}{a:Act}{w:World}(H:Region.ready .any ops y=D)(M:D≠[])(h:∀ i∈D,brH P ops S Q n y a w i):wpH P ops S Q (n+1) y a w:=by
 refine wpAnyH_all H M fun j E=>?_;have L:j∈Region.ready .any ops y:=by rw [H];exact E
 obtain ⟨_,o,G,_⟩:=mem_ready.1 L;have z:=h j E o G (fun I w'=>S w'/\wpH P ops S Q n (y.setIfInBounds j true) I w') (fun _ _ J K=>⟨J,K⟩);unfold wpOp;simp only [G];by_cases hw:Region.wanted o (yielded ops a.tmps)=true
 ·rw [if_pos hw] at z |-;exact .inl z
 rw [if_neg hw] at z |-;exact z
theorem Q1g {y:Nat}{d:Bool}{a:Act}{w:World}(R:Act->Act->World->Prop)(z:(Code.region y ops d).wp P (fun e b w'=>e=.normal/\R a b w') a w)(D:∀ b w',R a b w'->Q .normal b w'):(Code.region y ops d).wp P Q a w :=
 Code.wp_mono (fun e b w' h=>by obtain ⟨rfl,h⟩:=h;exact D _ _ h) z
theorem Q1j {o:Oper}{a:Act}{w:World}{K:Act->World->Prop}{E:Prop}(G:o.guard=none)(z:TypeId)(x y:Operand)(I:o.op=.store z x y)
  (g:Nat) (cs:List Value) (hx:a.eval x=.pointer (some ⟨g,0,none⟩)) (hy:a.eval y=.agg cs.toArray) {n:Nat}(hty:Agg P z n) {e:TypeId} {old:List Value}(hb:Blk e w g old) (hn:cs.length=n) (ho2:old.length=n)
  (h1:∀ u∈cs,u.oneCell'=true) (h:∀ w',Blk e w' g cs->Below g w w'->w.grownBy w' (some g)->K (a.put o.dst undef) w'):if Region.wanted o (yielded ops a.tmps) then o.wp P a w K Q else E:=by
 have J:Region.wanted o (yielded ops a.tmps)=true:=by simp [Region.wanted,G]
 rw [if_pos J];obtain ⟨d,_,_,D⟩:=hty;refine wp_store_row z x y I g cs.toArray hx hy e old.toArray hb (by rw [D];simp [hn]) (by simp [hn,ho2]) (by rw [Array.all_eq_true_iff_forall_mem];simpa using h1) ?_;refine h _ ?_ (below_setRow (Below.refl _ _) (le_refl _) _) ⟨rfl,rfl,rfl,by simp,fun k _ H=>setRow_other w g k _ (fun e=>H (by rw [e]))⟩;exact setRow_heap w g _ _ e _ hb
theorem Q78 {o:Oper}{a:Act}{K:Act->Prop}{E:Prop}(G:o.guard=none)(y:TypeId)(x:Operand)(H:o.op=.load y x)(g:Nat)(L:a.eval x=.pointer (some ⟨g,0,none⟩)){n:Nat}(I:Agg P y n)
  {e:TypeId} {cs:List Value}(hb:∀ u,S u->Blk e u g cs) (hn:cs.length=n) (h:K (a.put o.dst (.agg cs.toArray))):if Region.wanted o (yielded ops a.tmps) then Qeo P S o a K else E:=by
 have J:Region.wanted o (yielded ops a.tmps)=true:=by simp [Region.wanted,G]
 rw [if_pos J];refine ⟨_,fun u=>?_,h⟩;obtain ⟨d,z,M,D⟩:=I;unfold Q8a execOp;simp only [H,L,Instr.loadAt,Instr.sureAddr,Sem.run_bind,Sem.run_pure,Result.andThen_ok,run_loadVar_row (P:=P) u.val g e y cs.toArray (0,0) d (hb _ u.held) z (by cases d<;>simp_all) (by rw [D];simp [hn])]
theorem Q11 {y:Array Bool}{a:Act}{w:World}{n:Nat}(z:Region.ready .any ops y=[])(h:Q .normal a w):wpH P ops S Q n y a w :=
 wpAnyH_done z h n
end
def One {α:Type}(f:α->List Value)(c1:α->Value):Prop:=∀ x,f x=[c1 x]
theorem Qtq:One b8 u8v:=fun _=>rfl
theorem One.map {α:Type}{f:α->List Value}{c1:α->Value}(h:One f c1)(l:List α):l.flatMap f=l.map c1:=by
 induction l with
 | nil=>rfl
 | cons x l ih=>rw [List.flatMap_cons,h,ih];rfl
section
variable {α:Type} {f:α->List Value} {c1:α->Value}
theorem Q08.lies {e:TypeId}{w:World}{B n c:Nat}{a:Option Addr}{l:List α}(h:Q08 f 1 e w B (.slice a n c) l)(H:0<n):∃ g,a=some ⟨g,0,none⟩/\B<=g/\g<w.heap.size:=by
 obtain ⟨G,y⟩:=h;rcases y with ⟨y,z⟩|⟨g,cap,E,y,z,D,_⟩
 ·simp only [Value.slice.injEq] at y;omega
 simp only [Value.slice.injEq] at y;exact ⟨g,y.1,z,(Array.getElem?_eq_some_iff.1 D).1⟩
theorem Q08.blk (K:One f c1){e:TypeId}{w:World}{B g n c:Nat}{l:List α}(h:Q08 f 1 e w B (.slice (some ⟨g,0,none⟩) n c) l) :
  ∃ cs,Blk e w g cs/\cs.length=c/\n<=c/\B<=g/\cs.take n=l.map c1/\n=l.length/\c<=maxLen:=by
 obtain ⟨M,y⟩:=h;rcases y with ⟨y,z⟩|⟨L,cap,D,y,z,E,G,H,I,J⟩
 ·simp only [Value.slice.injEq] at y;cases y.1
 simp only [Value.slice.injEq,Option.some.injEq,Addr.mk.injEq,and_true] at y;obtain ⟨rfl,rfl,rfl⟩:=y;refine ⟨D.toList,?_,by rw [Array.length_toList,I];omega,G,z,?_,rfl,H⟩
 ·unfold Blk;simpa using E
 rw [<-K.map,<-J,mul_one]
theorem Q08.ofBlk (y:One f c1){e:TypeId}{w:World}{B g n c:Nat}{l:List α}{cs:List Value}(h:Blk e w g cs)(D:cs.length=c)(H:n<=c)(z:B<=g)(I:cs.take n=l.map c1)(E:n=l.length)(G:c<=maxLen) :
  Q08 f 1 e w B (.slice (some ⟨g,0,none⟩) n c) l:=by
 subst E;refine ⟨by rw [y.map,List.length_map,mul_one],.inr ⟨g,c,cs.toArray,rfl,z,h,H,G,by simpa using D,?_⟩⟩;rw [y.map,mul_one];exact I
theorem Q08.cellAt (D:One f c1){e:TypeId}{w:World}{B g n c:Nat}{l:List α}(h:Q08 f 1 e w B (.slice (some ⟨g,0,none⟩) n c) l)(k:Nat)(x:α)(y:l[k]?=some x):w.cell? ⟨g,k,none⟩=some (c1 x):=by
 obtain ⟨cs,z,H,J,_,E,I,_⟩:=h.blk D;have G:=(List.getElem?_eq_some_iff.1 y).1;rw [z.cell];have:(cs.take n)[k]?=(l.map c1)[k]?:=by rw [E]
 rw [List.getElem?_take,if_pos (by omega),List.getElem?_map,y] at this;exact this
theorem Q08.put (y:One f c1){e:TypeId}{w:World}{B g n c:Nat}{l:List α}(h:Q08 f 1 e w B (.slice (some ⟨g,0,none⟩) n c) l)(k:Nat)(x:α) :
  Q08 f 1 e (w.setCell ⟨g,k,none⟩ (c1 x)) B (.slice (some ⟨g,0,none⟩) n c) (l.set k x):=by
 obtain ⟨cs,D,E,I,z,J,H,G⟩:=h.blk y;exact Q08.ofBlk y (D.set k (c1 x)) (by simpa using E) I z (by rw [List.take_set,J,List.map_set]) (by simpa using H) G
theorem Q08.has (z:One f c1){e:TypeId}{w:World}{B g n c:Nat}{l:List α}(h:Q08 f 1 e w B (.slice (some ⟨g,0,none⟩) n c) l)(k:Nat)(D:k<n):(∃ u,w.cell? ⟨g,k,none⟩=some u)/\w.frozen? ⟨g,k,none⟩=false:=by
 obtain ⟨cs,y,E,G,_⟩:=h.blk z;exact ⟨y.has k (by omega),y.free k⟩
end
theorem Q01 {P:Program}{D:Func}{p u:Tmp}{z:TypeId}(h:D.results=#[.cell p z,.tmp u])(y:Array Value)(w:World)(g:Nat){n:Nat}(J:Agg P z n){e:TypeId}{cs:List Value}(H:Blk e w g cs)(I:cs.length=n)
  (hp:y.getD p undef=.pointer (some ⟨g,0,none⟩)) {x:Value}(hx:y.getD u undef=x):(results D y).run P w=.ok (.tuple #[.agg cs.toArray,x]) w:=by
 obtain ⟨d,E,K,G⟩:=J;rw [results_cell_tmp h,hp];simp only [asAddr,Sem.run_pure,Result.andThen_ok];rw [run_loadVar_row (P:=P) w g e z cs.toArray (0,0) d H E (by cases d<;>simp_all) (by rw [G];simp [I]),hx];rfl
theorem Q08.grown {α:Type}{f:α->List Value}{size:Nat}{e:TypeId}{w w':World}{B:Nat}{v:Value}{l:List α}{row:Option Nat}(h:Q08 f size e w B v l)(hg:w.grownBy w' row)(hne:∀ k,row=some k->v.ownBlock≠some k):Q08 f size e w' B v l:=by
 refine World.ownsRow.kept h hg ?_;cases hv:v.ownBlock with
 | none=>exact .inl rfl
 | some k =>
  right
  intro y;cases hr:row with
  | none=>rw [hr] at y;simp at y
  | some q=>exact hne q hr (hv.trans (y.trans hr))
theorem Q08.lower {α:Type}{f:α->List Value}{size:Nat}{e:TypeId}{w:World}{B B':Nat}{v:Value}{l:List α}(h:Q08 f size e w B v l)(hB:B'<=B):Q08 f size e w B' v l:=by
 refine ⟨h.1,?_⟩;rcases h.2 with y|⟨g,cap,z,y,D,E⟩
 ·exact .inl y
 exact .inr ⟨g,cap,z,y,Nat.le_trans hB D,E⟩
theorem Q0x {α:Type}{f:α->List Value}{P:Program}{w:World}{ops:Array Oper}{rest:List Oper}{o:Oper}{a:Act}{Q:Exit->Act->World->Prop}(hgd:o.guard=none)(s x:Operand)(t:TypeId)
  (ho:o.op=.call { callee:=.builtin .append,args:=#[s,x],argTypes:=#[t,t] })
  {e:TypeId} {z:Value} {size bytes:Nat}(el:El P t e z size bytes f) {B:Nat}
  {v:Value} {l m:List α}(hs:a.eval s=v) (hown:Q08 f size e w B v l)
  {u:Value}(hx:a.eval x=u) (hrow:Q05 f size w u m) (hB:B<=w.heap.size)
  (hbytes:(l.length+m.length)*bytes<=140737488355328) (h63:l.length+m.length<=maxLen)
  (h:∀ G w',Q08 f size e w' B G (l++m)->w.grownBy w' v.ownBlock->(∀ k,G.ownBlock=some k->v.ownBlock=some k∨w.heap.size<=k)->wpList P ops Q rest (a.put o.dst G) w'):wpList P ops Q (o::rest) a w:=by
 obtain ⟨i,J,U,S,O⟩:=el.info;obtain ⟨M,Z,c,rfl,_,_,I⟩:=hrow;rcases I with ⟨rfl,H,rfl⟩|⟨b,off,L,rfl,T,I⟩
 ·obtain rfl:m=[]:=eq_nil_of_length_eq_zero H;refine wpList_append_own_none hgd s x t ho B e i size el.ht J v _ _ hs hown hx ?_;exact h v w (by simpa using hown) ⟨rfl,rfl,rfl,le_refl _,fun _ _ _=>rfl⟩ (fun k D=>.inl D)
 refine wpList_append_own_at w hgd s x t ho B e i z size bytes el.ht J U S O el.hzs el.hsz v _ _ hs hown ⟨b,off,L⟩ _ c _ hx M (fun j y K=>?_) (el.one m) h63 hbytes hB
  (fun G w' V W _ E=>h G w' (by unfold Q08;rw [length_append,flatMap_append];exact V) W (fun k D=>by
   rcases E with E|E
   ·exact .inl (E▸D)
   rw [E] at D;cases D;exact .inr (le_refl _)))
 by_cases H:m.length=0
 ·obtain rfl:m=[]:=eq_nil_of_length_eq_zero H;simp at K
 obtain rfl:L=none:=T.resolve_right H;have N:(⟨b,off,none⟩:Addr).add j=⟨b,off+j,none⟩:=by unfold Addr.add;split<;>simp_all
 rw [N];exact I j y K
structure El0 {α:Type}(P:Program)(t e:TypeId)(z:Value)(size bytes:Nat)(f:α->List Value):Prop where
 ht:P.underlying t=some (.slice e)
 hi:(P.info? e).map (fun i=>(i.zero,i.size,i.bytes))=some (some z,size,bytes)
 hzs:z.cells.size=size
 hsz:0<size
 hf:∀ x,(f x).length=size
theorem El0.info {α:Type}{P:Program}{t e:TypeId}{z:Value}{size bytes:Nat}{f:α->List Value}(h:El0 P t e z size bytes f):∃ i,P.info? e=some i/\i.zero=some z/\i.size=size/\i.bytes=bytes:=by
 have:=h.hi;cases hh:P.info? e with
 | none=>simp [hh] at this
 | some i=>simp [hh] at this;exact ⟨i,rfl,this⟩
theorem Q0t {α:Type}{f:α->List Value}{P:Program}{w:World}{ops:Array Oper}{rest:List Oper}{o:Oper}{a:Act}{Q:Exit->Act->World->Prop}(hgd:o.guard=none)(s x:Operand)(t:TypeId)
  (ho:o.op=.call { callee:=.builtin .append,args:=#[s,x],argTypes:=#[t,t] })
  {e:TypeId} {z:Value} {size bytes:Nat}(el:El0 P t e z size bytes f) {B:Nat}
  {v:Value} {l m:List α}(h1:∀ u∈m.flatMap f,u.oneCell'=true) (hs:a.eval s=v) (hown:Q08 f size e w B v l)
  {u:Value}(hx:a.eval x=u) (hrow:Q05 f size w u m) (hB:B<=w.heap.size)
  (hbytes:(l.length+m.length)*bytes<=140737488355328) (h63:l.length+m.length<=maxLen)
  (h:∀ G w',Q08 f size e w' B G (l++m)->w.grownBy w' v.ownBlock->(∀ k,G.ownBlock=some k->v.ownBlock=some k∨w.heap.size<=k)->wpList P ops Q rest (a.put o.dst G) w'):wpList P ops Q (o::rest) a w:=by
 obtain ⟨i,J,U,S,O⟩:=el.info;obtain ⟨M,Z,c,rfl,_,_,I⟩:=hrow;rcases I with ⟨rfl,H,rfl⟩|⟨b,off,L,rfl,T,I⟩
 ·obtain rfl:m=[]:=eq_nil_of_length_eq_zero H;refine wpList_append_own_none hgd s x t ho B e i size el.ht J v _ _ hs hown hx ?_;exact h v w (by simpa using hown) ⟨rfl,rfl,rfl,le_refl _,fun _ _ _=>rfl⟩ (fun k D=>.inl D)
 refine wpList_append_own_at w hgd s x t ho B e i z size bytes el.ht J U S O el.hzs el.hsz v _ _ hs hown ⟨b,off,L⟩ _ c _ hx M (fun j y K=>?_) h1 h63 hbytes hB
  (fun G w' V W _ E=>h G w' (by unfold Q08;rw [length_append,flatMap_append];exact V) W (fun k D=>by
   rcases E with E|E
   ·exact .inl (E▸D)
   rw [E] at D;cases D;exact .inr (le_refl _)))
 by_cases H:m.length=0
 ·obtain rfl:m=[]:=eq_nil_of_length_eq_zero H;simp at K
 obtain rfl:L=none:=T.resolve_right H;have N:(⟨b,off,none⟩:Addr).add j=⟨b,off+j,none⟩:=by unfold Addr.add;split<;>simp_all
 rw [N];exact I j y K
theorem Qbg {α:Type}{f:α->List Value}{P:Program}{w:World}{ops:Array Oper}{rest:List Oper}{o:Oper}{a:Act}{Q:Exit->Act->World->Prop}(hgd:o.guard=none)(t:TypeId)(n:Nat)(parts:Array (Nat × Operand))
  (ho:o.op=.buildSlice t n parts) {e:TypeId} {z:Value} {size bytes:Nat}(el:El0 P t e z size bytes f) (l:List α) (vs:List Value) (hl:l.length=n) (hv:(parts.map fun (i,x)=>(i,a.eval x)).toList=(vs.zipIdx 0).map fun x=>(x.2,x.1))
  (hc:vs.map (fun v=>v.cells.toList)=l.map f) (hn:0<n) (hs:n*size<=16777216)
  (h:wpList P ops Q rest (a.put o.dst (.slice (some ⟨w.heap.size,0,none⟩) n n)) (w.alloc (.cells (l.flatMap f).toArray e))):wpList P ops Q (o::rest) a w:=by
 obtain ⟨i,J,O,D,_⟩:=el.info;have E:=el.hsz;have S:0<n*size:=Nat.mul_pos hn E;refine wpList_buildSlice hgd t e n parts ho (l.flatMap f).toArray i z el.ht J O (by rw [D];omega) (by rw [D];omega) ?_ h;have L:vs.length=n:=by
  have:=congrArg List.length hc;simp only [List.length_map] at this;omega
 have M:∀ u∈vs,u.cells.size=size:=by
  intro u K;have H:u.cells.toList∈l.map f:=by rw [<-hc];exact mem_map.2 ⟨u,K,rfl⟩
  obtain ⟨y,_,N⟩:=mem_map.1 H;have:=el.hf y;rw [N] at this;simpa using this
 have I:=Great.fill_whole (s:=size) E vs ((Array.range (n*size)).map (z.cells[· % z.cells.size]!)) M (by simp [L]);have G:vs.flatMap (fun v=>v.cells.toList)=l.flatMap f:=by
  rw [List.flatMap_def,List.flatMap_def,hc]
 rw [D,hv,I,G]
theorem D02 {α:Type}{f:α->List Value}{size:Nat}(hf:∀ x,(f x).length=size)(w:World)(e:TypeId)(l:List α)(n:Nat)(hl:l.length=n)(hm:n<=maxLen):Q05 f size (w.alloc (.cells (l.flatMap f).toArray e)) (.slice (some ⟨w.heap.size,0,none⟩) n n) l:=by
 subst hl;exact Row.made w size (l.flatMap f) e l.length (Q28 hf l) hm
theorem Q25 {α:Type}{f:α->List Value}{P:Program}{w:World}{ops:Array Oper}{rest:List Oper}{o:Oper}{a:Act}{Q:Exit->Act->World->Prop}(hgd:o.guard=none)(x:Operand)(t:TypeId)
  (ho:o.op=.buildSlice t 1 #[(0,x)]) {e:TypeId} {z:Value} {size bytes:Nat}(el:El P t e z size bytes f) (v:Value) (C:List Value) (hx:a.eval x=v) (hv:v.cells=C.toArray) (hC:C.length=size) (hs:size<=16777216)
  (h:wpList P ops Q rest (a.put o.dst (.slice (some ⟨w.heap.size,0,none⟩) 1 1)) (w.alloc (.cells C.toArray e))):wpList P ops Q (o::rest) a w:=by
 obtain ⟨i,H,J,y,_⟩:=el.info;have I:=el.hsz;refine wpList_buildSlice hgd t e 1 #[(0,x)] ho C.toArray i z el.ht H J (by rw [y];omega) (by rw [y];omega) ?_ h;have D:=Great.fill_whole (s:=size) I [v] ((Array.range (1*size)).map (z.cells[· % z.cells.size]!)) (fun u E=>by rw [List.mem_singleton] at E;rw [E,hv];simpa using hC) (by simp);rw [y];have G:([v].flatMap fun v=>v.cells.toList).toArray=C.toArray:=by simp [hv]
 rw [G] at D;rw [<-D];simp [hx]
theorem Q05.grownNe {α:Type}{f:α->List Value}{size:Nat}{w w':World}{b off n c g:Nat}{s:Option Nat}{l:List α}(h:Q05 f size w (.slice (some ⟨b,off,s⟩) n c) l)(hg:w.grownBy w' (some g))(hne:b≠g):Q05 f size w' (.slice (some ⟨b,off,s⟩) n c) l:=by
 obtain ⟨E,a,T,D,G,H,I⟩:=h;simp only [Value.slice.injEq] at D;obtain ⟨rfl,M,rfl⟩:=D;refine ⟨E,_,_,by rw [M],G,H,?_⟩;rcases I with ⟨J,_⟩|⟨S,U,V,z,N,K⟩
 ·simp at J
 simp only [Option.some.injEq,Addr.mk.injEq] at z;obtain ⟨rfl,rfl,rfl⟩:=z;refine .inr ⟨_,_,_,rfl,N,fun j u O=>?_⟩;have y:=K j u O;have L:=World.block_lt_of_cell? w _ y;rw [<-y];exact World.cell?_of_block (w:=w) (hg.block b L (by simpa using hne))
theorem Q02.off {w w':World}{a:Option Addr}{n c g:Nat}{l:List UInt8}{e:TypeId}{cs:List Value}(h:Q02 w (.slice a n c) l)(W:Blk e w g cs)(S:∀ u∈cs,∀ k,u≠.int .u8 k)(O:w.grownBy w' (some g)):Q02 w' (.slice a n c) l:=by
 cases a with
 | none =>
  obtain ⟨E,a,M,D,G,H,z⟩:=h;simp only [Value.slice.injEq] at D;obtain ⟨rfl,J,rfl⟩:=D;refine ⟨E,none,_,by rw [J],G,H,.inl ?_⟩;rcases z with z|⟨_,_,_,y,_⟩
  ·exact z
  simp at y
 | some p =>
  obtain ⟨b,off,s⟩:=p;by_cases hb:b=g
  ·subst hb;by_cases hl:l=[]
   ·subst hl;obtain ⟨E,a,M,D,G,H,z⟩:=h;simp only [Value.slice.injEq] at D;obtain ⟨rfl,J,rfl⟩:=D;refine ⟨E,_,_,by rw [J],G,H,?_⟩;rcases z with ⟨N,_⟩|⟨K,L,Z,y,U,I⟩
    ·simp at N
    exact .inr ⟨K,L,Z,y,U,fun j u V=>by simp at V⟩
   exfalso;have T:0<l.length:=by cases l with
    | nil=>exact absurd rfl hl
    | cons x l=>simp
   obtain ⟨K,L,y,I⟩:=Q02.at h 0 T;simp only [Option.some.injEq,Addr.mk.injEq] at y;obtain ⟨rfl,rfl,_⟩:=y;rw [W.cell] at I;exact S _ (List.mem_of_getElem? I) _ rfl
  exact h.grownNe O hb
theorem Q02.off_v {w w':World}{v:Value}{g:Nat}{l:List UInt8}{e:TypeId}{cs:List Value}(h:Q02 w v l)(D:Blk e w g cs)(z:∀ u∈cs,∀ k,u≠.int .u8 k)(y:w.grownBy w' (some g)):Q02 w' v l:=by
 obtain ⟨a,c,rfl,_,_⟩:=Q05.form h;exact Q02.off h D z y
theorem Q0s {w:World}{g:Nat}(k:Nat)(x:Value):w.grownBy (w.setCell ⟨g,k,none⟩ x) (some g) :=
 ⟨rfl,rfl,rfl,by simp,fun i y h=>heap_setCell_other w _ i _ (by simpa using h)⟩
theorem Q0o {α:Type}{f:α->List Value}{P:Program}{w:World}{ops:Array Oper}{rest:List Oper}{o:Oper}{a:Act}{Q:Exit->Act->World->Prop}(hgd:o.guard=none)(t:TypeId)(n:Nat)(ps:List (Nat × Operand))
  (ho:o.op=.buildSlice t n ps.toArray) {e:TypeId} {z:Value} {size bytes:Nat}(el:El0 P t e z size bytes f) (l:List α) (vs:List Value) (hl:l.length=n) (hv:(ps.map fun x=>(x.1,a.eval x.2))=(vs.zipIdx 0).map fun x=>(x.2,x.1))
  (hc:vs.map (fun v=>v.cells.toList)=l.map f) (hn:0<n) (hs:n*size<=16777216)
  (h:∀ w',Blk e w' w.heap.size (l.flatMap f)->Q05 f size w' (.slice (some ⟨w.heap.size,0,none⟩) n n) l->Below w.heap.size w w'->wpList P ops Q rest (a.put o.dst (.slice (some ⟨w.heap.size,0,none⟩) n n)) w'):wpList P ops Q (o::rest) a w:=by
 have D:=el.hsz;have y:n<=maxLen:=by
  have:n*1<=n*size:=Nat.mul_le_mul_left _ D;unfold maxLen;omega
 exact Qbg hgd t n ps.toArray ho el l vs hl (by rw [<-hv];simp) hc hn hs (h _ (D01 w e _) (D02 el.hf w e l n hl y) (Qba _ _))
theorem Q16 {P:Program}{o:Oper}{a:Act}{w:World}(h:TypeId)(x:Operand)(G:o.op=.load h x)(b off:Nat)(I:a.eval x=.pointer (some ⟨b,off,none⟩)){n:Nat}(H:Agg P h n){cs:List Value}(E:cs.length=n)(D:w.rangeAt b off cs) :
  Q58 P o a w (.agg cs.toArray):=by
 obtain ⟨d,y,J,z⟩:=H;unfold Q58 execOp;simp only [G,I,Instr.loadAt,Instr.sureAddr,Sem.run_bind,Sem.run_pure,Result.andThen_ok,run_loadVar_mid (P:=P) w b off h cs d D y (by cases d<;>simp_all) (by rw [z,E])];exact ⟨rfl,rfl⟩
theorem Qen {P:Program}{o:Oper}{a:Act}{w:World}{v z u:Value}(h:TypeId)(x y:Operand)(t:TypeId)(D:o.op=.binOp .neq h x y t)(E:a.eval x=v)(G:a.eval y=z)
  (hg:∀ o1 o2 w1,(eqGuard .neq h o1 o2 v z).run P w1=.ok () w1) (hq:∀ w1,(binOp .neq h v z).run P w1=.ok u w1):Q58 P o a w u:=by
 unfold Q58 execOp;simp only [D,E,G,Sem.run_bind,hg,hq,Result.andThen_ok,Sem.run_pure];exact ⟨rfl,rfl⟩
theorem Q05.range {α:Type}{f:α->List Value}{size:Nat}(hf:∀ x,(f x).length=size){w:World}{a:Option Addr}{n c:Nat}{l:List α}(h:Q05 f size w (.slice a n c) l)(k:Nat)(hk:k<l.length) :
  ∃ b off,a=some ⟨b,off,none⟩/\w.rangeAt b (off+k*size) (f l[k]):=by
 obtain ⟨b,off,y,z⟩:=h.cells hf k hk;exact ⟨b,off,y,fun j v D=>by rw [add_assoc];exact z j v D⟩
theorem World.rangeAt.below {w w':World}{b o:Nat}{cs:List Value}(h:w.rangeAt b o cs)(y:Below w.heap.size w w'):w'.rangeAt b o cs:=fun j v hv=>by
 have:=h j v hv;rw [y.cell (World.block_lt_of_cell? w _ this)];exact this
theorem rangeAt.ext {w:World}{b o:Nat}{cs:List Value}(h:w.rangeAt b o cs)(u:Ext w):u.val.rangeAt b o cs:=World.rangeAt.below h u.property
theorem Qdf {P:Program}{w:World}{ops:Array Oper}{z:List Oper}{o:Oper}{a:Act}{Q:Exit->Act->World->Prop}(y:TypeId)(x:Operand)(H:o.op=.load y x)(b off:Nat)(I:a.eval x=.pointer (some ⟨b,off,none⟩))
  {n:Nat}(hty:Agg P y n) {cs:List Value}(hn:cs.length=n) (hc:w.rangeAt b off cs) (hw:Region.wanted o (yielded ops a.tmps)=true)
  (h:wpList P ops Q z (a.put o.dst (.agg cs.toArray)) w):wpList P ops Q (o::z) a w:=by
 obtain ⟨d,D,J,E⟩:=hty;refine wpList_step fun K G=>?_;rw [if_pos hw];exact wp_load_mid y x H b off I cs d hc D (by cases d<;>simp_all) (by rw [E,hn]) (G _ _ h)
theorem Qlw {P : Program} {w : World} {ops : Array Oper} {E : List Oper} {a : Act} {Q : Exit -> Act -> World -> Prop} {d : Option Tmp} {t' : TypeId} {ps : String} {z : Array Edge} {D : Option (Tmp × Bool)} (y : TypeId) (x : Nat) (b off : Nat) {n : Nat} (I : Agg P y n) {cs : List Value} (H : cs.length = n) (G : w.rangeAt b off cs) (h : wpList P ops Q E (a.put d (.agg cs.toArray)) w) (K : a.eval (.tmp x) = .pointer (some ⟨b, off, none⟩) := by rfl) (J : Region.wanted ⟨d, .load y (.tmp x), t', ps, z, D⟩ (yielded ops a.tmps) = true := by rfl) : wpList P ops Q (⟨d, .load y (.tmp x), t', ps, z, D⟩ :: E) a w := Qdf (o := ⟨d, .load y (.tmp x), t', ps, z, D⟩) y _ rfl b off K I H G J h
theorem Q8o {α:Type}{f:α->List Value}{P:Program}{w:World}{ops:Array Oper}{o:Oper}{a:Act}{K:Act->World->Prop}{Q:Exit->Act->World->Prop}{E:Prop}(hgd:o.guard=none)(s x:Operand)(t:TypeId)
  (ho:o.op=.call { callee:=.builtin .append,args:=#[s,x],argTypes:=#[t,t] })
  {e:TypeId} {z:Value} {size bytes:Nat}(el:El0 P t e z size bytes f) {B:Nat}
  {v:Value} {l m:List α}(h1:∀ u∈m.flatMap f,u.oneCell'=true) (hs:a.eval s=v) (hown:Q08 f size e w B v l)
  {u:Value}(hx:a.eval x=u) (hrow:Q05 f size w u m) (hB:B<=w.heap.size)
  (hbytes:(l.length+m.length)*bytes<=140737488355328) (h63:l.length+m.length<=maxLen)
  (h:∀ H w',Q08 f size e w' B H (l++m)->w.grownBy w' v.ownBlock->(∀ k,H.ownBlock=some k->v.ownBlock=some k∨w.heap.size<=k)->K (a.put o.dst H) w'):if Region.wanted o (yielded ops a.tmps) then o.wp P a w K Q else E:=by
 have hw:Region.wanted o (yielded ops a.tmps)=true:=by simp [Region.wanted,hgd]
 rw [if_pos hw];obtain ⟨i,M,hz,a0,T⟩:=el.info;obtain ⟨O,ad,c,rfl,_,_,J⟩:=hrow;rcases J with ⟨rfl,I,rfl⟩|⟨b,off,L,rfl,a1,J⟩
 ·obtain rfl:m=[]:=eq_nil_of_length_eq_zero I;have Z:=run_append_owned_none (P:=P) (w:=w) B t o.type e i size el.ht M v _ _ hown;have U:=h v w (by simpa using hown) ⟨rfl,rfl,rfl,le_refl _,fun _ _ _=>rfl⟩ (fun k D=>.inl D);unfold Oper.wp;simp only [List.length_nil] at hx;simp [execOp,ho,resolve,invoke,builtin,hs,hx,Z,Result.andThen];exact U
 have V:∀ j y,(m.flatMap f)[j]?=some y->w.cell? ((⟨b,off,L⟩:Addr).add j)=some y:=by
  intro j y N;by_cases I:m.length=0
  ·obtain rfl:m=[]:=eq_nil_of_length_eq_zero I;simp at N
  obtain rfl:L=none:=a1.resolve_right I;have S:(⟨b,off,none⟩:Addr).add j=⟨b,off+j,none⟩:=by unfold Addr.add;split<;>simp_all
  rw [S];exact J j y N
 obtain ⟨H,w',W,k1,k2,_,G⟩:=run_append_own_at (P:=P) w B t o.type e i z size bytes el.ht M hz a0 T el.hzs el.hsz v _ _ hown ⟨b,off,L⟩ _ c _ O V h1 h63 hbytes hB;unfold Oper.wp execOp;simp only [ho,resolve,invoke,builtin,Sem.run_bind,Sem.run_pure,Result.andThen_ok,List.map_toArray,map_cons,List.map_nil,hs,hx,W];exact h H w' (by unfold Q08;rw [length_append,flatMap_append];exact k1) k2 (fun k D=>by
  rcases G with G|G
  ·exact .inl (G▸D)
  rw [G] at D;cases D;exact .inr (le_refl _))
theorem Qd4 (w:World)(e:TypeId)(l:List UInt8)(E:l.length<=maxLen) :
  Q02 (Lib.bytesWorld w e ⟨l.toArray⟩) (.slice (some ⟨w.heap.size,0,none⟩) l.length (grownCap w l.length 0 e)) l/\Below w.heap.size w (Lib.bytesWorld w e ⟨l.toArray⟩):=by
 refine ⟨⟨Q28 (f:=b8) (size:=1) (fun _=>rfl) l,_,_,rfl,grownCap_ge _ _ _ _,grownCap_le_maxLen _ _ _ _ E,.inr ⟨_,0,none,rfl,.inl rfl,fun j u h=>?_⟩⟩,?_⟩
 ·rw [Q22,List.getElem?_map] at h;obtain ⟨x,y,rfl⟩:=Option.map_eq_some_iff.1 h;have z:=(List.getElem?_eq_some_iff.1 y).1;rw [zero_add,Lib.bytesWorld_cell w e ⟨l.toArray⟩ j (by simpa [ByteArray.size] using z)];simp [u8v,List.getD,y]
 refine ⟨?_,?_,?_,by rw [Lib.bytesWorld_size];omega,fun k D=>Lib.bytesWorld_at_old w e _ k D⟩<;>rfl
theorem Q2t {P:Program}{w:World}{ops:Array Oper}{z:List Oper}{o:Oper}{a:Act}{Q:Exit->Act->World->Prop}(E:o.guard=none)(src dst:TypeId)(x:Operand)
  (ho:o.op=.convert src dst x) {e:TypeId}(hs:P.underlying src=some .string) (hd:P.underlying dst=some (.slice e)) (he:P.underlying e=some (.int .u8)) (l:List UInt8) (hx:a.eval x=str l) (hl:l.length<=maxLen)
  (h:∀ v' w',Q02 w' v' l->Below w.heap.size w w'->wpList P ops Q z (a.put o.dst v') w'):wpList P ops Q (o::z) a w:=by
 refine wpList_plain E fun K D=>?_;have G:=Lib.run_convert_string_bytes (P:=P) w src dst e ⟨l.toArray⟩ hs hd he;have y:=Qd4 w e l hl;unfold Oper.wp execOp;unfold str at hx;simp only [ho,hx,G,Sem.run_bind,Result.andThen_ok,Sem.run_pure];exact D _ _ (h _ _ y.1 y.2)
section
variable {P:Program} (w:World)
theorem Q4u {e:TypeId}{k:IntKind}(z:P.underlying e=some (.int k))(h:List Int)(i:Nat)(D:i<h.length) :
  (part e (h.map (Value.int k)).toArray i).run P w=.ok (.int k h[i]) w:=by
 have y:(isAgg e).run P w=.ok false w:=by
  unfold isAgg;rw [Sem.run_bind,run_underlying z w];simp
 unfold part;rw [Sem.run_bind,y];simp [D]
theorem Q8s (d n:Nat){t e:TypeId}{k:IntKind}(M:P.underlying t=some (.array n e))(h:P.underlying e=some (.int k))(D:(P.info? e).map (·.size)=some 1)
  (xs ys:List Int) (hx:xs.length=n) (hy:ys.length=n) :
  (Op.equalIn (d+2) t (.agg (xs.map (Value.int k)).toArray) (.agg (ys.map (Value.int k)).toArray)).run P w=.ok (xs==ys) w:=by
 cases hq:P.info? e with
 | none=>simp [hq] at D
 | some q =>
  have J:q.size=1:=by simpa [hq] using D
  have L:(sizeOf e).run P w=.ok 1 w:=by simp [sizeOf,typeInfo,hq,J]
  unfold Op.equalIn;simp only [Sem.run_bind,run_underlying M,Result.andThen_ok,L];simp only [Std.Legacy.Range.forIn_eq_forIn_range',Std.Legacy.Range.size,Nat.sub_zero,Nat.add_sub_cancel,Nat.div_one];have N:∀ m s,s+m=n->(Sem.run P
     (forIn (List.range' s m) ((none,()):Option Bool × Unit) fun i O=>do
      let __do_lift <-part e (List.map (Value.int k) xs).toArray (i*1)
      let __do_lift_1 <-part e (List.map (Value.int k) ys).toArray (i*1)
      let __do_lift <-Op.equalIn (d+1) e __do_lift __do_lift_1
      if (!__do_lift)=true then pure (ForInStep.done (some false,())) else pure (ForInStep.yield (none,())))
     w)=.ok (if xs.drop s=ys.drop s then (none,()) else (some false,())) w:=by
   intro m;induction m with
   | zero =>
    intro s K;have E:xs.drop s=[]:=List.drop_eq_nil_of_le (by omega);have G:ys.drop s=[]:=List.drop_eq_nil_of_le (by omega);simp [E,G]
   | succ m ih =>
    intro s K;have y:s<xs.length:=by omega
    have z:s<ys.length:=by omega
    rw [List.range'_succ];simp only [List.forIn_cons,Sem.run_bind,mul_one,Q4u w h xs s y,Q4u w h ys s z,Result.andThen_ok,run_equalIn_int (P:=P) w d e k k _ _ h];have I:(xs.drop s=ys.drop s)=(xs[s]=ys[s]/\xs.drop (s+1)=ys.drop (s+1)):=by
     rw [List.drop_eq_getElem_cons y,List.drop_eq_getElem_cons z,List.cons.injEq]
    simp only [I];by_cases hxy:xs[s]=ys[s]
    ·simp only [hxy,beq_self_eq_true,Bool.not_true,Bool.false_eq_true,if_false,Sem.run_pure,Result.andThen_ok];have:=ih (s+1) (by omega);simp only [mul_one,Sem.run_bind] at this;rw [this];simp only [true_and]
    have H:(xs[s]==ys[s])=false:=by simpa using hxy
    simp only [H,Bool.not_false,if_true,Sem.run_pure,Result.andThen_ok,hxy,false_and];rfl
  rw [N n 0 (by omega)];simp only [List.drop_zero,Result.andThen_ok];by_cases hxy:xs=ys
  ·simp [hxy]
  have:(xs==ys)=false:=by simpa using hxy
  simp [hxy]
theorem Qrs {n:Nat}{t e:TypeId}{k:IntKind}(z:P.underlying t=some (.array n e))(h:P.underlying e=some (.int k))(y:(P.info? e).map (·.size)=some 1)
  (xs ys:List Int) (hx:xs.length=n) (hy:ys.length=n):(binOp .eql t (.agg (xs.map (Value.int k)).toArray) (.agg (ys.map (Value.int k)).toArray)).run P w=.ok (.bool (xs==ys)) w:=by
 rw [run_eql_struct,Q8s w 9998 n z h y xs ys hx hy];rfl
theorem Qrr {n:Nat}{t e:TypeId}{k:IntKind}(z:P.underlying t=some (.array n e))(h:P.underlying e=some (.int k))(y:(P.info? e).map (·.size)=some 1)
  (xs ys:List Int) (hx:xs.length=n) (hy:ys.length=n):(binOp .neq t (.agg (xs.map (Value.int k)).toArray) (.agg (ys.map (Value.int k)).toArray)).run P w=.ok (.bool (!(xs==ys))) w:=by
 rw [run_neq_struct,Q8s w 9998 n z h y xs ys hx hy];rfl
end
theorem Qbq {P:Program}{t e:TypeId}{n:Nat}(D:P.underlying t=some (.array n e))(h:(P.info? e).map (·.size)=some 1)(cs:Array Value)(k:Nat)(G:k<n)(w:World){v:Value}(E:IntKind)
  (hp:(part e cs k).run P w=.ok v w):(Instr.index t (.agg cs) (.int E (k:Int))).run P w=.ok v w:=by
 cases hq:P.info? e with
 | none=>simp [hq] at h
 | some q =>
  have y:q.size=1:=by simpa [hq] using h
  have z:(sizeOf e).run P w=.ok 1 w:=by simp [sizeOf,typeInfo,hq,y]
  unfold Instr.index;simp only [asIntOf,Sem.run_bind,Sem.run_pure,run_underlying D,Result.andThen_ok];rw [if_pos (by omega)];simp only [Sem.run_bind,z,Result.andThen_ok];simpa using hp
theorem Q4c {P:Program}{t e:TypeId}{n:Nat}(y:P.underlying t=some (.array n e))(a:Option Addr)(len c:Nat)(h:n<=len)(w:World):(Instr.arrayAt t (.slice a len c)).run P w=.ok (.pointer a) w:=by
 unfold Instr.arrayAt;simp only [Sem.run_bind,run_underlying y,Result.andThen_ok];rw [if_neg (by omega)];rfl
theorem Blk.all0 {e:TypeId}{w:World}{g:Nat}{cs:List Value}(h:Blk e w g cs):w.rangeAt g 0 cs:=fun j v hv=>by rw [zero_add,h.cell];exact hv
end Go.Proofs.YtbdmkfjgnjfjbaaGreat
