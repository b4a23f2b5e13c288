/- All lies as it lay but the block of one cell and a row of its own. -/
import Derived.Test.YtbdmkfjgnjfjbaaGreatLazyServesK01
set_option linter.unusedSimpArgs false
set_option linter.unusedVariables false
set_option maxHeartbeats 4000000
set_option maxRecDepth 100000
namespace Go.Proofs.YtbdmkfjgnjfjbaaGreat
open Go.RowKit
structure But2 (g:Nat)(v:Value)(w w':World):Prop where
 os:w'.os=w.os
 tape:w'.tape=w.tape
 output:w'.output=w.output
 size:w.heap.size≤w'.heap.size
 block:∀ k,k<w.heap.size→k≠g→v.ownBlock≠some k→w'.heap[k]?=w.heap[k]?
theorem But2.refl (g:Nat)(v:Value)(w:World):But2 g v w w:=⟨rfl,rfl,rfl,Nat.le_refl _,fun _ _ _ _=>rfl⟩
theorem But2.trans {g:Nat}{v v':Value}{w u u':World}(h:But2 g v w u)(hv:∀ k,v'.ownBlock=some k→v.ownBlock=some k∨w.heap.size≤k)(h':But2 g v' u u'):But2 g v w u' :=
 ⟨h'.os.trans h.os,h'.tape.trans h.tape,h'.output.trans h.output,Nat.le_trans h.size h'.size,fun k hk h1 h2 =>
  (h'.block k (Nat.lt_of_lt_of_le hk h.size) h1 (fun e=>(hv k e).elim h2 (fun h3=>by omega))).trans (h.block k hk h1 h2)⟩
theorem But2.kept {g:Nat}{v:Value}{w u u':World}(h:But2 g v w u)(hb:Below u.heap.size u u'):But2 g v w u' :=
 ⟨hb.os.trans h.os,hb.tape.trans h.tape,hb.output.trans h.output,Nat.le_trans h.size hb.size,fun k hk h1 h2=>(hb.block k (Nat.lt_of_lt_of_le hk h.size)).trans (h.block k hk h1 h2)⟩
theorem But2.grown {g:Nat}{v:Value}{w u u':World}{row:Option Nat}(h:But2 g v w u)(hg:u.grownBy u' row)(hr:∀ k,row=some k→k=g∨v.ownBlock=some k∨w.heap.size≤k):But2 g v w u' :=
 ⟨hg.os.trans h.os,hg.tape.trans h.tape,hg.output.trans h.output,Nat.le_trans h.size hg.size,fun k hk h1 h2 =>
  (hg.block k (Nat.lt_of_lt_of_le hk h.size) (fun e=>(hr k e.symm).elim h1 (fun h3=>h3.elim h2 (fun h3=>by omega)))).trans (h.block k hk h1 h2)⟩
theorem But2.below {g B:Nat}{v:Value}{w u:World}(h:But2 g v w u)(hB:B≤w.heap.size)(hg:B≤g)(hv:∀ k,v.ownBlock=some k→B≤k):Below B w u :=
 ⟨h.os,h.tape,h.output,h.size,fun k hk=>h.block k (by omega) (by omega) (fun e=>by have:=hv k e;omega)⟩
theorem Blk.but {e:TypeId}{w w':World}{g k:Nat}{v:Value}{cs:List Value}(h:Blk e w k cs)(hb:But2 g v w w')(h1:k≠g)(h2:v.ownBlock≠some k):Blk e w' k cs:=(hb.block k h.lt h1 h2).trans h
theorem RowOf.but {α:Type}{f:α→List Value}{size:Nat}{w w':World}{g:Nat}{v a:Value}{l:List α}(h:RowOf f size w a l)(hb:But2 g v w w')(h1:a.ownBlock≠some g)(h2:∀ x,a.ownBlock=some x→v.ownBlock≠some x):RowOf f size w' a l:=by
 obtain ⟨h0,a,c,rfl,k1,k2,h3⟩:=h
 refine ⟨h0,a,c,rfl,k1,k2,?_⟩
 rcases h3 with h3|⟨b,off,s,rfl,hs,h3⟩
 ·exact .inl h3
 ·refine .inr ⟨b,off,s,rfl,hs,fun j u hu=>?_⟩
  have hc:=h3 j u hu
  rw [World.cell?_of_block (w:=w) (hb.block b (World.block_lt_of_cell? w _ hc) (fun e=>h1 (by rw [←e];rfl)) (h2 b rfl))];exact hc
theorem OwnOf.but {α:Type}{f:α→List Value}{size:Nat}{e:TypeId}{w w':World}{g B:Nat}{v a:Value}{l:List α}(h:OwnOf f size e w B a l)(hb:But2 g v w w')(h1:a.ownBlock≠some g)(h2:∀ x,a.ownBlock=some x→v.ownBlock≠some x):OwnOf f size e w' B a l:=by
 refine ⟨h.1,?_⟩
 rcases h.2 with h3|⟨q,cap,cur,rfl,h3,h4,h5⟩
 ·exact .inl h3
 ·exact .inr ⟨q,cap,cur,rfl,h3,(hb.block q (Array.getElem?_eq_some_iff.1 h4).1 (fun e=>h1 (by rw [←e];rfl)) (h2 q rfl)).trans h4,h5⟩
end Go.Proofs.YtbdmkfjgnjfjbaaGreat
