/- How the data that come in are read, as plain facts: lemmas of my own with no program in sight. | How slices of anything that come in are read: lemmas of my own  -/
import Derived.Test.YtbdmkfjgnjfjbaaGreatBlockListsK01
import Derived.ProofKit
import Derived.OpenShut
import Derived.ShutString
import Derived.ChangeOld
import Derived.SizedLaws
import Derived.Deep.CondSized
import Derived.Deep.Slices
import Derived.Test.YtbdmkfjgnjfjbaaGreatBlockListsK02
set_option linter.unusedSimpArgs false
set_option linter.unusedVariables false
set_option maxHeartbeats 4000000
set_option maxRecDepth 100000
open List (getElem?_eq_getElem getElem_mem length_cons mem_cons reverse_nil take_length take_nil take_succ_cons take_zero)
open Nat (add_assoc le_refl zero_mul)
namespace Go.Proofs.YtbdmkfjgnjfjbaaGreat
open Go.ChangeShapes Go.WideShapes Go.ChangeAt Go.RowKit
variable {H:Type} {enc:TypeId × Value->H} {P:Program} {W:World}

def Sz {H:Type}(d:DataW H)(n:Nat):Prop:=(d=.nil/\n=0)∨∃ es sp,d=.slice es sp/\es.length=n
theorem Qgt {n:Int}(h:(Lit.int .u8 n).wf=true):0<=n/\n<=255:=by
 simpa [Lit.wf,IntKind.min,IntKind.max,IntKind.signed,IntKind.bits] using h
theorem Qqr (n:Int)(h:0<=n/\n<=255):Value.int .u8 n=u8v (UInt8.ofNat n.toNat):=by
 unfold u8v;have:(UInt8.ofNat n.toNat).toNat=n.toNat:=by rw [UInt8.toNat_ofNat'];omega
 rw [this,Int.toNat_of_nonneg h.1]
theorem segs {α:Type}{f:α->List Value}{good:α->Prop}{sz:Nat}:∀ (n:Nat) (cs:List Value),cs.length=n*sz->(∀ i,i<n->∃ x,good x/\(cs.drop (i*sz)).take sz=f x) ->
  ∃ l:List α,l.length=n/\(∀ x∈l,good x)/\cs=l.flatMap f
 | 0,cs,hl,_=>⟨[],rfl,by simp,by simpa using hl⟩
 | n+1,cs,hl,h=>by
  obtain ⟨x,J,D⟩:=h 0 (by omega);rw [zero_mul,List.drop_zero] at D;obtain ⟨l,E,G,H⟩:=segs (f:=f) (good:=good) (sz:=sz) n (cs.drop sz) (by rw [List.length_drop,hl,Nat.add_mul];omega) (fun i K=>by
   obtain ⟨y,z,I⟩:=h (i+1) (by omega);refine ⟨y,z,?_⟩;rw [List.drop_drop,<-I,Nat.add_mul,Nat.one_mul,Nat.add_comm])
  refine ⟨x::l,by simp [E],fun y z=>?_,?_⟩
  ·rcases mem_cons.1 z with rfl|z
   ·exact J
   exact G y z
  rw [List.flatMap_cons,<-D,<-H,List.take_append_drop]
theorem Qou {t e:TypeId}{n:Nat}{k:IntKind}(O:P.underlying t=some (.array n e))(K:P.underlying e=some (.int k))(G:P.cellsOf e=1)(J:P.cellsOf t=n){E:Nat}{cs:List Value}{x:DataW H × List MemPlace}
  {base:Nat} {spare:Nat->Bool} {held:Bool}(hf:DataW.trod enc P W base spare held E t cs=some x):∃ xs:List Int,cs=xs.map (Value.int k)/\xs.length=n/\∀ x∈xs,(Lit.int k x).wf=true:=by
 obtain ⟨U,m,_,_,I,V,L⟩:=DataW.trod_array O hf;obtain ⟨l,h,y,D⟩:=segs (α:=Int) (f:=fun z=>[Value.int k z]) (good:=fun z=>(Lit.int k z).wf=true) (sz:=1) n cs (by rw [I,J];omega) (fun i M=>by
  have h:=L i M;rw [G] at h;have N:i<U.length:=by omega
  rw [getElem?_eq_getElem N] at h;obtain ⟨z,T,_,S⟩:=DataW.trod_int K h;exact ⟨z,S,T⟩)
 refine ⟨l,?_,h,y⟩;rw [D];clear h y D;induction l<;>simp_all
theorem Qpp {t e:TypeId}{n:Nat}{k:IntKind}(D:P.underlying t=some (.array n e))(L:P.underlying e=some (.int k))(J:P.cellsOf e=1)(K:P.cellsOf t=n){r:Reach}{E:Nat}{v:Value}{d:DataW H}{p:List MemPlace}
  (hv:Value.okWide P W r E t v) (h:DataW.Trod enc P W 0 (fun _=>true) true t v d p):∃ y:List Int,v=.agg (y.map (Value.int k)).toArray/\y.length=n/\∀ x∈y,(Lit.int k x).wf=true:=by
 obtain ⟨cs,rfl⟩:∃ cs,v=.agg cs:=by
  simp only [Value.okWide,D] at hv;obtain ⟨cs,z,_⟩:=hv;exact ⟨cs,z⟩
 obtain ⟨N,M⟩:=h;obtain ⟨y,z,G,I⟩:=Qou D L J K M;refine ⟨y,?_,G,I⟩;rw [<-z];simp [Value.cells]
variable {H:Type} {enc:TypeId × Value->H} {P:Program} {W:World}

def SzL {H α:Type}(sz:DataW H->α->Prop)(d:DataW H)(l:List α):Prop :=
 (d=.nil/\l=[])∨∃ (es sp:List (DataW H)),d=.slice es sp/\es.length=l.length/\∀ (i:Nat) (e:DataW H) (y:α),es[i]?=some e->l[i]?=some y->sz e y
theorem SzL.sz {H α:Type}{sz:DataW H->α->Prop}{d:DataW H}{l:List α}(h:SzL sz d l):Sz d l.length:=by
 rcases h with ⟨y,rfl⟩|⟨z,E,y,D,_⟩
 ·exact .inl ⟨y,rfl⟩
 exact .inr ⟨z,E,y,D⟩
theorem Q9x {α:Type}{p:Nat->α->Prop}:∀ (n:Nat),(∀ i,i<n->∃ y,p i y)->∃ l:List α,l.length=n/\∀ i y,l[i]?=some y->p i y
 | 0,_=>⟨[],rfl,by simp⟩
 | n+1,h=>by
  obtain ⟨l,E,G⟩:=Q9x n (fun i H=>h i (by omega));obtain ⟨y,J⟩:=h n (by omega);refine ⟨l++[y],by simp [E],fun i z D=>?_⟩;by_cases H:i<n
  ·rw [List.getElem?_append_left (by omega)] at D;exact G i z D
  rw [List.getElem?_append_right (by omega)] at D;have I:i - l.length=0:=by
   have:=(List.getElem?_eq_some_iff.1 D).1;simp at this;omega
  rw [I] at D;simp only [List.getElem?_cons_zero,Option.some.injEq] at D;obtain rfl:i=n:=by omega
  rw [<-D];exact J
theorem Qew {b off:Nat}(k:Nat):(⟨b,off,none⟩:Addr).add k=⟨b,off+k,none⟩:=by unfold Addr.add;split <;> simp_all
theorem Qe8 {α:Type}{f:α->List Value}{good:α->Prop}{sz:DataW H->α->Prop}{size:Nat}{t e:TypeId}(ht:P.underlying t=some (.slice e))(hc:P.cellsOf e=size)(hs:0<size)
  (hf:∀ x,(f x).length=size) {fuel:Nat} {cs:List Value} {x:DataW H × List MemPlace}
  (h:DataW.trod enc P W 0 (fun _=>true) true fuel t cs=some x)
  (hel:∀ n,n+1=fuel->∀ D J,DataW.trod enc P W 0 (fun _=>true) true n e D=some J->∃ y,D=f y/\good y/\sz J.1 y) :
  ∃ v l,cs=[v]/\Q05 f size W v l/\(∀ y∈l,good y)/\SzL sz x.1 l:=by
 rcases DataW.trod_slice ht h with ⟨rfl,rfl⟩|⟨a,len,cap,a3,a',n,a4,rfl,rfl,hb,hl,hm,a5,V,_,_⟩
 ·exact ⟨_,[],rfl,Q05.nil f size W,by simp,Or.inl ⟨rfl,rfl⟩⟩
 rw [hc] at V;obtain ⟨l,E,L⟩:=Q9x (p:=fun i y=>∃ D J,W.cells? 0 (a.add (i*size)) size=some D/\a3[i]?=some J/\D=f y/\good y/\sz J.1 y) len (fun i I=>by
  have E:=V i I;rw [getElem?_eq_getElem (by omega)] at E;obtain ⟨D,K,O⟩:=Option.bind_eq_some_iff.1 E;obtain ⟨y,M,G,z⟩:=hel n a4.symm D _ O;exact ⟨y,D,_,K,getElem?_eq_getElem (by omega),M,G,z⟩)
 obtain ⟨b,off,s⟩:=a;have a2:s=none∨len=0:=by
  by_cases N:len=0
  ·exact .inr N
  left
  obtain ⟨D,_,K,_⟩:=L 0 _ (getElem?_eq_getElem (by omega));obtain ⟨_,M,G⟩:=World.cells?_some K;have z:=G 0 (by omega);rw [getElem?_eq_getElem (by omega)] at z;rw [zero_mul] at z;simp only [Addr.add,if_true] at z;cases s with
  | none=>rfl
  | some q =>
   unfold World.cell? at z;split at z<;>simp at z
 refine ⟨_,l,rfl,⟨Q28 hf l,_,_,by rw [E],by omega,hm,Or.inr ⟨b,off,s,rfl,by rw [E];exact a2,fun j u T=>?_⟩⟩,fun y U=>?_,Or.inr ⟨_,_,rfl,by simp [a5,E],fun i e' y S U=>?_⟩⟩
 ·have Z:=(List.getElem?_eq_some_iff.1 T).1;rw [Q28 hf,E] at Z;have I:j / size<len:=(Nat.div_lt_iff_lt_mul hs).2 Z;have hr:j % size<size:=Nat.mod_lt _ hs;have a0:j=j / size*size+j % size:=by rw [Nat.mul_comm];exact (Nat.div_add_mod j size).symm
  rw [a0,Q89 hf l (j / size) (by omega) _ hr] at T;obtain ⟨D,_,K,_,M,_⟩:=L (j / size) _ (getElem?_eq_getElem (by omega));obtain ⟨_,_,G⟩:=World.cells?_some K;obtain rfl:s=none:=a2.resolve_right (fun N=>by rw [N] at I;exact Nat.not_lt_zero _ I);have z:=G (j % size) hr;rw [Qew,Qew,M,T,add_assoc,<-a0] at z;exact z
 ·obtain ⟨i,I⟩:=List.getElem?_of_mem U;obtain ⟨_,_,_,_,_,G,_⟩:=L i y I;exact G
 obtain ⟨_,J,_,O,_,_,z⟩:=L i y U;rw [List.getElem?_map,O] at S;simp only [Option.map_some,Option.some.injEq] at S;rw [<-S];exact z
theorem Qc4 {t e:TypeId}(L:P.underlying t=some (.slice e))(K:P.underlying e=some (.int .u8))(J:P.cellsOf e=1){y:Nat}{cs:List Value}{x:DataW H × List MemPlace}
  (h:DataW.trod enc P W 0 (fun _=>true) true y t cs=some x):∃ v,∃ l:List UInt8,cs=[v]/\Q02 W v l/\Sz x.1 l.length:=by
 obtain ⟨v,l,D,E,_,G⟩:=Qe8 (f:=b8) (good:=fun _=>True) (sz:=fun _ _=>True) L J (by omega) (fun _=>rfl) h (fun n _ S T N=>by
  obtain ⟨z,O,_,M⟩:=DataW.trod_int K N;have I:=Qgt M;exact ⟨UInt8.ofNat z.toNat,by rw [O];unfold b8;rw [Qqr _ I],trivial,trivial⟩)
 exact ⟨v,l,D,E,G.sz⟩
def Q0p (p:Value × List UInt8):List Value:=[p.1]
def Q12 (w:World)(v:Value)(ps:List (Value × List UInt8)):Prop:=Q05 Q0p 1 w v ps/\∀ p∈ps,Q02 w p.1 p.2
theorem Q12.below {w w':World}{v:Value}{ps:List (Value × List UInt8)}(h:Q12 w v ps)(y:Below w.heap.size w w'):Q12 w' v ps:=⟨h.1.below y,fun p hp=>(h.2 p hp).below y⟩
theorem Q12.at {w:World}{a:Option Addr}{n c:Nat}{ps:List (Value × List UInt8)}(h:Q12 w (.slice a n c) ps)(k:Nat)(y:k<ps.length) :
  ∃ b off p,a=some ⟨b,off,none⟩/\ps[k]?=some p/\w.cell? ⟨b,off+k,none⟩=some p.1/\Q02 w p.1 p.2:=by
 obtain ⟨b,off,z,D⟩:=Q05.cells (f:=Q0p) (size:=1) (fun _=>rfl) h.1 k y;exact ⟨b,off,ps[k],z,getElem?_eq_getElem y,by simpa using D 0 _ rfl,h.2 _ (getElem_mem y)⟩
def SzT {H:Type}(d:DataW H)(ps:List (Value × List UInt8)):Prop:=SzL (fun d p=>Sz d p.2.length) d ps
theorem Qc3 {t e u:TypeId}(L:P.underlying t=some (.slice e))(K:P.underlying e=some (.slice u))(M:P.underlying u=some (.int .u8))(I:P.cellsOf e=1)(J:P.cellsOf u=1){E:Nat}{cs:List Value}{x:DataW H × List MemPlace}
  (h:DataW.trod enc P W 0 (fun _=>true) true E t cs=some x):∃ v,∃ ps,cs=[v]/\Q12 W v ps/\SzT x.1 ps:=by
 obtain ⟨v,ps,y,z,D,G⟩:=Qe8 (f:=Q0p) (good:=fun p=>Q02 W p.1 p.2) (sz:=fun d p=>Sz d p.2.length) L I (by omega) (fun _=>rfl) h (fun n _ O S N=>by
  obtain ⟨v,l,y,z,D⟩:=Qc4 K M J N;exact ⟨(v,l),y,z,D⟩)
 exact ⟨v,ps,y,⟨z,D⟩,G⟩
theorem Qs6 {v u:Value}(h:v.cells.toList=[u])(y:∃ a n c,v=.slice a n c):v=u:=by
 obtain ⟨a,n,c,rfl⟩:=y;simpa [Value.cells] using h
theorem Qav {t e u:TypeId}(y:P.underlying t=some (.slice e))(K:P.underlying e=some (.slice u))(N:P.underlying u=some (.int .u8))(I:P.cellsOf e=1)(J:P.cellsOf u=1){r:Reach}{z:Nat}{v:Value}{d:DataW H}{p:List MemPlace}
  (hv:Value.okWide P W r z t v) (h:DataW.Trod enc P W 0 (fun _=>true) true t v d p):∃ ps,Q12 W v ps/\SzT d ps:=by
 obtain ⟨S,L⟩:=h;obtain ⟨O,ps,D,E,G⟩:=Qc3 y K N I J L;obtain rfl:v=O:=Qs6 D (by obtain ⟨a,len,cap,M⟩:=okWide_slice y hv;exact ⟨a,len,cap,M⟩);exact ⟨ps,E,G⟩
end Go.Proofs.YtbdmkfjgnjfjbaaGreat
namespace Go.Proofs.YtbdmkfjgnjfjbaaGreat
variable {H:Type}
theorem Qgv:∀ {l:List (DataW H)}{d:DataW H},d∈l->Rows.uptoBulk d<=Rows.uptoBulkAll l
 | x::l,d,h=>by
  unfold Rows.uptoBulkAll;rcases mem_cons.1 h with rfl|h
  ·omega
  have:=Qgv h;omega
theorem Qos (d:DataW H):1<=Rows.uptoBulk d:=by
 cases d with
 | lit l=>cases l<;>simp [Rows.uptoBulk]
 | nil=>simp [Rows.uptoBulk]
 | ptr d=>simp [Rows.uptoBulk]
 | slice a b=>simp [Rows.uptoBulk]
 | agg p=>simp [Rows.uptoBulk]
 | iface n d=>simp [Rows.uptoBulk]
 | map e=>simp [Rows.uptoBulk]
 | held x=>simp [Rows.uptoBulk]
theorem Qgw:∀ (l:List (DataW H)),l.length<=Rows.uptoBulkAll l
 | []=>by simp
 | d::l=>by
  unfold Rows.uptoBulkAll;have h:=Qos d;have y:=Qgw l;simp only [length_cons];omega
theorem Qdg {y:List (DataW H)}(D:Rows.uptoSmall H y=true){j:Nat}{d:DataW H}(z:y[j]?=some d):Rows.uptoBulk d<=1048576:=by
 have h:=of_decide_eq_true D;exact Nat.le_trans (Qgv (List.mem_of_getElem? z)) h
theorem Qkl {d:DataW H}{n:Nat}(h:Sz d n):n<=Rows.uptoBulk d:=by
 rcases h with ⟨rfl,rfl⟩|⟨y,z,rfl,rfl⟩
 ·omega
 have:=Qgw y;unfold Rows.uptoBulk;omega
variable {H:Type}
theorem Qdh {α:Type}{m:α->Nat}{sz:DataW H->α->Prop}(hm:∀ d x,sz d x->m x<=Rows.uptoBulk d):∀ (es:List (DataW H)) (l:List α),es.length=l.length->(∀ (i:Nat) (e:DataW H) (y:α),es[i]?=some e->l[i]?=some y->sz e y)->(l.map m).sum<=Rows.uptoBulkAll es
 | [],[],_,_=>by simp
 | e::es,y::l,hl,h=>by
  have I:=hm e y (h 0 e y rfl rfl);have J:=Qdh hm es l (by simpa using hl) (fun i z G D E=>h (i+1) z G (by simpa using D) (by simpa using E));unfold Rows.uptoBulkAll;simp only [List.map_cons,List.sum_cons];omega
 | [],_::_,hl,_=>by simp at hl
 | _::_,[],hl,_=>by simp at hl
theorem Qkm {α:Type}{m:α->Nat}{sz:DataW H->α->Prop}(hm:∀ d x,sz d x->m x<=Rows.uptoBulk d){d:DataW H}{l:List α}(h:SzL sz d l):(l.map m).sum<=Rows.uptoBulk d:=by
 rcases h with ⟨_,rfl⟩|⟨y,D,rfl,z,h⟩
 ·simp
 have:=Qdh hm y l z h;unfold Rows.uptoBulk;omega
theorem Q42 {d:DataW H}{ps:List (Value × List UInt8)}(h:SzT d ps):ps.length<=Rows.uptoBulk d/\(ps.flatMap (·.2)).length<=Rows.uptoBulk d:=by
 refine ⟨Qkl h.sz,?_⟩;have:=Qkm (m:=fun p:Value × List UInt8=>p.2.length) (fun d x y=>Qkl y) h;rw [List.length_flatMap];exact this
end Go.Proofs.YtbdmkfjgnjfjbaaGreat
namespace Go.Proofs.YtbdmkfjgnjfjbaaGreat
open Go.ChangeShapes Go.WideShapes Go.ChangeAt Go.RowKit
def Q04:Nd->List Value
 | .mk kd pv _ vv _ kv _=>[.int .i64 kd,pv,vv,kv]
theorem Q07:Agg Tryz.prog 70 4:=⟨_,Tryz.underlying70,rfl,by kernel_rfl⟩
theorem Q0b (x:Nd):(Q04 x).length=4:=by cases x;rfl
theorem Qem:El0 Tryz.prog 68 70 (.agg #[.int .i64 0,.slice none 0 0,.slice none 0 0,.slice none 0 0]) 4 80 Q04:=⟨by kernel_rfl,by kernel_rfl,rfl,by omega,Q0b⟩
inductive IsNd (w:World):Nd->Prop where
 | mk (kd:Int) (pv:Value) (p:List UInt8) (vv:Value) (v:List UInt8) (kv:Value) (ks:List Nd) (hp:Q02 w pv p) (hv:Q02 w vv v) (hk:Q05 Q04 4 w kv ks) (h:∀ k∈ks,IsNd w k):IsNd w (.mk kd pv p vv v kv ks)
theorem IsNd.kept {w w':World}{x:Nd}(h:IsNd w x)(y:Below w.heap.size w w'):IsNd w' x:=by
 induction h with
 | mk kd pv p vv v kv ks hp hv hk _ ih=>exact .mk kd pv p vv v kv ks (hp.below y) (hv.below y) (hk.below y) ih
theorem IsNd.inv {w:World}{kd:Int}{z:Value}{p:List UInt8}{D:Value}{v:List UInt8}{y:Value}{ks:List Nd}(h:IsNd w (.mk kd z p D v y ks)):Q02 w z p/\Q02 w D v/\Q05 Q04 4 w y ks/\∀ k∈ks,IsNd w k:=by
 cases h with
 | mk _ _ _ _ _ _ _ hp hv hk h=>exact ⟨hp,hv,hk,h⟩
mutual
def Q15:Nd->Nat
 | .mk _ _ p _ v _ ks=>1+p.length+v.length+Q0v ks
def Q0v:List Nd->Nat
 | []=>0
 | k::ks=>Q15 k+Q0v ks
end
theorem Q1u {k:Nd}:∀ {ks:List Nd},k∈ks->Q15 k<=Q0v ks
 | x::ks,h=>by
  unfold Q0v;rcases mem_cons.1 h with rfl|h
  ·omega
  have:=Q1u h;omega
theorem Q49 (x:Nd):1<=Q15 x:=by cases x;unfold Q15;omega
theorem Q9y:∀ (ks:List Nd),ks.length<=Q0v ks
 | []=>by simp [Q0v]
 | k::ks=>by
  have:=Q49 k;have:=Q9y ks;simp only [Q0v,length_cons];omega
variable {H:Type} {enc:TypeId × Value->H} {W:World}
end Go.Proofs.YtbdmkfjgnjfjbaaGreat
namespace Go.Proofs.YtbdmkfjgnjfjbaaGreat
open Go.RowKit
theorem Ext.nd {w:World}(u:Ext w){k:Nd}(h:IsNd w k):IsNd u.val k:=h.kept u.property
theorem Q9l (l:List UInt8)(k:Nat)(h:k<l.length):half (l.take (k+1))=(half (l.take k) && decide (l[k].toNat<=15)):=by
 unfold half;rw [List.take_succ_eq_append_getElem h,List.all_append];simp
theorem Qcs {l:List UInt8}{k:Nat}(y:k<l.length)(h:¬ l[k].toNat<=15):half l=false:=by
 unfold half;rw [List.all_eq_false];exact ⟨l[k],getElem_mem y,by simpa using h⟩
theorem Q4s (a:Option Addr)(n c:Nat)(l:List UInt8)(K:l.length=n)(w:World)(h:Q02 w (.slice a n c) l):Calls Tryz.prog 154 #[.slice a n c] w fun e w'=>e=.returned (.bool (half l))/\Below w.heap.size w w':=by
 obtain ⟨R,E⟩:=Qe (half l);rw [<-E];have J:=Qhd K;have I:=Qhd E;have Z:n<=9223372036854775807:=by have U:=h.fits.2.1;have M:=h.fits.2.2;unfold maxLen at M;omega
 clear K E;go_enter Tryz.func154,Tryz.ntmps154
 go_wp2
 go_loopw [7] (fun H wr=>∃ k:Nat,k<=n/\H=.int .i64 (k:Int)/\half (l.take k)=true/\Below w.heap.size w wr) (fun H _=>n - (intOf H).toNat)
 case atStart=>exact ⟨0,by omega,rfl,rfl,Below.refl _ _⟩
 case round =>
  obtain ⟨k,W,rfl,z,D⟩:=hrel;by_cases hlt:k<n
  ·have V:(k:Int)<(n:Int):=by omega
   have G:k<l.length:=by rw [J.out];exact hlt
   obtain ⟨b,off,rfl,S⟩:=Q02.at (h.below D) k G;obtain ⟨x,y⟩:=Qe (l[k]);rw [<-y] at S;have hst:=Q9l l k G;rw [z,<-y,Bool.true_and] at hst;have L:=Qhd y;by_cases h15:x.toNat<=15
   ·have T:(x.toNat:Int)<=15:=by omega
    rw [decide_eq_true h15] at hst;clear y z
    go_wp2
    go_roundw
    case rel=>exact ⟨k+1,by omega,by go_num,hst,D⟩
    case measure=>simp [intOf];omega
   have T:(15:Int)<(x.toNat:Int):=by omega
   have N:R=false:=by rw [I.out];exact Qcs G (by rw [<-L.out];exact h15)
   subst N;clear y z hst
   go_wp2
   go_ret;exact ⟨rfl,D⟩
  obtain rfl:k=n:=by omega
  have O:R=true:=by rw [I.out,<-z,<-J.out,take_length]
  subst O
  go_wp2
  go_ret;exact ⟨rfl,D⟩
theorem Qic (d:Nat)(w:World):Calls Tryz.prog 155 #[.int .i64 (d:Int)] w fun e w'=>e=.returned (.bool (Q5s d))/\Below w.heap.size w w':=by
 have y:(d:Int).tmod 2=((d % 2:Nat):Int):=by rw [Int.tmod_eq_emod_of_nonneg (by omega)];omega
 by_cases h2:d % 2=0
 ·by_cases h64:d<=64
  ·have D:(d:Int)<=64:=by omega
   have h:Q5s d=true:=(Q3g d).2 ⟨h2,h64⟩;rw [h2] at y;rw [h];go_enter Tryz.func155,Tryz.ntmps155
   go_wp2
   go_ret;exact ⟨rfl,Below.refl _ _⟩
  have D:((d:Int)<=64)=False:=eq_false (by omega);have h:Q5s d=false:=by rw [<-Bool.not_eq_true,Q3g];omega
  rw [h2] at y;rw [h];go_enter Tryz.func155,Tryz.ntmps155
  go_wp2
  go_ret;exact ⟨rfl,Below.refl _ _⟩
 have z:d % 2=1:=by omega
 have h:Q5s d=false:=by rw [<-Bool.not_eq_true,Q3g];omega
 rw [z] at y;rw [h];go_enter Tryz.func155,Tryz.ntmps155
 go_wp2
 go_ret;exact ⟨rfl,Below.refl _ _⟩
def RgtC (n:Nat)(k:Nd):Prop:=∀ (d:Nat) (u:World),IsNd u k->d+Q15 k<=n->Calls Tryz.prog 129 #[.agg (Q04 k).toArray,.int .i64 (d:Int)] u fun e w'=>e=.returned (.bool (rgt d k))/\Below u.heap.size u w'
section
variable (N:Nat) (hN:N<=100000000000) (pa va ka:Option Addr) (pn pc vn vc kn kc:Nat) (p v:List UInt8) (ks:List Nd) (hpn:p.length=pn) (hvn:v.length=vn) (hkn:ks.length=kn) (d:Nat) (w:World)
 (hp:Q02 w (.slice pa pn pc) p) (hv:Q02 w (.slice va vn vc) v) (hk:Q05 Q04 4 w (.slice ka kn kc) ks) (hks:∀ k∈ks,IsNd w k)
include hN hpn hvn hp in
theorem Qjf (hd:d+pn<=N):Calls Tryz.prog 129 #[.agg #[.int .i64 1,.slice pa pn pc,.slice va vn vc,.slice ka kn kc],.int .i64 (d:Int)] w fun e w'=>e=.returned (.bool (rgt d (.mk 1 (.slice pa pn pc) p (.slice va vn vc) v (.slice ka kn kc) ks)))/\Below w.heap.size w w':=by
 have Z:rgt d (.mk 1 (.slice pa pn pc) p (.slice va vn vc) v (.slice ka kn kc) ks)=(half p&&Q5s (d+pn)&&decide (0<vn)&&decide (vn<=1024)):=by unfold rgt;rw [hpn,hvn];rfl
 rw [Z];obtain ⟨w1,M⟩:=Qe (w.alloc (.cells #[.int .i64 1,.slice pa pn pc,.slice va vn vc,.slice ka kn kc] 70));have L:Blk 70 w1 w.heap.size [.int .i64 1,.slice pa pn pc,.slice va vn vc,.slice ka kn kc]:=by rw [M];exact D01 w _ _
 have G:Below w.heap.size w w1:=by rw [M];exact Qba _ _
 have k0:=(L.cell 0).trans (show _=some (Value.int .i64 1) from rfl);have a6:IntKind.i64.wrap ((d:Int)+(pn:Int))=(d:Int)+(pn:Int):=IntWalk.i64_in _ (by omega);have D:=Qhd M;have I:=Qhd (fun u (hu:Below w.heap.size w u)=>Q4s pa pn pc p hpn u (hp.below hu));have S:=fun u=>Qic (d+pn) u;simp only [Int.natCast_add] at S;have J:=Qhd S;clear S;have O:=(L.cell 1).trans (show _=some (Value.slice pa pn pc) from rfl);clear M Z;cases hh:half p with
 | false =>
  rw [hh] at I;simp only [Bool.false_and];go_enter Tryz.func129,Tryz.ntmps129
  go_wp2_with (first
     |(go_at_call 154;(with_reducible refine (I.out _ (by rw [<-D.out];exact G)).mono ?_);rintro e V ⟨rfl,h⟩;rw [<-D.out] at h;have E:=D00 G h;have y:=L.kept h;have O:=(y.cell 1).trans (show _=some (Value.slice pa pn pc) from rfl);have T:=(y.cell 2).trans (show _=some (Value.slice va vn vc) from rfl))
     |(go_at_call 155;(with_reducible refine (J.out _).mono ?_);rintro e W ⟨rfl,z⟩;have K:=D00 E z;have H:=y.kept z;have U:=(H.cell 2).trans (show _=some (Value.slice va vn vc) from rfl)))
  go_ret;exact ⟨rfl,E⟩
 | true =>
  rw [hh] at I;cases he:Q5s (d+pn) with
  | false =>
   rw [he] at J;simp only [Bool.false_and,Bool.and_false];go_enter Tryz.func129,Tryz.ntmps129
   go_wp2_with (first
     |(go_at_call 154;(with_reducible refine (I.out _ (by rw [<-D.out];exact G)).mono ?_);rintro e V ⟨rfl,h⟩;rw [<-D.out] at h;have E:=D00 G h;have y:=L.kept h;have O:=(y.cell 1).trans (show _=some (Value.slice pa pn pc) from rfl);have T:=(y.cell 2).trans (show _=some (Value.slice va vn vc) from rfl))
     |(go_at_call 155;(with_reducible refine (J.out _).mono ?_);rintro e W ⟨rfl,z⟩;have K:=D00 E z;have H:=y.kept z;have U:=(H.cell 2).trans (show _=some (Value.slice va vn vc) from rfl)))
   go_ret;exact ⟨rfl,K⟩
  | true =>
   rw [he] at J;simp only [Bool.true_and];by_cases h1:0<vn
   ·have a2:(0:Int)<(vn:Int):=by omega
    have a4:decide ((vn:Int)<=1024)=decide (vn<=1024):=by congr 1;rw [eq_iff_iff];omega
    rw [decide_eq_true h1,Bool.true_and];obtain ⟨b,hb⟩:=Qe (decide (vn<=1024));rw [<-hb] at a4 |-;clear hb;go_enter Tryz.func129,Tryz.ntmps129
    go_wp2_with (first
     |(go_at_call 154;(with_reducible refine (I.out _ (by rw [<-D.out];exact G)).mono ?_);rintro e V ⟨rfl,h⟩;rw [<-D.out] at h;have E:=D00 G h;have y:=L.kept h;have O:=(y.cell 1).trans (show _=some (Value.slice pa pn pc) from rfl);have T:=(y.cell 2).trans (show _=some (Value.slice va vn vc) from rfl))
     |(go_at_call 155;(with_reducible refine (J.out _).mono ?_);rintro e W ⟨rfl,z⟩;have K:=D00 E z;have H:=y.kept z;have U:=(H.cell 2).trans (show _=some (Value.slice va vn vc) from rfl)))
    go_ret;exact ⟨rfl,K⟩
   have a2:((0:Int)<(vn:Int))=False:=eq_false (by omega);have a3:decide (0<vn)=false:=decide_eq_false h1;rw [a3,Bool.false_and];go_enter Tryz.func129,Tryz.ntmps129
   go_wp2_with (first
    |(go_at_call 154;(with_reducible refine (I.out _ (by rw [<-D.out];exact G)).mono ?_);rintro e V ⟨rfl,h⟩;rw [<-D.out] at h;have E:=D00 G h;have y:=L.kept h;have O:=(y.cell 1).trans (show _=some (Value.slice pa pn pc) from rfl);have T:=(y.cell 2).trans (show _=some (Value.slice va vn vc) from rfl))
    |(go_at_call 155;(with_reducible refine (J.out _).mono ?_);rintro e W ⟨rfl,z⟩;have K:=D00 E z;have H:=y.kept z;have U:=(H.cell 2).trans (show _=some (Value.slice va vn vc) from rfl)))
   go_ret;exact ⟨rfl,K⟩
include hN hpn hkn hp hk hks in
theorem Qje (ih:∀ k∈ks,RgtC N k)(hd:d+1+pn+Q0v ks<=N):Calls Tryz.prog 129 #[.agg #[.int .i64 2,.slice pa pn pc,.slice va vn vc,.slice ka kn kc],.int .i64 (d:Int)] w fun e w'=>e=.returned (.bool (rgt d (.mk 2 (.slice pa pn pc) p (.slice va vn vc) v (.slice ka kn kc) ks)))/\Below w.heap.size w w':=by
 have T:rgt d (.mk 2 (.slice pa pn pc) p (.slice va vn vc) v (.slice ka kn kc) ks)=(decide (0<pn)&&half p&&decide (kn=1)&&decide ((ks[0]?.map Nd.kd).getD 0=3)&&rgtL (d+pn) ks):=by unfold rgt;rw [hpn,hkn];rfl
 rw [T];obtain ⟨y,L⟩:=Qe (w.alloc (.cells #[.int .i64 2,.slice pa pn pc,.slice va vn vc,.slice ka kn kc] 70));have hz:Blk 70 y w.heap.size [.int .i64 2,.slice pa pn pc,.slice va vn vc,.slice ka kn kc]:=by rw [L];exact D01 w _ _
 have E:Below w.heap.size w y:=by rw [L];exact Qba _ _
 have k1:=fun u:Ext y=>u.cell ((hz.cell 1).trans (show _=some (Value.slice pa pn pc) from rfl));have k3:=fun u:Ext y=>u.cell ((hz.cell 3).trans (show _=some (Value.slice ka kn kc) from rfl));have a8:=hp.below E;have c1:=fun (u:Ext y)=>Q4s pa pn pc p hpn u.val (u.row a8);have I:=Qhd L;have G:=Qhd c1;clear L T c1;by_cases h1:0<pn
 ·have a5:(0:Int)<(pn:Int):=by omega
  have ac:(0<pn)=True:=eq_true h1;rw [decide_eq_true h1,Bool.true_and];cases hh:half p with
  | false =>
   rw [hh] at G;simp only [Bool.false_and];go_enter Tryz.func129,Tryz.ntmps129
   go_wp2_with fail
   rw [<-I.out];refine Q03 y 35 (by kernel_rfl) (by kernel_rfl) (Below.refl _ _) ?_;simp only [take_succ_cons,take_zero,take_nil]
   iterate 7 (refine Q06 (by rfl) (fun K h=>?_);go_simp;refine h _ ?_;clear h K)
   (refine Q06 (by rfl) (fun K h=>?_);go_simp;first|(refine h _ ?_;clear h K)|(apply Exists.intro;refine ⟨fun _=>?_,h _ ?_⟩;exact G.out _;clear h K))
   iterate 27 (refine Q06 (by rfl) (fun K h=>?_);go_simp;refine h _ ?_;clear h K)
   refine Q0i ?_;intro u2 D;simp only [reverse_nil,Q00];change wpList _ _ _ [_] _ _;have z:=D00 E D
   go_wp2_with fail
   go_ret;exact ⟨rfl,z⟩
  | true =>
   rw [hh] at G;rw [Bool.true_and];by_cases h2:kn=1
   ·subst h2;obtain ⟨k,rfl⟩:=List.length_eq_one_iff.1 hkn;rw [decide_eq_true rfl,Bool.true_and];simp only [List.getElem?_cons_zero,Option.map_some,Option.getD_some,rgtL,Bool.and_true];have M:=hks k List.mem_cons_self;obtain ⟨bk,ok,rfl,H⟩:=Q05.range Q0b (hk.below E) 0 (by simp);simp only [List.getElem_cons_zero,zero_mul,Nat.add_zero] at H;have U:y.cell? ⟨bk,ok,none⟩=some (.int .i64 k.kd):=by
     have:=H 0 (.int .i64 k.kd) (by cases k;rfl);simpa using this
    have kk:=fun u:Ext y=>u.cell U;by_cases h3:k.kd=3
    ·have O:(k.kd==3)=true:=by rw [h3];rfl
     rw [decide_eq_true h3,Bool.true_and];have V:=M.kept E;have a6:Q0v [k]=Q15 k:=by simp [Q0v]
     have J:=fun (u:Ext y)=>ih k List.mem_cons_self (d+pn) u.val (u.nd V) (by rw [a6] at hd;omega);simp only [Int.natCast_add] at J;have ae:IntKind.i64.wrap ((d:Int)+(pn:Int))=(d:Int)+(pn:Int):=IntWalk.i64_in _ (by omega);obtain ⟨K,h⟩:=Qe (Q04 k);have S:K.length=4:=by rw [h];exact Q0b k
     rw [<-h] at H;simp only [<-h] at J;obtain ⟨ah,W⟩:=Qe (k.kd);simp only [<-W] at kk O;obtain ⟨rr,Z⟩:=Qe (rgt (d+pn) k);simp only [<-Z] at J |-;have C2:=Qhd J;have a2:=Qhd S;have Hr:=Qhd H;clear J h S H M V h3 U W Z;go_enter Tryz.func129,Tryz.ntmps129
     go_wp2_with fail
     rw [<-I.out];refine Q03 y 35 (by kernel_rfl) (by kernel_rfl) (Below.refl _ _) ?_;simp only [take_succ_cons,take_zero,take_nil]
     iterate 7 (refine Q06 (by rfl) (fun K h=>?_);go_simp;refine h _ ?_;clear h K)
     (refine Q06 (by rfl) (fun K h=>?_);go_simp;first|(refine h _ ?_;clear h K)|(apply Exists.intro;refine ⟨fun _=>?_,h _ ?_⟩;exact G.out _;clear h K))
     iterate 19 (refine Q06 (by rfl) (fun K h=>?_);go_simp;refine h _ ?_;clear h K)
     (refine Q06 (by rfl) (fun K h=>?_);rw [if_pos (by rfl)];refine ⟨_,fun u=>Q16 _ (.tmp 62) (by rfl) _ _ (by rfl) Q07 a2.out (rangeAt.ext Hr.out u),h _ ?_⟩;clear h K;simp only [Act.put,Qzs])
     iterate 5 (refine Q06 (by rfl) (fun K h=>?_);go_simp;refine h _ ?_;clear h K)
     (refine Q06 (by rfl) (fun K h=>?_);go_simp;first|(refine h _ ?_;clear h K)|(apply Exists.intro;refine ⟨fun _=>?_,h _ ?_⟩;exact C2.out _;clear h K))
     (refine Q06 (by rfl) (fun K h=>?_);go_simp;refine h _ ?_;clear h K)
     refine Q0i ?_;intro u2 D;simp only [reverse_nil,Q00];change wpList _ _ _ [_] _ _;have z:=D00 E D
     go_wp2_with fail
     go_ret;exact ⟨rfl,z⟩
    have O:(k.kd==3)=false:=by rw [beq_eq_false_iff_ne];exact h3
    rw [decide_eq_false h3,Bool.false_and];clear h3 H M;go_enter Tryz.func129,Tryz.ntmps129
    go_wp2_with fail
    rw [<-I.out];refine Q03 y 35 (by kernel_rfl) (by kernel_rfl) (Below.refl _ _) ?_;simp only [take_succ_cons,take_zero,take_nil]
    iterate 7 (refine Q06 (by rfl) (fun K h=>?_);go_simp;refine h _ ?_;clear h K)
    (refine Q06 (by rfl) (fun K h=>?_);go_simp;first|(refine h _ ?_;clear h K)|(apply Exists.intro;refine ⟨fun _=>?_,h _ ?_⟩;exact G.out _;clear h K))
    iterate 27 (refine Q06 (by rfl) (fun K h=>?_);go_simp;refine h _ ?_;clear h K)
    refine Q0i ?_;intro u2 D;simp only [reverse_nil,Q00];change wpList _ _ _ [_] _ _;have z:=D00 E D
    go_wp2_with fail
    go_ret;exact ⟨rfl,z⟩
   have ad:((kn:Int)==1)=false:=by rw [beq_eq_false_iff_ne];omega
   rw [decide_eq_false h2,Bool.false_and,Bool.false_and];go_enter Tryz.func129,Tryz.ntmps129
   go_wp2_with fail
   rw [<-I.out];refine Q03 y 35 (by kernel_rfl) (by kernel_rfl) (Below.refl _ _) ?_;simp only [take_succ_cons,take_zero,take_nil]
   iterate 7 (refine Q06 (by rfl) (fun K h=>?_);go_simp;refine h _ ?_;clear h K)
   (refine Q06 (by rfl) (fun K h=>?_);go_simp;first|(refine h _ ?_;clear h K)|(apply Exists.intro;refine ⟨fun _=>?_,h _ ?_⟩;exact G.out _;clear h K))
   iterate 27 (refine Q06 (by rfl) (fun K h=>?_);go_simp;refine h _ ?_;clear h K)
   refine Q0i ?_;intro u2 D;simp only [reverse_nil,Q00];change wpList _ _ _ [_] _ _;have z:=D00 E D
   go_wp2_with fail
   go_ret;exact ⟨rfl,z⟩
 have a5:((0:Int)<(pn:Int))=False:=eq_false (by omega);have ab:(0<pn)=False:=eq_false h1;rw [decide_eq_false h1];simp only [Bool.false_and];go_enter Tryz.func129,Tryz.ntmps129
 go_wp2_with fail
 rw [<-I.out];refine Q03 y 35 (by kernel_rfl) (by kernel_rfl) (Below.refl _ _) ?_;simp only [take_succ_cons,take_zero,take_nil]
 iterate 35 (refine Q06 (by rfl) (fun K h=>?_);go_simp;refine h _ ?_;clear h K)
 refine Q0i ?_;intro u2 D;simp only [reverse_nil,Q00];change wpList _ _ _ [_] _ _;have z:=D00 E D
 go_wp2_with fail
 go_ret;exact ⟨rfl,z⟩
end
theorem Qpt (l m:List Nd):Q27 (l++m)=Q27 l+Q27 m:=by
 induction l with
 | nil=>simp [Q27]
 | cons x l ih=>simp only [List.cons_append,Q27,ih];omega
theorem Qec (ks:List Nd)(i:Nat)(h:i<ks.length):Q27 (ks.take (i+1))=Q27 (ks.take i)+(if ks[i].kd=0 then 0 else 1):=by
 rw [List.take_succ_eq_append_getElem h,Qpt];simp [Q27]
theorem Qms (ks:List Nd):Q27 ks<=ks.length:=by
 induction ks with
 | nil=>simp [Q27]
 | cons k ks ih=>simp only [Q27,length_cons];split<;>omega
theorem Qdw (d:Nat)(ks:List Nd)(i:Nat)(D:i<ks.length)(h:rgtL d (ks.take i)=true)(E:rgt d ks[i]=true):rgtL d (ks.take (i+1))=true:=by
 rw [Q5e] at h |-;intro k z;rw [List.take_succ_eq_append_getElem D] at z;rcases List.mem_append.1 z with y|y
 ·exact h k y
 rw [List.mem_singleton] at y;rw [y];exact E
theorem Qhh (d:Nat)(ks:List Nd)(i:Nat)(z:i<ks.length)(y:rgt d ks[i]=false):rgtL d ks=false:=by
 rw [<-Bool.not_eq_true,Q5e];intro h;rw [h _ (getElem_mem z)] at y;simp at y
theorem IsNd.one {w:World}{k:Nd}(h:IsNd w k):∀ u∈Q04 k,u.oneCell'=true:=by
 obtain ⟨kd,H,p,I,v,G,ks⟩:=k;obtain ⟨D,E,z,_⟩:=h.inv;obtain ⟨a,c,rfl,_⟩:=D.form;obtain ⟨a,c,rfl,_⟩:=E.form;obtain ⟨a,c,rfl,_⟩:=z.form;intro u y;simp only [Q04,mem_cons,List.not_mem_nil,or_false] at y;rcases y with rfl|rfl|rfl|rfl<;>rfl
section
variable (N:Nat) (hN:N<=100000000000) (pa va ka:Option Addr) (pn pc vn vc kn kc:Nat) (p v:List UInt8) (ks:List Nd) (hpn:p.length=pn) (hvn:v.length=vn) (hkn:ks.length=kn) (d:Nat) (w:World)
 (hp:Q02 w (.slice pa pn pc) p) (hv:Q02 w (.slice va vn vc) v) (hk:Q05 Q04 4 w (.slice ka kn kc) ks) (hks:∀ k∈ks,IsNd w k)
include hN hvn hkn hk hks in
theorem Qlp (ih:∀ k∈ks,RgtC N k)(hd:d+1+Q0v ks<=N):Calls Tryz.prog 156 #[.agg #[.int .i64 3,.slice pa pn pc,.slice va vn vc,.slice ka kn kc],.int .i64 (d:Int)] w fun e w'=>e=.returned (.bool (rgt d (.mk 3 (.slice pa pn pc) p (.slice va vn vc) v (.slice ka kn kc) ks)))/\Below w.heap.size w w':=by
 obtain ⟨R,hR⟩:=Qe (rgt d (.mk 3 (.slice pa pn pc) p (.slice va vn vc) v (.slice ka kn kc) ks));rw [<-hR];have a2:R=(decide (kn=16)&&decide (vn<=1024)&&(decide (vn=0) || Q5s d)&&rgtL (d+1) ks&&decide (2<=min vn 1+Q27 ks)):=by rw [hR];unfold rgt;rw [hvn,hkn];rfl
 obtain ⟨w1,ao⟩:=Qe (w.alloc (.cells #[.int .i64 3,.slice pa pn pc,.slice va vn vc,.slice ka kn kc] 70));have hz:Blk 70 w1 w.heap.size [.int .i64 3,.slice pa pn pc,.slice va vn vc,.slice ka kn kc]:=by rw [ao];exact D01 w _ _
 have aj:Below w.heap.size w w1:=by rw [ao];exact Qba _ _
 have ae:=Qhd ao;have k2:=(hz.cell 2).trans (show _=some (Value.slice va vn vc) from rfl);have k3:=(hz.cell 3).trans (show _=some (Value.slice ka kn kc) from rfl);rw [ao] at k2 k3;clear ao hR;by_cases h16:kn=16
 ·subst h16;by_cases h1024:vn<=1024
  ·have c2:=fun u=>Qic d u;by_cases hv0:vn=0∨Q5s d=true
   ·have aH:R=(rgtL (d+1) ks&&decide (2<=min vn 1+Q27 ks)):=by
     rw [a2,decide_eq_true h1024];have:(decide (vn=0) || Q5s d)=true:=by rw [Bool.or_eq_true,decide_eq_true_eq];exact hv0
     rw [this];simp
    have aG:¬ (1024:Int)<(vn:Int):=by omega
    have ar:=Qhd aH;have au:=Qhd hkn;clear a2 aH hkn;rcases (show vn=0∨(0<vn/\Q5s d=true) from by rcases hv0 with h|h;exact .inl h;by_cases h0:vn=0;exact .inl h0;exact .inr ⟨by omega,h⟩) with hv0|⟨aO,he⟩
    ·subst hv0;have ax:=Qhd (show (0:Nat)=min 0 1 from rfl);clear c2;go_enter Tryz.func156,Tryz.ntmps156
     go_wp2_with fail
     rw [<-ae.out]
     go_loopw [5,36] (fun mv ix wr=>∃ i:Nat,i<=16/\mv=.int .i64 ((0+Q27 (ks.take i):Nat):Int)/\ix=.int .i64 (i:Int)/\rgtL (d+1) (ks.take i)=true/\Below w.heap.size w wr) (fun _ ix _=>16 - (intOf ix).toNat)
     case atStart=>exact ⟨0,by omega,by simp [Q27],rfl,rfl,aj⟩
     case round =>
      obtain ⟨i,aL,rfl,rfl,S,I⟩:=hrel;obtain ⟨m,J⟩:=Qe (0+Q27 (ks.take i));have aN:m<=17:=by have:=Qms (ks.take i);rw [List.length_take] at this;omega
      rw [<-J];by_cases hlt:i<16
      ·have aM:(i:Int)<16:=by omega
       have G:i<ks.length:=by rw [au.out];exact hlt
       obtain ⟨bk,ok,rfl,T⟩:=Q05.range Q0b (hk.below I) i G;have U:=(hks _ (getElem_mem G)).kept I;have a8:=ih _ (getElem_mem G);have ak:=Q1u (getElem_mem G);have hst:=Qec ks i G;have a0:=Qdw (d+1) ks i G S;have Z:=Qhh (d+1) ks i G;obtain ⟨k,am⟩:=Qe (ks[i]);rw [<-am] at T U a8 ak hst a0 Z;have a9:=Q0b k;have a':∀ u∈Q04 k,u.oneCell'=true:=U.one;have W:(Q04 k)[0]?=some (.int .i64 k.kd):=by cases k;rfl
       have O:=fun (u:World) (hu:Below wr.heap.size wr u)=>a8 (d+1) u (U.kept hu) (by omega);simp only [Int.natCast_add,Int.cast_ofNat_Int] at O;have aR:IntKind.i64.wrap ((d:Int)+1)=(d:Int)+1:=IntWalk.i64_in _ (by omega);have aQ:IntKind.i64.wrap ((m:Int)+1)=(m:Int)+1:=IntWalk.i64_in _ (by omega);obtain ⟨K,hK⟩:=Qe (Q04 k);simp only [<-hK] at T a9 a' W O;obtain ⟨kd,al⟩:=Qe (k.kd);rw [<-al] at hst W;obtain ⟨b,H⟩:=Qe (rgt (d+1) k);simp only [<-H] at O;rw [<-H] at a0 Z;have C3:=Qhd O;have y:=Qhd a9;have a5:=Qhd a';have a4:=Qhd W;have ay:=Qhd Z;have aA:=Qhd hst;have az:=Qhd a0;have Hm:=Qhd J;clear U a8 ak am hK al H a9 a' W Z hst a0 J O S;cases b with
       | false =>
        have V:R=false:=by rw [ar.out,ay.out rfl];rfl
        subst V
        go_wp2_with (first
         |(refine Qlw 70 38 bk (ok+i*4) Q07 y.out T ?_;have L:Below wr.heap.size wr (wr.alloc (.cells #[.int .i64 0,.slice none 0 0,.slice none 0 0,.slice none 0 0] 70)):=Qba _ _)
               |((with_reducible refine Qgs 39 ?_);refine Qsa 70 7 39 wr.heap.size K Q07 (D01 wr 70 [.int .i64 0,.slice none 0 0,.slice none 0 0,.slice none 0 0]) y.out (by rfl) a5.out L (le_refl _) ?_;intro w5 E z _;have M:=D00 I z)
               |(refine Qla 70 7 wr.heap.size Q07 E y.out ?_)
               |(go_at_call 129;(with_reducible refine (C3.out _ z).mono ?_);rintro e w6 ⟨rfl,D⟩;have af:=(((E.kept D).cell 0).trans a4.out)))
        go_ret;exact ⟨rfl,D00 M D⟩
       | true =>
        have ai:=az.out rfl;have a1:=aA.out;by_cases hz0:kd=0
        ·subst hz0;rw [if_pos rfl] at a1;clear hlt
         go_wp2_with (first
          |(refine Qlw 70 38 bk (ok+i*4) Q07 y.out T ?_;have L:Below wr.heap.size wr (wr.alloc (.cells #[.int .i64 0,.slice none 0 0,.slice none 0 0,.slice none 0 0] 70)):=Qba _ _)
               |((with_reducible refine Qgs 39 ?_);refine Qsa 70 7 39 wr.heap.size K Q07 (D01 wr 70 [.int .i64 0,.slice none 0 0,.slice none 0 0,.slice none 0 0]) y.out (by rfl) a5.out L (le_refl _) ?_;intro w5 E z _;have M:=D00 I z)
               |(refine Qla 70 7 wr.heap.size Q07 E y.out ?_)
               |(go_at_call 129;(with_reducible refine (C3.out _ z).mono ?_);rintro e w6 ⟨rfl,D⟩;have af:=(((E.kept D).cell 0).trans a4.out)))
         go_roundw
         case rel=>exact ⟨i+1,by omega,by rw [a1,Hm.out];go_num,by go_num,ai,D00 M D⟩
         case measure=>simp [intOf];omega
        rw [if_neg hz0] at a1;have aS:(kd != 0)=true:=by simp;exact hz0
        have aT:(kd==0)=false:=by rw [beq_eq_false_iff_ne];exact hz0
        clear hlt
        go_wp2_with (first
         |(refine Qlw 70 38 bk (ok+i*4) Q07 y.out T ?_;have L:Below wr.heap.size wr (wr.alloc (.cells #[.int .i64 0,.slice none 0 0,.slice none 0 0,.slice none 0 0] 70)):=Qba _ _)
              |((with_reducible refine Qgs 39 ?_);refine Qsa 70 7 39 wr.heap.size K Q07 (D01 wr 70 [.int .i64 0,.slice none 0 0,.slice none 0 0,.slice none 0 0]) y.out (by rfl) a5.out L (le_refl _) ?_;intro w5 E z _;have M:=D00 I z)
              |(refine Qla 70 7 wr.heap.size Q07 E y.out ?_)
              |(go_at_call 129;(with_reducible refine (C3.out _ z).mono ?_);rintro e w6 ⟨rfl,D⟩;have af:=(((E.kept D).cell 0).trans a4.out)))
        go_roundw
        case rel=>exact ⟨i+1,by omega,by rw [a1,<-add_assoc,<-Hm.out];go_num,by go_num,ai,D00 M D⟩
        case measure=>simp [intOf];omega
      obtain rfl:i=16:=by omega
      have an:ks.take 16=ks:=by rw [<-au.out,take_length]
      rw [an] at S J;have ah:R=decide (2<=m):=by rw [ar.out,S,J,<-ax.out];rfl
      have aC:decide ((2:Int)<=(m:Int))=decide (2<=m):=by congr 1;rw [eq_iff_iff];omega
      obtain ⟨b,H⟩:=Qe (decide (2<=m));rw [<-H] at aC ah;subst ah;clear H an J S
      go_wp2_with fail
      go_ret;exact ⟨rfl,I⟩
    rw [he] at c2;have C2:=Qhd c2;have aP:(0:Int)<(vn:Int):=by omega
    have ax:=Qhd (show (1:Nat)=min vn 1 from by omega);clear c2;go_enter Tryz.func156,Tryz.ntmps156
    go_wp2_with (go_at_call 155;(with_reducible refine (C2.out _).mono ?_);rintro e w3 ⟨rfl,b3⟩;rw [<-ae.out] at b3;have aB:=D00 aj b3;have z3:=hz.kept b3;have j2:=(z3.cell 2).trans (show _=some (Value.slice va vn vc) from rfl);have j3:=(z3.cell 3).trans (show _=some (Value.slice ka 16 kc) from rfl))
    all_goals
     go_loopw [5,36] (fun mv ix wr=>∃ i:Nat,i<=16/\mv=.int .i64 ((1+Q27 (ks.take i):Nat):Int)/\ix=.int .i64 (i:Int)/\rgtL (d+1) (ks.take i)=true/\Below w.heap.size w wr) (fun _ ix _=>16 - (intOf ix).toNat)
     case atStart=>exact ⟨0,by omega,by first|(simp [Q27];done)|(simp [Q27];omega),rfl,rfl,aB⟩
     case round =>
      obtain ⟨i,aL,rfl,rfl,S,I⟩:=hrel;obtain ⟨m,J⟩:=Qe (1+Q27 (ks.take i));have aN:m<=17:=by have:=Qms (ks.take i);rw [List.length_take] at this;omega
      rw [<-J];by_cases hlt:i<16
      ·have aM:(i:Int)<16:=by omega
       have G:i<ks.length:=by rw [au.out];exact hlt
       obtain ⟨bk,ok,rfl,T⟩:=Q05.range Q0b (hk.below I) i G;have U:=(hks _ (getElem_mem G)).kept I;have a8:=ih _ (getElem_mem G);have ak:=Q1u (getElem_mem G);have hst:=Qec ks i G;have a0:=Qdw (d+1) ks i G S;have Z:=Qhh (d+1) ks i G;obtain ⟨k,am⟩:=Qe (ks[i]);rw [<-am] at T U a8 ak hst a0 Z;have a9:=Q0b k;have a':∀ u∈Q04 k,u.oneCell'=true:=U.one;have W:(Q04 k)[0]?=some (.int .i64 k.kd):=by cases k;rfl
       have O:=fun (u:World) (hu:Below wr.heap.size wr u)=>a8 (d+1) u (U.kept hu) (by omega);simp only [Int.natCast_add,Int.cast_ofNat_Int] at O;have aR:IntKind.i64.wrap ((d:Int)+1)=(d:Int)+1:=IntWalk.i64_in _ (by omega);have aQ:IntKind.i64.wrap ((m:Int)+1)=(m:Int)+1:=IntWalk.i64_in _ (by omega);obtain ⟨K,hK⟩:=Qe (Q04 k);simp only [<-hK] at T a9 a' W O;obtain ⟨kd,al⟩:=Qe (k.kd);rw [<-al] at hst W;obtain ⟨b,H⟩:=Qe (rgt (d+1) k);simp only [<-H] at O;rw [<-H] at a0 Z;have C3:=Qhd O;have y:=Qhd a9;have a5:=Qhd a';have a4:=Qhd W;have ay:=Qhd Z;have aA:=Qhd hst;have az:=Qhd a0;have Hm:=Qhd J;clear U a8 ak am hK al H a9 a' W Z hst a0 J O S;cases b with
       | false =>
        have V:R=false:=by rw [ar.out,ay.out rfl];rfl
        subst V
        go_wp2_with (first
         |(refine Qlw 70 38 bk (ok+i*4) Q07 y.out T ?_;have L:Below wr.heap.size wr (wr.alloc (.cells #[.int .i64 0,.slice none 0 0,.slice none 0 0,.slice none 0 0] 70)):=Qba _ _)
               |((with_reducible refine Qgs 39 ?_);refine Qsa 70 7 39 wr.heap.size K Q07 (D01 wr 70 [.int .i64 0,.slice none 0 0,.slice none 0 0,.slice none 0 0]) y.out (by rfl) a5.out L (le_refl _) ?_;intro w5 E z _;have M:=D00 I z)
               |(refine Qla 70 7 wr.heap.size Q07 E y.out ?_)
               |(go_at_call 129;(with_reducible refine (C3.out _ z).mono ?_);rintro e w6 ⟨rfl,D⟩;have af:=(((E.kept D).cell 0).trans a4.out)))
        go_ret;exact ⟨rfl,D00 M D⟩
       | true =>
        have ai:=az.out rfl;have a1:=aA.out;by_cases hz0:kd=0
        ·subst hz0;rw [if_pos rfl] at a1;clear hlt
         go_wp2_with (first
          |(refine Qlw 70 38 bk (ok+i*4) Q07 y.out T ?_;have L:Below wr.heap.size wr (wr.alloc (.cells #[.int .i64 0,.slice none 0 0,.slice none 0 0,.slice none 0 0] 70)):=Qba _ _)
               |((with_reducible refine Qgs 39 ?_);refine Qsa 70 7 39 wr.heap.size K Q07 (D01 wr 70 [.int .i64 0,.slice none 0 0,.slice none 0 0,.slice none 0 0]) y.out (by rfl) a5.out L (le_refl _) ?_;intro w5 E z _;have M:=D00 I z)
               |(refine Qla 70 7 wr.heap.size Q07 E y.out ?_)
               |(go_at_call 129;(with_reducible refine (C3.out _ z).mono ?_);rintro e w6 ⟨rfl,D⟩;have af:=(((E.kept D).cell 0).trans a4.out)))
         go_roundw
         case rel=>exact ⟨i+1,by omega,by rw [a1,Hm.out];go_num,by go_num,ai,D00 M D⟩
         case measure=>simp [intOf];omega
        rw [if_neg hz0] at a1;have aS:(kd != 0)=true:=by simp;exact hz0
        have aT:(kd==0)=false:=by rw [beq_eq_false_iff_ne];exact hz0
        clear hlt
        go_wp2_with (first
         |(refine Qlw 70 38 bk (ok+i*4) Q07 y.out T ?_;have L:Below wr.heap.size wr (wr.alloc (.cells #[.int .i64 0,.slice none 0 0,.slice none 0 0,.slice none 0 0] 70)):=Qba _ _)
              |((with_reducible refine Qgs 39 ?_);refine Qsa 70 7 39 wr.heap.size K Q07 (D01 wr 70 [.int .i64 0,.slice none 0 0,.slice none 0 0,.slice none 0 0]) y.out (by rfl) a5.out L (le_refl _) ?_;intro w5 E z _;have M:=D00 I z)
              |(refine Qla 70 7 wr.heap.size Q07 E y.out ?_)
              |(go_at_call 129;(with_reducible refine (C3.out _ z).mono ?_);rintro e w6 ⟨rfl,D⟩;have af:=(((E.kept D).cell 0).trans a4.out)))
        go_roundw
        case rel=>exact ⟨i+1,by omega,by rw [a1,<-add_assoc,<-Hm.out];go_num,by go_num,ai,D00 M D⟩
        case measure=>simp [intOf];omega
      obtain rfl:i=16:=by omega
      have an:ks.take 16=ks:=by rw [<-au.out,take_length]
      rw [an] at S J;have ah:R=decide (2<=m):=by rw [ar.out,S,J,<-ax.out];rfl
      have aC:decide ((2:Int)<=(m:Int))=decide (2<=m):=by congr 1;rw [eq_iff_iff];omega
      obtain ⟨b,H⟩:=Qe (decide (2<=m));rw [<-H] at aC ah;subst ah;clear H an J S
      go_wp2_with fail
      go_ret;exact ⟨rfl,I⟩
   have aO:0<vn:=by omega
   have he:Q5s d=false:=by rw [<-Bool.not_eq_true];exact fun e=>hv0 (.inr e)
   have V:R=false:=by rw [a2,he];simp;intro _ _ h;omega
   subst V;rw [he] at c2;have C2:=Qhd c2;have aG:¬ (1024:Int)<(vn:Int):=by omega
   have aP:(0:Int)<(vn:Int):=by omega
   clear c2 a2;go_enter Tryz.func156,Tryz.ntmps156
   go_wp2_with (go_at_call 155;(with_reducible refine (C2.out _).mono ?_);rintro e w3 ⟨rfl,b3⟩;rw [<-ae.out] at b3;have aB:=D00 aj b3)
   go_ret;exact ⟨rfl,aB⟩
  have V:R=false:=by rw [a2,decide_eq_false h1024];simp
  subst V;have aG:(1024:Int)<(vn:Int):=by omega
  clear a2;go_enter Tryz.func156,Tryz.ntmps156
  go_wp2_with fail
  rw [<-ae.out];go_ret;exact ⟨rfl,aj⟩
 have V:R=false:=by rw [a2,decide_eq_false h16];simp
 subst V;have aX:((kn:Int)==16)=false:=by rw [beq_eq_false_iff_ne];omega
 clear a2;go_enter Tryz.func156,Tryz.ntmps156
 go_wp2_with fail
 rw [<-ae.out];go_ret;exact ⟨rfl,aj⟩
end
theorem Qfi (kd:Int)(D H h:Option Addr)(G E J I z y:Nat)(d:Nat)(w:World)(K:kd≠1)(L:kd≠2)(M:kd≠3) :
  Calls Tryz.prog 129 #[.agg #[.int .i64 kd,.slice D G E,.slice H J I,.slice h z y],.int .i64 (d:Int)] w fun e w'=>e=.returned (.bool (decide (kd=0)))/\Below w.heap.size w w':=by
 have S:(kd==1)=false:=by rw [beq_eq_false_iff_ne];exact K
 have T:(kd==2)=false:=by rw [beq_eq_false_iff_ne];exact L
 have U:(kd==3)=false:=by rw [beq_eq_false_iff_ne];exact M
 have N:Below w.heap.size w (w.alloc (.cells #[.int .i64 kd,.slice D G E,.slice H J I,.slice h z y] 70)):=Qba _ _;have V:=((D01 w 70 [.int .i64 kd,.slice D G E,.slice H J I,.slice h z y]).cell 0).trans (show _=some (Value.int .i64 kd) from rfl);clear K L M;by_cases h0:kd=0
 ·subst h0;go_enter Tryz.func129,Tryz.ntmps129
  go_wp2_with fail
  go_ret;exact ⟨rfl,N⟩
 have O:(kd==0)=false:=by rw [beq_eq_false_iff_ne];exact h0
 rw [decide_eq_false h0];clear h0;go_enter Tryz.func129,Tryz.ntmps129
 go_wp2_with fail
 go_ret;exact ⟨rfl,N⟩
theorem Qdv (N:Nat)(J:N<=100000000000):∀ (n:Nat) (t:Nd),SizeOf.sizeOf t<=n->RgtC N t
 | 0,.mk kd pv p vv v kv ks,h=>by simp at h
 | n+1,.mk kd pv p vv v kv ks,h=>by
  intro d w hI U;have S:∀ k∈ks,RgtC N k:=by
   intro k I;refine Qdv N J n k ?_;have:=List.sizeOf_lt_of_mem I;simp only [Nd.mk.sizeOf_spec] at h;omega
  obtain ⟨T,hv,I,M⟩:=hI.inv;obtain ⟨D,E,rfl,_,_⟩:=T.form;obtain ⟨G,H,rfl,_,_⟩:=hv.form;obtain ⟨y,z,rfl,_,_⟩:=I.form;simp only [Q15] at U;by_cases h1:kd=1
  ·subst h1;exact Qjf N J D G y p.length E v.length H ks.length z p v ks rfl rfl d w T (by omega)
  by_cases h2:kd=2
  ·subst h2;exact Qje N J D G y p.length E v.length H ks.length z p v ks rfl rfl d w T I M S (by omega)
  by_cases h3:kd=3
  ·subst h3;have O:Below w.heap.size w (w.alloc (.cells #[.int .i64 3,.slice D p.length E,.slice G v.length H,.slice y ks.length z] 70)):=Qba _ _;have V:=D01 w 70 [.int .i64 3,.slice D p.length E,.slice G v.length H,.slice y ks.length z];have k0:=(V.cell 0).trans (show _=some (Value.int .i64 3) from rfl);have c1:=Qlp N J D G y p.length E v.length H ks.length z p v ks rfl rfl d (w.alloc (.cells #[.int .i64 3,.slice D p.length E,.slice G v.length H,.slice y ks.length z] 70)) (I.below O) (fun k I=>(M k I).kept O) S (by omega);obtain ⟨R,K⟩:=Qe (rgt d (.mk 3 (.slice D p.length E) p (.slice G v.length H) v (.slice y ks.length z) ks));rw [<-K] at c1 |-;have r1:=V.all0;have W:=Qhd c1;clear c1 K S M h U;show Calls Tryz.prog 129 #[.agg #[.int .i64 3,.slice D p.length E,.slice G v.length H,.slice y ks.length z],.int .i64 (d:Int)] w _;go_enter Tryz.func129,Tryz.ntmps129
   go_wp2_with (first
    |(refine Qlw 70 2 w.heap.size 0 Q07 (by rfl) r1 ?_)
    |(go_at_call 156;(with_reducible refine W.out.mono ?_);rintro e w2 ⟨rfl,Z⟩))
   go_ret;exact ⟨rfl,D00 O Z⟩
  have K:rgt d (.mk kd (.slice D p.length E) p (.slice G v.length H) v (.slice y ks.length z) ks)=decide (kd=0):=by
   unfold rgt;rw [if_neg h1,if_neg h2,if_neg h3];split
   ·rename_i L;exact (decide_eq_true L).symm
   rename_i L;exact (decide_eq_false L).symm
  rw [K];exact Qfi kd D G y p.length E v.length H ks.length z d w h1 h2 h3
theorem Qaa (t:Nd)(w:World)(h:IsNd w t)(I:Q15 t<=100000000000):Calls Tryz.prog 103 #[.agg (Q04 t).toArray] w fun e w'=>e=.returned (.bool (rgt 0 t))/\Below w.heap.size w w':=by
 obtain ⟨K,y⟩:=Qe (Q04 t);have H:K.length=4:=by rw [y];exact Q0b t
 have D:Below w.heap.size w (w.alloc (.cells K.toArray 70)):=Qba _ _;have J:=(D01 w 70 K).all0;have c1:Calls Tryz.prog 129 #[.agg (Q04 t).toArray,.int .i64 0] (w.alloc (.cells K.toArray 70)) (fun e w'=>e=.returned (.bool (rgt 0 t))/\Below (w.alloc (.cells K.toArray 70)).heap.size (w.alloc (.cells K.toArray 70)) w'):=Qdv 100000000000 (le_refl _) (SizeOf.sizeOf t) t (le_refl _) 0 (w.alloc (.cells K.toArray 70)) (h.kept D) (by omega);simp only [<-y] at c1 |-;obtain ⟨R,z⟩:=Qe (rgt 0 t);rw [<-z] at c1 |-;have E:=Qhd c1;clear c1 z y h I;go_enter Tryz.func103,Tryz.ntmps103
 go_wp2_with (first
  |(refine Qlw 70 1 w.heap.size 0 Q07 H J ?_)
  |(go_at_call 129;(with_reducible refine E.out.mono ?_);rintro e L ⟨rfl,G⟩))
 go_ret;exact ⟨rfl,D00 D G⟩
section
variable {P:Program} {t:TypeId} (ht:P.underlying t=some .string) (l:List UInt8)
theorem Qrc (a b:ByteArray)(h:a.data.toList=b.data.toList):a=b:=by
 cases a;cases b;rw [ByteArray.mk.injEq];exact Array.toList_inj.1 h
theorem Qrd (y h:Nat):((⟨l.toArray⟩:ByteArray).extract y h)=⟨((l.take h).drop y).toArray⟩:=by
 apply Qrc;simp [ByteArray.data_extract,List.extract_eq_take_drop];rw [List.drop_take]
include ht in
theorem Qbn (y:Nat)(x:Int)(z:x=y)(h:y<=l.length):∀ (k:IntKind) (w:World),(Instr.slice t (.string ⟨l.toArray⟩) (some (.int k x)) none none).run P w=.ok (.string ⟨(l.drop y).toArray⟩) w:=by
 intro k w;subst z;have:=run_slice_string_l (P:=P) w t (⟨l.toArray⟩:ByteArray) ht k (y:Int) (by omega) (by show (y:Int)<=(l.toArray.size:Int);simp;omega);rw [this,Qrd];congr 4;show (l.take l.toArray.size).drop _=_;simp
include ht in
theorem Qqu (y:Nat)(x:Int)(z:x=y)(h:y<=l.length):∀ (k:IntKind) (w:World),(Instr.slice t (.string ⟨l.toArray⟩) none (some (.int k x)) none).run P w=.ok (.string ⟨(l.take y).toArray⟩) w:=by
 intro k w;subst z;have:=run_slice_string_h (P:=P) w t (⟨l.toArray⟩:ByteArray) ht k (y:Int) (by omega) (by show (y:Int)<=(l.toArray.size:Int);simp;omega);rw [this,Qrd];simp
include ht in
theorem Qky (i:Nat)(x:Int)(z:x=i)(c:UInt8)(h:l[i]?=some c):∀ (k:IntKind) (w:World),(Instr.index t (.string ⟨l.toArray⟩) (.int k x)).run P w=.ok (.int .u8 (c.toNat:Int)) w:=by
 intro k w;subst z;have D:=(List.getElem?_eq_some_iff.1 h).1;rw [run_index_string w t (⟨l.toArray⟩:ByteArray) k (i:Int) ht];have y:(⟨l.toArray⟩:ByteArray).size=l.length:=by show l.toArray.size=_;simp
 rw [dif_pos ⟨by omega,by rw [y];omega⟩];congr 3;have:(⟨l.toArray⟩:ByteArray)[(i:Int).toNat]'(by rw [y];omega)=l[i]:=by
  show l.toArray[i]=_;simp
 rw [this,(List.getElem?_eq_some_iff.1 h).2]
end
theorem Q6f (l:List UInt8):(⟨l.toArray⟩:ByteArray).size=l.length:=by show l.toArray.size=_;simp
end Go.Proofs.YtbdmkfjgnjfjbaaGreat
