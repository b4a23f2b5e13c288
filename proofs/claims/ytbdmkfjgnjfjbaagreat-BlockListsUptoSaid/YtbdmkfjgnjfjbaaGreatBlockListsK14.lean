/- Items as data; the heads of what they are written as. | Items as data: what they are written as. | pack.Text, pack.List and the reference's. | pack.Encode. | Th -/
import Derived.Test.YtbdmkfjgnjfjbaaGreatBlockListsK01
import Derived.Test.YtbdmkfjgnjfjbaaGreatBlockListsK13
set_option linter.unusedSimpArgs false
set_option linter.unusedVariables false
set_option maxHeartbeats 4000000
set_option maxRecDepth 100000
open List (getElem_mem length_eq_one_iff map_cons take_nil)
open Nat (le_refl mod_eq_of_lt)
namespace Go.Proofs.YtbdmkfjgnjfjbaaGreat
open Go.RowKit
def Q1f (base n:Nat):List UInt8:=if n<48 then [UInt8.ofNat (base+n)] else UInt8.ofNat (base+48+((numB n).length - 1))::numB n
theorem Qk6 (l:List UInt8):∃ k,l=List.replicate k 0++bare l:=by
 induction l with
 | nil=>exact ⟨0,rfl⟩
 | cons x l ih =>
  by_cases h:x=0
  ·obtain ⟨k,y⟩:=ih;refine ⟨k+1,?_⟩;rw [h,Q3j,List.replicate_succ,List.cons_append,<-y]
  exact ⟨0,by rw [Q3k x l h];rfl⟩
theorem Qmi (l:List UInt8):numL (bare l)=numL l:=by
 obtain ⟨k,h⟩:=Qk6 l;rw [h,Qhv];rw [Qil,Qeu _ (Q6y l)]
theorem Qsb (l:List UInt8)(h:l.head?≠some 0)(z:l≠[]):256 ^ (l.length - 1)<=numL l:=by
 cases l with
 | nil=>exact absurd rfl z
 | cons x l =>
  have D:1<=x.toNat:=by
   have:x≠0:=by simpa using h
   rcases Nat.eq_zero_or_pos x.toNat with y|y
   ·exact absurd (UInt8.toNat_inj.1 (by rw [y];rfl)) this
   exact y
  simp only [numL,List.length_cons,Nat.add_sub_cancel];have:1*256 ^ l.length<=x.toNat*256 ^ l.length:=Nat.mul_le_mul_right _ D;omega
theorem Qc8 (N:Nat)(h:N<W256):numL (numB N)=N:=by unfold numB;rw [Qmi,Qmf N h]
theorem Qpr (N k:Nat)(h:N<256 ^ k)(D:N<W256):(numB N).length<=k:=by
 by_cases hn:numB N=[]
 ·rw [hn];simp
 have z:=Qsb (numB N) (Q6y _) hn;rw [Qc8 N D] at z;rcases Nat.lt_or_ge k (numB N).length with y|y
 ·have:(256:Nat) ^ k<=256 ^ ((numB N).length - 1):=Nat.pow_le_pow_right (by omega) (by omega);omega
 exact y
theorem Qc7 (N:Nat)(h:0<N)(z:N<W256):1<=(numB N).length:=by
 rcases Nat.eq_zero_or_pos (numB N).length with y|y
 ·have:=Qc8 N z;rw [List.eq_nil_of_length_eq_zero y] at this;simp [numL] at this;omega
 exact y
theorem Qhy (n:Nat)(h:n<18446744073709551616):(numB n).length<=8 :=
 Qpr n 8 (by rw [show (256:Nat) ^ 8=18446744073709551616 from rfl];exact h) (by unfold W256;omega)
theorem Q2w (y n:Nat)(h:n<18446744073709551616):(Q1f y n).length<=9:=by
 unfold Q1f;split
 ·simp
 have:=Qhy n h;simp;omega
theorem Qi8 (h n:Nat)(hb:h<=192)(hn:n<=4611686018427387904)(w:World) :
  Calls Tryz.prog 87 #[.int .u8 (h:Int),.int .i64 (n:Int)] w fun e w'=>∃ v,e=.returned v/\Q08 b8 1 5 w' w.heap.size v (Q1f h n)/\Below w.heap.size w w':=by
 by_cases h48:n<48
 ·have a9:(n:Int)<48:=by omega
  have w1:IntKind.u8.wrap (n:Int)=(n:Int):=IntWalk.u8_in _ (by omega);have O:IntKind.u8.wrap ((h:Int)+(n:Int))=(h:Int)+(n:Int):=IntWalk.u8_in _ (by omega);have z:Q1f h n=[UInt8.ofNat (h+n)]:=by unfold Q1f;rw [if_pos h48]
  have y:u8v (UInt8.ofNat (h+n))=.int .u8 ((h:Int)+(n:Int)):=by unfold u8v;rw [UInt8.toNat_ofNat',mod_eq_of_lt (by omega)];simp
  have G:=Qhd z;have I:=Qhd y;clear z y;go_enter Tryz.func87,Tryz.ntmps87
  go_wp2
  go_ret;refine ⟨_,rfl,Q08.made b8 1 _ w w.heap.size _ _ 1 ?_ (by rw [G.out];rfl) (by simp) (le_refl _) (by unfold maxLen;omega),Qba _ _⟩;rw [G.out,Q22,map_cons,I.out];rfl
 have a9:¬ (n:Int)<48:=by omega
 have W:=Qhy n (by omega);have V:=Qc7 n (by omega) (by unfold W256;omega);have z:Q1f h n=[UInt8.ofNat (h+48+((numB n).length - 1))]++numB n:=by unfold Q1f;rw [if_neg h48];rfl
 have y:u8v (UInt8.ofNat (h+48+((numB n).length - 1)))=.int .u8 ((h:Int)+48+(((numB n).length:Int) - 1)):=by unfold u8v;rw [UInt8.toNat_ofNat',mod_eq_of_lt (by omega)];congr 1;omega
 have J:=fun w=>Qme n w;have U:=fun w=>Qnc n (by omega) w;obtain ⟨B,K⟩:=Qe (numB n);rw [<-K] at W V z y;simp only [<-K] at J;obtain ⟨L,M⟩:=Qe (B.length);rw [<-M] at W V z y;obtain ⟨X,Z⟩:=Qe (UInt8.ofNat (h+48+(L - 1)));rw [<-Z] at z y;obtain ⟨D,N⟩:∃ D:Int,D=(h:Int)+48+((L:Int) - 1):=⟨_,rfl⟩;have w0:IntKind.u64.wrap (n:Int)=(n:Int):=IntWalk.u64_in _ (by omega);have w1:IntKind.u8.wrap ((h:Int)+48)=(h:Int)+48:=IntWalk.u8_in _ (by omega);have O:IntKind.i64.wrap ((L:Int) - 1)=(L:Int) - 1:=IntWalk.i64_in _ (by omega);have w3:IntKind.u8.wrap ((L:Int) - 1)=(L:Int) - 1:=IntWalk.u8_in _ (by omega);have w4:IntKind.u8.wrap ((h:Int)+48+((L:Int) - 1))=D:=by rw [N];exact IntWalk.u8_in _ (by omega)
 rw [<-N] at y;have G:=Qhd z;have I:=Qhd y;have H:=Qhd M;have Cn:=Qhd J;have Ci:=Qhd U;clear z y K M Z N J U;go_enter Tryz.func87,Tryz.ntmps87
 go_wp2_with (first
  |(go_at_call 51;(with_reducible refine (Ci.out _).mono ?_);rintro e w1 ⟨rfl,S⟩)
  |(go_at_call 50;(with_reducible refine (Cn.out _).mono ?_);rintro e O ⟨v,rfl,o2,b2⟩;have E:=D00 S b2;have ag:=S.size;obtain ⟨a2,c2,rfl,_⟩:=o2.form' L H.out.symm)
  |(refine Q25 (o:=⟨some 24,_,_,_,_,_⟩) (by rfl) (.tmp 23) 25 (by rfl) elU8 (.int .u8 D) [.int .u8 D] (by rfl) (by rfl) rfl (by omega) ?_;have o3:=Q08.made b8 1 5 O w.heap.size [X] #[.int .u8 D] 1 (by rw [Q22,map_cons,I.out];rfl) rfl rfl E.size (by unfold maxLen;omega);have o4:=o2.row.alloc (.cells #[.int .u8 D] 5);have T:=E.alloc E.size (.cells #[.int .u8 D] 5))
  |(refine Q0x (o:=⟨some 26,_,_,_,_,_⟩) (by rfl) (.tmp 24) (.tmp 25) 25 (by rfl) elU8 (by rfl) o3 (by rfl) o4 (by have:=E.size;simp;omega) (by rw [<-H.out];simp;omega) (by rw [<-H.out];unfold maxLen;simp;omega) ?_;intro v5 w5 o5 g5 _;have b5:=T.grown g5 T.size (fun j hj=>by cases hj;exact E.size)))
 go_ret;exact ⟨_,rfl,by rw [G.out];exact o5,b5⟩
inductive Itm where
 | mk (l:Bool) (tv:Value) (t:List UInt8) (kv:Value) (ks:List Itm)
def Q0j:Itm->List Value
 | .mk l tv _ kv _=>[.bool l,tv,kv]
theorem Q09:Agg Tryz.prog 77 3:=⟨_,Tryz.underlying77,rfl,by kernel_rfl⟩
theorem Q0k (x:Itm):(Q0j x).length=3:=by cases x;rfl
inductive Q17 (w:World):Itm->Prop where
 | mk (l:Bool) (tv:Value) (t:List UInt8) (kv:Value) (ks:List Itm) (ht:Q02 w tv t) (hk:Q05 Q0j 3 w kv ks) (h:∀ k∈ks,Q17 w k):Q17 w (.mk l tv t kv ks)
theorem Q17.kept {w w':World}{x:Itm}(h:Q17 w x)(y:Below w.heap.size w w'):Q17 w' x:=by
 induction h with
 | mk l tv t kv ks ht hk _ ih=>exact .mk l tv t kv ks (ht.kept y) (hk.kept y) ih
theorem Q17.inv {w:World}{l:Bool}{z:Value}{t:List UInt8}{y:Value}{ks:List Itm}(h:Q17 w (.mk l z t y ks)):Q02 w z t/\Q05 Q0j 3 w y ks/\∀ k∈ks,Q17 w k:=by
 cases h with
 | mk _ _ _ _ _ ht hk h=>exact ⟨ht,hk,h⟩
def Q1q (t:List UInt8):List UInt8:=if t.length=1/\(t[0]?.getD 0).toNat<128 then t else Q1f 128 t.length++t
mutual
def encI:Itm->List UInt8
 | .mk l _ t _ ks=>if l=true then Q1f 192 (encL ks).length++encL ks else Q1q t
def encL:List Itm->List UInt8
 | []=>[]
 | k::ks=>encI k++encL ks
end
mutual
def Q1z:Itm->Nat
 | .mk _ _ t _ ks=>1+t.length+Q2g ks
def Q2g:List Itm->Nat
 | []=>0
 | k::ks=>Q1z k+Q2g ks
end
theorem Qid (l m:List Itm):encL (l++m)=encL l++encL m:=by
 induction l with
 | nil=>simp [encL]
 | cons x l ih=>simp [encL,ih]
theorem Qnv (l:List Itm)(k:Itm):encL (l++[k])=encL l++encI k:=by rw [Qid];simp [encL]
theorem Q4m {k:Itm}:∀ {ks:List Itm},k∈ks->Q1z k<=Q2g ks
 | x::ks,h=>by
  unfold Q2g;rcases List.mem_cons.1 h with rfl|h
  ·omega
  have:=Q4m h;omega
theorem Q8c (x:Itm):1<=Q1z x:=by cases x;unfold Q1z;omega
theorem Q8d:∀ (ks:List Itm),ks.length<=Q2g ks
 | []=>by simp [Q2g]
 | k::ks=>by
  have:=Q8c k;have:=Q8d ks;simp only [Q2g,List.length_cons];omega
theorem Qpy (t:List UInt8)(h:t.length<18446744073709551616):(Q1q t).length<=9+t.length:=by
 unfold Q1q;split
 ·omega
 have:=Q2w 128 t.length h;simp;omega
theorem Q4h:∀ (n:Nat)(x:Itm),Q1z x<=n->n<=1000000000000->(encI x).length<=10*Q1z x
 | 0,x,h,_=>by have:=Q8c x;omega
 | n+1,.mk l tv t kv ks,h,hn=>by
  have z:∀ (ks:List Itm),Q2g ks<=n->(encL ks).length<=10*Q2g ks:=by
   intro ks;induction ks with
   | nil=>intro _;simp [encL,Q2g]
   | cons k ks ih =>
    intro y;unfold Q2g at y |-;unfold encL;have D:=Q4h n k (by omega) (by omega);have E:=ih (by omega);simp;omega
  unfold Q1z at h |-;unfold encI;have y:=z ks (by omega);split
  ·have:=Q2w 192 (encL ks).length (by omega);simp;omega
  have:=Qpy t (by omega);omega
theorem Qch (ks:List Itm)(h:Q2g ks<=1000000000000):(encL ks).length<=10*Q2g ks:=by
 induction ks with
 | nil=>simp [encL,Q2g]
 | cons k ks ih =>
  unfold Q2g at h |-;unfold encL;have y:=Q4h (Q1z k) k (le_refl _) (by omega);have z:=ih (by omega);simp;omega
theorem Qg9 (ks:List Itm)(k:Nat):(encL (ks.take k)).length<=(encL ks).length:=by
 have e:encL ks=encL (ks.take k)++encL (ks.drop k):=by rw [<-Qid,List.take_append_drop]
 rw [e];simp
theorem Q9t (ks:List Itm)(k:Nat)(h:k<ks.length):encL (ks.take (k+1))=encL (ks.take k)++encI ks[k]:=by
 rw [List.take_succ_eq_append_getElem h,Qnv]
def OwnH (B base n:Nat):Ty:=fun v w=>Q08 b8 1 5 w B v (Q1f base n)
theorem OwnH.mono (B y n:Nat):Mono (OwnH B y n):=fun _ _ _ h hb=>Q08.kept h hb
def Qa8 (x:Itm)(w:World)(e:Ending)(w':World):Prop:=∃ v,e=.returned v/\Q08 b8 1 5 w' w.heap.size v (encI x)/\Below w.heap.size w w'
theorem Qqc (I:Option Addr)(y E:Nat)(t:List UInt8)(M:t.length=y)(G:Value)(ks:List Itm)(w:World)(h:Q02 w (.slice I y E) t)(hN:y<=1000000000000) :
  Calls Tryz.prog 47 #[.agg #[.bool false,.slice I y E,G]] w (Qa8 (.mk false (.slice I y E) t G ks) w):=by
 have D:Below w.heap.size w (w.alloc (.cells #[.bool false,.slice I y E,G] 77)):=Qba _ _;by_cases H:y=1/\(t[0]?.getD 0).toNat<128
 ·obtain ⟨H,Z⟩:=H;obtain ⟨x,rfl⟩:∃ x,t=[x]:=length_eq_one_iff.1 (M.trans H);subst H;have hx:(x.toNat:Int)<128:=by simp at Z;omega
  obtain ⟨b,off,rfl,L⟩:=Q02.at h 0 (by simp);have S:encI (.mk false (.slice (some ⟨b,off,none⟩) 1 E) [x] G ks)=[x]:=by
   unfold encI Q1q;rw [if_neg (by simp),if_pos (by simp at Z |-;exact Z)]
  have a8:=World.block_lt_of_cell? w _ L;have a6:(w.alloc (.cells #[.bool false,.slice (some ⟨b,off,none⟩) 1 E,G] 77)).cell? ⟨b,off,none⟩=some (.int .u8 (x.toNat:Int)):=by
   rw [D.cell (p:=⟨b,off,none⟩) a8];simpa using L
  have hO:=Q08.made b8 1 5 (w.alloc (.cells #[.bool false,.slice (some ⟨b,off,none⟩) 1 E,G] 77)) w.heap.size [x] #[.int .u8 (x.toNat:Int)] 1 rfl rfl rfl D.size (by unfold maxLen;omega);rw [World.size_alloc] at hO;have HO:=Qhd hO;have V:=Qhd S;clear S M L Z hO;go_enter Tryz.func47,Tryz.ntmps47
  go_wp2_with fail
  go_ret;refine ⟨_,rfl,?_,D.alloc D.size _⟩;rw [V.out];exact HO.out
 have S:encI (.mk false (.slice I y E) t G ks)=Q1f 128 y++t:=by
  unfold encI Q1q;rw [if_neg (by simp),if_neg (by rw [M];exact H),M]
 have ai:=Q2w 128 y (by omega);have ch:=fun w=>Qi8 128 y (by omega) (by omega) w;obtain ⟨N,a0⟩:=Qe (w.alloc (.cells #[.bool false,.slice I y E,G] 77));have an:Blk 77 N w.heap.size [.bool false,.slice I y E,G]:=by rw [a0];exact D01 w _ _
 rw [<-a0] at D;have kt:=an.cell 1;have k1:=fun u:Ext N=>u.cell (kt.trans (show _=some (Value.slice I y E) from rfl));have ah:=h.below D;have V:=Qhd S;have a1:=Qhd a0;have af:=Qhd M;have Ch:=Qhd ch;have W:=Qhd ai;clear S a0 ch kt ai;by_cases ht1:y=1
 ·subst ht1;obtain ⟨x,rfl⟩:∃ x,t=[x]:=length_eq_one_iff.1 M;have hx:¬ (x.toNat:Int)<128:=fun hx=>H ⟨rfl,by simp;omega⟩;obtain ⟨b,off,rfl,L⟩:=Q02.at h 0 (by simp);have a8:=World.block_lt_of_cell? w _ L;have a6:N.cell? ⟨b,off,none⟩=some (.int .u8 (x.toNat:Int)):=by
   rw [D.cell (p:=⟨b,off,none⟩) a8];simpa using L
  rw [a1.out] at a6;clear M L H;go_enter Tryz.func47,Tryz.ntmps47
  go_wp2_with fail
  rw [<-a1.out];clear a6;refine Q03 N 6 (by kernel_rfl) (by kernel_rfl) (Below.refl _ _) ?_;simp only [List.take_succ_cons,List.take_zero,take_nil]
  iterate 3 (refine Q06 (by rfl) (fun K z=>?_);go_simp;refine z _ ?_;clear z K)
  refine Q0e 28 (OwnH N.heap.size 128 1) rfl (of_decide_eq_true rfl) (OwnH.mono _ _ _) (fun w2 a'=>?_) ?_
  ·simp only [Q18,List.filter_nil,Q00];refine ⟨rfl,?_⟩;go_simp;refine (Ch.out w2).mono ?_;rintro e w3 ⟨v,rfl,o3,b3⟩;exact ⟨v,rfl,o3.lower a'.size,b3⟩
  iterate 2 (refine Q06 (by rfl) (fun K z=>?_);go_simp;refine z _ ?_;clear z K)
  refine Q0i ?_;intro u2 T ac O;change wpList _ _ _ [_,_] _ _;have U:Q08 b8 1 5 u2 w.heap.size ac (Q1f 128 1):=Q08.lower O D.size;have J:=D00 D T;have a9:=ah.below T;have a7:=Q08.lt U;clear O k1
  go_wp2_with (refine Q0x (o:=⟨some 31,_,_,_,_,_⟩) (by rfl) (.tmp 28) (.tmp 30) 25 (by rfl) elU8 (by rfl) U (by rfl) a9 J.size (by have:=W.out;simp;omega) (by have:=W.out;unfold maxLen;simp;omega) ?_;intro v5 w5 o5 g5 _;have b5:=J.grown g5 J.size a7)
  go_ret;exact ⟨_,rfl,by rw [V.out];exact o5,b5⟩
 have ao:((y:Int)==1)=false:=by rw [beq_eq_false_iff_ne];omega
 clear H ht1;go_enter Tryz.func47,Tryz.ntmps47
 go_wp2_with fail
 rw [<-a1.out];clear ao;refine Q03 N 6 (by kernel_rfl) (by kernel_rfl) (Below.refl _ _) ?_;simp only [List.take_succ_cons,List.take_zero,take_nil]
 iterate 3 (refine Q06 (by rfl) (fun K z=>?_);go_simp;refine z _ ?_;clear z K)
 refine Q0e 28 (OwnH N.heap.size 128 y) rfl (of_decide_eq_true rfl) (OwnH.mono _ _ _) (fun w2 a'=>?_) ?_
 ·simp only [Q18,List.filter_nil,Q00];refine ⟨rfl,?_⟩;go_simp;refine (Ch.out w2).mono ?_;rintro e w3 ⟨v,rfl,o3,b3⟩;exact ⟨v,rfl,o3.lower a'.size,b3⟩
 iterate 2 (refine Q06 (by rfl) (fun K z=>?_);go_simp;refine z _ ?_;clear z K)
 refine Q0i ?_;intro u2 T ac O;change wpList _ _ _ [_,_] _ _;have U:Q08 b8 1 5 u2 w.heap.size ac (Q1f 128 y):=Q08.lower O D.size;have J:=D00 D T;have a9:=ah.below T;have a7:=Q08.lt U;clear O k1
 go_wp2_with (refine Q0x (o:=⟨some 31,_,_,_,_,_⟩) (by rfl) (.tmp 28) (.tmp 30) 25 (by rfl) elU8 (by rfl) U (by rfl) a9 J.size (by rw [af.out];have:=W.out;omega) (by rw [af.out];have:=W.out;unfold maxLen;omega) ?_;intro v5 w5 o5 g5 _;have b5:=J.grown g5 J.size a7)
 go_ret;exact ⟨_,rfl,by rw [V.out];exact o5,b5⟩
theorem Q5t:El0 Tryz.prog 75 77 (.agg #[.bool false,.slice none 0 0,.slice none 0 0]) 3 56 Q0j:=⟨by kernel_rfl,by kernel_rfl,rfl,by omega,Q0k⟩
theorem Q26 (a:Option Addr)(n c:Nat)(w:World):Calls Tryz.prog 49 #[.slice a n c] w fun e w'=>e=.returned (.agg #[.bool false,.slice a n c,.slice none 0 0])/\Below w.heap.size w w':=by
 have h:=D01 w 77 [.bool false,.slice a n c,.slice none 0 0];have y:Below w.heap.size w (w.alloc (.cells #[.bool false,.slice a n c,.slice none 0 0] 77)):=Qba _ _;go_enter Tryz.func49,Tryz.ntmps49
 go_wp2
 exact bodyPost_ret (Q0h rfl _ _ w.heap.size Q09 h rfl rfl) rfl ⟨rfl,y⟩
theorem Q3c (a:Option Addr)(n c:Nat)(w:World):Calls Tryz.prog 55 #[.slice a n c] w fun e w'=>e=.returned (.agg #[.bool false,.slice a n c,.slice none 0 0])/\Below w.heap.size w w':=by
 have h:=D01 w 77 [.bool false,.slice a n c,.slice none 0 0];have y:Below w.heap.size w (w.alloc (.cells #[.bool false,.slice a n c,.slice none 0 0] 77)):=Qba _ _;go_enter Tryz.func55,Tryz.ntmps55
 go_wp2
 exact bodyPost_ret (Q0h rfl _ _ w.heap.size Q09 h rfl rfl) rfl ⟨rfl,y⟩
theorem Q4g (a:Option Addr)(n c:Nat)(w:World):Calls Tryz.prog 48 #[.slice a n c] w fun e w'=>e=.returned (.agg #[.bool true,.slice none 0 0,.slice a n c])/\Below w.heap.size w w':=by
 have h:=D01 w 77 [.bool true,.slice none 0 0,.slice a n c];have y:Below w.heap.size w (w.alloc (.cells #[.bool true,.slice none 0 0,.slice a n c] 77)):=Qba _ _;go_enter Tryz.func48,Tryz.ntmps48
 go_wp2
 exact bodyPost_ret (Q0h rfl _ _ w.heap.size Q09 h rfl rfl) rfl ⟨rfl,y⟩
theorem Q6i (a:Option Addr)(n c:Nat)(w:World):Calls Tryz.prog 52 #[.slice a n c] w fun e w'=>e=.returned (.agg #[.bool true,.slice none 0 0,.slice a n c])/\Below w.heap.size w w':=by
 have h:=D01 w 77 [.bool true,.slice none 0 0,.slice a n c];have y:Below w.heap.size w (w.alloc (.cells #[.bool true,.slice none 0 0,.slice a n c] 77)):=Qba _ _;go_enter Tryz.func52,Tryz.ntmps52
 go_wp2
 exact bodyPost_ret (Q0h rfl _ _ w.heap.size Q09 h rfl rfl) rfl ⟨rfl,y⟩
theorem Qqd (tv:Value)(t:List UInt8)(ka:Option Addr)(h kc:Nat)(ks:List Itm)(af:ks.length=h)(w:World)(Z:Q05 Q0j 3 w (.slice ka h kc) ks)(hi:∀ k∈ks,Q17 w k)(hN:Q2g ks<=1000000000000)
  (ih:∀ k∈ks,∀ w',Q17 w' k->Calls Tryz.prog 47 #[.agg (Q0j k).toArray] w' (Qa8 k w')) :
  Calls Tryz.prog 47 #[.agg #[.bool true,tv,.slice ka h kc]] w (Qa8 (.mk true tv t (.slice ka h kc) ks) w):=by
 have au:Below w.heap.size w (w.alloc (.cells #[.bool true,tv,.slice ka h kc] 77)):=Qba _ _;have y:encI (.mk true tv t (.slice ka h kc) ks)=Q1f 192 (encL ks).length++encL ks:=by
  unfold encI;rw [if_pos rfl]
 have aB:(encL ks).length<=10000000000000:=by have:=Qch ks hN;omega
 have I:=Q2w 192 (encL ks).length (by omega);have bd:h<=1000000000000:=by have:=Q8d ks;omega
 have aA:=fun k=>Qg9 ks k;have hst:=fun k Z=>Q9t ks k Z;have ar:encL (ks.take h)=encL ks:=by rw [<-af,List.take_length]
 have av:∀ k,k∈ks->(encI k).length<=10000000000000:=fun k Z=>by
  have h1:=Q4m Z;have:=Q4h (Q1z k) k (le_refl _) (by omega);omega
 have aN:=Qhd af;have HE:=Qhd y;have aO:=Qhd aA;have aQ:=Qhd hst;have Hi:=Qhd hi;have Ih:=Qhd ih;have aI:=Qhd ar;have aJ:=Qhd av;have ak:=Qhd aB;have aL:=Qhd I;clear af y aA hst hi ih ar av aB I hN;go_enter Tryz.func47,Tryz.ntmps47
 go_wp2_with fail
 go_loopw [3,35] (fun v ix wr=>∃ k:Nat,k<=h/\ix=.int .i64 (k:Int)/\Q08 b8 1 5 wr w.heap.size v (encL (ks.take k))/\Below w.heap.size w wr) (fun _ ix _=>h - (intOf ix).toNat)
 case atStart=>exact ⟨0,by omega,rfl,Q08.nil b8 1 _ _ _,au⟩
 case round =>
  clear au;obtain ⟨k,bb,rfl,z,H⟩:=hrel;by_cases hlt:k<h
  ·have bc:(k:Int)<(h:Int):=by omega
   have a0:k<ks.length:=by rw [aN.out];exact hlt
   obtain ⟨b,off,rfl,hr⟩:=Q05.range Q0k (Z.below H) k a0;have G:Q17 wr ks[k]:=(Hi.out _ (getElem_mem a0)).kept H;have E:=fun x hx=>Ih.out _ (getElem_mem a0) x hx;have J:=aQ.out k a0;have hl:=aO.out k;have hm:=aJ.out _ (getElem_mem a0);obtain ⟨kid,ax⟩:=Qe (ks[k]);rw [<-ax] at hr G E J hm;obtain ⟨S0,ap⟩:=Qe (encL (ks.take k));obtain ⟨S1,ac⟩:=Qe (encL (ks.take (k+1)));rw [<-ap] at z J hl;rw [<-ac] at J;obtain ⟨T,hT⟩:=Qe (encI kid);unfold Qa8 at E;rw [<-hT] at E J hm;obtain ⟨N,bf,t2,be,aY⟩:=kid;obtain ⟨O,U,rfl,_,_⟩:=G.inv.1.form;obtain ⟨K,L,rfl,_,_⟩:=G.inv.2.1.form;obtain ⟨V,aC⟩:=Qe (t2.length);obtain ⟨M,ay⟩:=Qe (aY.length);rw [<-aC,<-ay] at hr G E;change wr.rangeAt b (off+k*3) [.bool N,.slice O V U,.slice K M L] at hr;change ∀ x,Q17 x _->Calls Tryz.prog 47 #[.agg #[.bool N,.slice O V U,.slice K M L]] x _ at E;have ae:=H.size;have aV:Below w.heap.size w (wr.alloc (.cells #[.bool N,.slice O V U,.slice K M L] 77)):=H.alloc ae _;have aT:=G.kept ((Below.refl wr.heap.size wr).alloc (le_refl _) (.cells #[.bool N,.slice O V U,.slice K M L] 77));have aU:=z.alloc (.cells #[.bool N,.slice O V U,.slice K M L] 77);have aW:=Q08.lt z;have ba:S0.length+T.length<=30000000000000:=by have:=ak.out;omega
   have Hs:=Qhd J;have Hc:=Qhd E;have aH:=Qhd ac;clear J E ac ap hT ax G hl hm aC ay
   go_wp2_with (first
    |(refine wpList_load_mid (op:=⟨some 38,_,_,_,_,_⟩) (by rfl) 77 (.tmp 37) (by rfl) b (off+k*3) (by rfl) [.bool N,.slice O V U,.slice K M L] _ hr Tryz.underlying77 rfl (by kernel_rfl) ?_)
    |(go_at_call 47;(with_reducible refine (Hc.out _ aT).mono ?_);rintro e w3 ⟨v3,rfl,o3,W⟩;have D:=D00 aV W;have ab:=aU.kept W;have ag:=aW)
    |(refine Q0x (o:=⟨some 42,_,_,_,_,_⟩) (by rfl) (.tmp 39) (.tmp 41) 25 (by rfl) elU8 (by rfl) ab (by rfl) o3.row D.size (by omega) (by unfold maxLen;omega) ?_;intro v5 w5 o5 g5 _;have ad:=D.grown g5 D.size ag;rw [<-Hs.out,aH.out] at o5))
   go_roundw
   case rel=>exact ⟨k+1,by omega,by go_num,o5,ad⟩
   case measure=>simp [intOf];omega
  obtain rfl:k=h:=by omega
  rw [aI.out] at z;have an:(encL ks).length<=10000000000000:=by have:=ak.out;omega
  obtain ⟨S,hS⟩:=Qe (encL ks);have I:=aL.out;have y:=HE.out;rw [<-hS] at z I y an;obtain ⟨sn,a6⟩:=Qe (S.length);rw [<-a6] at I y an;obtain ⟨a3,c3,rfl,_⟩:=z.form' sn a6.symm;have ch:=fun x=>Qi8 192 sn (by omega) (by omega) x;obtain ⟨Hd,aa⟩:=Qe (Q1f 192 sn);rw [<-aa] at I y;simp only [<-aa] at ch;change ∀ x,Calls Tryz.prog 87 #[.int .u8 192,.int .i64 (sn:Int)] x _ at ch;have Ch:=Qhd ch;have aG:=Qhd y;have al:=Qhd a6;clear ch y a6 aa hS;have ae:=H.size
  go_wp2_with (first
   |(go_at_call 87;(with_reducible refine (Ch.out _).mono ?_);rintro e w3 ⟨v3,rfl,o3,W⟩;have D:=D00 H W;have ab:=z.kept W;have aD:=Q08.lower o3 ae;have ag:=Q08.lt aD)
   |(refine Q0x (o:=⟨some 48,_,_,_,_,_⟩) (by rfl) (.tmp 46) (.tmp 47) 25 (by rfl) elU8 (by rfl) aD (by rfl) ab.row D.size (by rw [<-al.out];omega) (by rw [<-al.out];unfold maxLen;omega) ?_;intro v5 w5 o5 g5 _;have ad:=D.grown g5 D.size ag))
  go_ret;exact ⟨_,rfl,by rw [aG.out];exact o5,ad⟩
theorem Qb9:∀ (n:Nat)(x:Itm)(w:World),Q1z x<=n->n<=1000000000000->Q17 w x->Calls Tryz.prog 47 #[.agg (Q0j x).toArray] w (Qa8 x w)
 | 0,x,_,h,_,_=>by have:=Q8c x;omega
 | n+1,.mk l tv t kv ks,w,h,hn,hI=>by
  obtain ⟨y,z,D⟩:=hI.inv;obtain ⟨J,K,rfl,_,_⟩:=y.form;obtain ⟨H,I,rfl,_,_⟩:=z.form;unfold Q1z at h;cases l with
  | false=>exact Qqc J t.length K t rfl _ ks w y (by omega)
  | true=>exact Qqd _ t H ks.length I ks rfl w z D (by omega) (fun k G w' E=>Qb9 n k w' (by have:=Q4m G;omega) (by omega) E)
def Q32 (b:Bool):Nat:=if b=true then 192 else 128
theorem Q6j (n:Nat)(b:Bool)(hn:n<=4611686018427387904)(w:World) :
  Calls Tryz.prog 88 #[.int .i64 (n:Int),.bool b] w fun e w'=>e=.returned (str (Q1f (Q32 b) n))/\Below w.heap.size w w':=by
 by_cases h48:n<48
 ·have ad:(n:Int)<48:=by omega
  have E:Q1f (Q32 b) n=[UInt8.ofNat (Q32 b+n)]:=by unfold Q1f;rw [if_pos h48]
  have z:u8v (UInt8.ofNat (Q32 b+n))=.int .u8 ((Q32 b:Int)+(n:Int)):=by
   unfold u8v Q32;rw [UInt8.toNat_ofNat',mod_eq_of_lt (by split<;>omega)];simp
  obtain ⟨X,I⟩:=Qe (UInt8.ofNat (Q32 b+n));obtain ⟨h,D⟩:∃ h:Int,h=(Q32 b:Int)+(n:Int):=⟨_,rfl⟩;rw [<-I] at E z;rw [<-D] at z;have a':Q02 (w.alloc (.cells #[.int .u8 h] 5)) (.slice (some ⟨w.heap.size,0,none⟩) 1 1) [X] :=
   Q08.row (Q08.made b8 1 5 w w.heap.size [X] #[.int .u8 h] 1 (by rw [Q22,map_cons,z];rfl) rfl rfl (le_refl _) (by unfold maxLen;omega))
  have a9:=Q0q (P:=Tryz.prog) (src:=25) (dst:=9) elU8.ht (by kernel_rfl) (by kernel_rfl) a';have a8:Below w.heap.size w (w.alloc (.cells #[.int .u8 h] 5)):=Qba _ _;have G:=Qhd E;clear E z I a';cases b with
  | true =>
   have K:IntKind.i64.wrap (192+(n:Int))=192+(n:Int):=IntWalk.i64_in _ (by omega);have y:IntKind.u8.wrap (192+(n:Int))=h:=by rw [D];exact IntWalk.u8_in _ (by omega)
   clear D;go_enter Tryz.func88,Tryz.ntmps88
   go_wp2_with (refine Q25 (o:=⟨some 14,_,_,_,_,_⟩) (by rfl) (.tmp 13) 25 (by rfl) elU8 (.int .u8 h) [.int .u8 h] (by rfl) (by rfl) rfl (by omega) ?_)
   go_ret;exact ⟨by rw [G.out];rfl,a8⟩
  | false =>
   have K:IntKind.i64.wrap (128+(n:Int))=128+(n:Int):=IntWalk.i64_in _ (by omega);have y:IntKind.u8.wrap (128+(n:Int))=h:=by rw [D];exact IntWalk.u8_in _ (by omega)
   clear D;go_enter Tryz.func88,Tryz.ntmps88
   go_wp2_with (refine Q25 (o:=⟨some 14,_,_,_,_,_⟩) (by rfl) (.tmp 13) 25 (by rfl) elU8 (.int .u8 h) [.int .u8 h] (by rfl) (by rfl) rfl (by omega) ?_)
   go_ret;exact ⟨by rw [G.out];rfl,a8⟩
 have ad:¬ (n:Int)<48:=by omega
 have a7:=Qhy n (by omega);have a6:=Qc7 n (by omega) (by unfold W256;omega);have E:Q1f (Q32 b) n=[UInt8.ofNat (Q32 b+48+((numB n).length - 1))]++numB n:=by unfold Q1f;rw [if_neg h48];rfl
 have z:u8v (UInt8.ofNat (Q32 b+48+((numB n).length - 1)))=.int .u8 ((Q32 b:Int)+47+((numB n).length:Int)):=by
  have hb:Q32 b<=192:=by unfold Q32;split<;>omega
  unfold u8v;rw [UInt8.toNat_ofNat',mod_eq_of_lt (by omega)];congr 1;omega
 have S:=fun w=>Qby n w;have ci:=fun w=>Q7w n (by omega) w;obtain ⟨B,T⟩:=Qe (numB n);rw [<-T] at a7 a6 E z;simp only [<-T] at S;obtain ⟨L,U⟩:=Qe (B.length);rw [<-U] at a7 a6 E z;obtain ⟨X,I⟩:=Qe (UInt8.ofNat (Q32 b+48+(L - 1)));rw [<-I] at E z;obtain ⟨h,D⟩:∃ h:Int,h=(Q32 b:Int)+47+(L:Int):=⟨_,rfl⟩;rw [<-D] at z;have af:B.length<=8:=by omega
 have a5:Ending.returned (.string ((⟨#[X]⟩:ByteArray)++⟨B.toArray⟩))=.returned (str ([X]++B)):=congrArg (fun x=>Ending.returned (Value.string x)) (ByteArray.mk_append_mk [X] B);have a0:=Qhd a5;clear a5;have a4:∀ y:World,Q02 (y.alloc (.cells #[.int .u8 h] 5)) (.slice (some ⟨y.heap.size,0,none⟩) 1 1) [X]:=fun y =>
  Q08.row (Q08.made b8 1 5 y y.heap.size [X] #[.int .u8 h] 1 (by rw [Q22,map_cons,z];rfl) rfl rfl (le_refl _) (by unfold maxLen;omega))
 have w0:IntKind.u64.wrap (n:Int)=(n:Int):=IntWalk.u64_in _ (by omega);have G:=Qhd E;have HL:=Qhd U;have W:=Qhd S;have V:=Qhd ci;have Z:=Qhd a4;clear E z T U I S ci a4;cases b with
 | true =>
  have K:IntKind.i64.wrap ((192:Int)+47)=239:=IntWalk.i64_in _ (by omega);have y:IntKind.i64.wrap (239+(L:Int))=239+(L:Int):=IntWalk.i64_in _ (by omega);have w3:IntKind.u8.wrap (239+(L:Int))=h:=by rw [D];exact IntWalk.u8_in _ (by omega)
  clear D;go_enter Tryz.func88,Tryz.ntmps88
  go_wp2_with (first
   |(go_at_call 54;(with_reducible refine (V.out _).mono ?_);rintro e K ⟨rfl,M⟩)
   |(go_at_call 53;(with_reducible refine (W.out _).mono ?_);rintro e y ⟨v,rfl,J,N⟩;have H:=D00 M N;obtain ⟨a2,c2,rfl,_⟩:=J.form' L HL.out.symm)
   |(refine Q25 (o:=⟨some 26,_,_,_,_,_⟩) (by rfl) (.tmp 25) 25 (by rfl) elU8 (.int .u8 h) [.int .u8 h] (by rfl) (by rfl) rfl (by omega) ?_;have O:=H.alloc H.size (.cells #[.int .u8 h] 5);have a9:=Q0q (P:=Tryz.prog) (src:=25) (dst:=9) elU8.ht (by kernel_rfl) (by kernel_rfl) (Z.out y);have ac:=Q0q (P:=Tryz.prog) (src:=25) (dst:=9) elU8.ht (by kernel_rfl) (by kernel_rfl) (J.alloc (.cells #[.int .u8 h] 5))))
  go_ret;exact ⟨by rw [G.out];exact a0.out,O⟩
 | false =>
  have K:IntKind.i64.wrap ((128:Int)+47)=175:=IntWalk.i64_in _ (by omega);have y:IntKind.i64.wrap (175+(L:Int))=175+(L:Int):=IntWalk.i64_in _ (by omega);have w3:IntKind.u8.wrap (175+(L:Int))=h:=by rw [D];exact IntWalk.u8_in _ (by omega)
  clear D;go_enter Tryz.func88,Tryz.ntmps88
  go_wp2_with (first
   |(go_at_call 54;(with_reducible refine (V.out _).mono ?_);rintro e K ⟨rfl,M⟩)
   |(go_at_call 53;(with_reducible refine (W.out _).mono ?_);rintro e y ⟨v,rfl,J,N⟩;have H:=D00 M N;obtain ⟨a2,c2,rfl,_⟩:=J.form' L HL.out.symm)
   |(refine Q25 (o:=⟨some 26,_,_,_,_,_⟩) (by rfl) (.tmp 25) 25 (by rfl) elU8 (.int .u8 h) [.int .u8 h] (by rfl) (by rfl) rfl (by omega) ?_;have O:=H.alloc H.size (.cells #[.int .u8 h] 5);have a9:=Q0q (P:=Tryz.prog) (src:=25) (dst:=9) elU8.ht (by kernel_rfl) (by kernel_rfl) (Z.out y);have ac:=Q0q (P:=Tryz.prog) (src:=25) (dst:=9) elU8.ht (by kernel_rfl) (by kernel_rfl) (J.alloc (.cells #[.int .u8 h] 5))))
  go_ret;exact ⟨by rw [G.out];exact a0.out,O⟩
def Q4n (x:Itm)(w:World)(e:Ending)(w':World):Prop:=∃ v,e=.returned v/\Q02 w' v (encI x)/\Below w.heap.size w w'
theorem Q79 (l m:List UInt8):Value.string ((⟨l.toArray⟩:ByteArray)++⟨m.toArray⟩)=str (l++m):=congrArg Value.string (ByteArray.mk_append_mk l m)
theorem Qm0 (E:Option Addr)(y G:Nat)(t:List UInt8)(D:t.length=y)(I:Value)(ks:List Itm)(w:World)(h:Q02 w (.slice E y G) t)(hN:y<=1000000000000) :
  Calls Tryz.prog 56 #[.agg #[.bool false,.slice E y G,I]] w (Q4n (.mk false (.slice E y G) t I ks) w):=by
 have T:Below w.heap.size w (w.alloc (.cells #[.bool false,.slice E y G,I] 77)):=Qba _ _;have hs:=Q0q (P:=Tryz.prog) (src:=25) (dst:=9) elU8.ht (by kernel_rfl) (by kernel_rfl) (h.below T);have a2:(⟨t.toArray⟩:ByteArray).size=y:=D;by_cases z:y=1/\(t[0]?.getD 0).toNat<128
 ·obtain ⟨z,S⟩:=z;obtain ⟨x,rfl⟩:∃ x,t=[x]:=length_eq_one_iff.1 (D.trans z);subst z;have hx:(x.toNat:Int)<128:=by simp at S;omega
  have H:encI (.mk false (.slice E 1 G) [x] I ks)=[x]:=by
   unfold encI Q1q;rw [if_neg (by simp),if_pos (by simp at S |-;exact S)]
  have M:=Qhd H;have a8:∀ h,(⟨#[x]⟩:ByteArray)[0]'h=x:=fun _=>rfl;clear H D S a2;go_enter Tryz.func56,Tryz.ntmps56
  go_wp2_with (refine Q2t (o:=⟨some 33,_,_,_,_,_⟩) (by rfl) 9 25 (.tmp 32) (by rfl) (by kernel_rfl) elU8.ht (by kernel_rfl) [x] (by rfl) (by unfold maxLen;simp) ?_;intro v2 w2 K J;have L:=D00 T J)
  go_ret;exact ⟨_,rfl,by rw [M.out];exact K,L⟩
 have H:encI (.mk false (.slice E y G) t I ks)=Q1f 128 y++t:=by
  unfold encI Q1q;rw [if_neg (by simp),if_neg (by rw [D];exact z),D]
 have a6:=Q2w 128 y (by omega);have O:∀ x,Calls Tryz.prog 88 #[.int .i64 (y:Int),.bool false] x _:=fun x=>Q6j y false (by omega) x;change ∀ x,Calls Tryz.prog 88 #[.int .i64 (y:Int),.bool false] x (fun e w'=>e=.returned (str (Q1f 128 y))/\Below x.heap.size x w') at O;obtain ⟨w1,a7⟩:=Qe (w.alloc (.cells #[.bool false,.slice E y G,I] 77));obtain ⟨N,V⟩:=Qe (Q1f 128 y);rw [<-V] at H a6;simp only [<-V] at O;have a1:=Q79 N t;have aa:(N++t).length<=2000000000000:=by rw [List.length_append,D];omega
 have M:=Qhd H;have Z:=Qhd O;have a0:=Qhd a1;clear H a7 O V a1;by_cases ht1:y=1
 ·subst ht1;obtain ⟨x,rfl⟩:∃ x,t=[x]:=length_eq_one_iff.1 D;have hx:¬ (x.toNat:Int)<128:=fun hx=>z ⟨rfl,by simp;omega⟩;have a8:∀ h,(⟨#[x]⟩:ByteArray)[0]'h=x:=fun _=>rfl;clear D z a2;go_enter Tryz.func56,Tryz.ntmps56
  go_wp2_with (first
   |(go_at_call 88;refine (Z.out _).mono ?_;rintro e w3 ⟨rfl,U⟩;have W:=D00 T U)
   |(refine Q2t (o:=⟨some 41,_,_,_,_,_⟩) (by rfl) 9 25 (.tmp 40) (by rfl) (by kernel_rfl) elU8.ht (by kernel_rfl) (N++[x]) a0.out (by unfold maxLen;omega) ?_;intro v2 w2 K J;have L:=D00 W J))
  go_ret;exact ⟨_,rfl,by rw [M.out];exact K,L⟩
 have ab:((y:Int)==1)=false:=by rw [beq_eq_false_iff_ne];omega
 have ad:t.length<=1000000000000:=by omega
 clear z ht1;go_enter Tryz.func56,Tryz.ntmps56
 go_wp2_with (first
  |(go_at_call 88;refine (Z.out _).mono ?_;rintro e w3 ⟨rfl,U⟩;have W:=D00 T U)
  |(refine Q2t (o:=⟨some 41,_,_,_,_,_⟩) (by rfl) 9 25 (.tmp 40) (by rfl) (by kernel_rfl) elU8.ht (by kernel_rfl) (N++t) a0.out (by unfold maxLen;omega) ?_;intro v2 w2 K J;have L:=D00 W J))
 go_ret;exact ⟨_,rfl,by rw [M.out];exact K,L⟩
theorem Qm1 (y:World)(I:Option Addr)(K J:Nat)(t:List UInt8)(aW:Q02 y (.slice I K J) t)(G:Option Addr)(h H:Nat)(ks:List Itm)(ag:ks.length=h)(w:World)(aX:y=w)(hk:Q05 Q0j 3 w (.slice G h H) ks)(hi:∀ k∈ks,Q17 w k)(hN:Q2g ks<=1000000000000)
  (ih:∀ k∈ks,∀ w',Q17 w' k->Calls Tryz.prog 56 #[.agg (Q0j k).toArray] w' (Q4n k w')) :
  Calls Tryz.prog 56 #[.agg #[.bool true,.slice I K J,.slice G h H]] w (Q4n (.mk true (.slice I K J) t (.slice G h H) ks) w):=by
 subst aX;have ad:Below y.heap.size y (y.alloc (.cells #[.bool true,.slice I K J,.slice G h H] 77)):=Qba _ _;have ao:=D01 y 77 [.bool true,.slice I K J,.slice G h H];have aC:=Q0q (P:=Tryz.prog) (src:=25) (dst:=9) elU8.ht (by kernel_rfl) (by kernel_rfl) (aW.below ad);have z:encI (.mk true (.slice I K J) t (.slice G h H) ks)=Q1f 192 (encL ks).length++encL ks:=by
  unfold encI;rw [if_pos rfl]
 have ah:(encL ks).length<=10000000000000:=by have:=Qch ks hN;omega
 have E:=Q2w 192 (encL ks).length (by omega);have bb:h<=1000000000000:=by have:=Q8d ks;omega
 have aB:=fun k=>Qg9 ks k;have hst:=fun k hk=>Q9t ks k hk;have ar:encL (ks.take h)=encL ks:=by rw [<-ag,List.take_length]
 have au:∀ k,k∈ks->(encI k).length<=10000000000000:=fun k hk=>by
  have h1:=Q4m hk;have:=Q4h (Q1z k) k (le_refl _) (by omega);omega
 have aM:=Qhd ag;have HE:=Qhd z;have aN:=Qhd aB;have aO:=Qhd hst;have Hi:=Qhd hi;have Ih:=Qhd ih;have aH:=Qhd ar;have aI:=Qhd au;have al:=Qhd ah;have aK:=Qhd E;clear ag z aB hst hi ih ar au ah E hN;go_enter Tryz.func56,Tryz.ntmps56
 go_wp2_with fail
 go_loopw [3,14] (fun v ix wr=>∃ k:Nat,k<=h/\ix=.int .i64 (k:Int)/\v=.string ⟨(encL (ks.take k)).toArray⟩/\Blk 77 wr y.heap.size [.bool true,.slice I K J,.slice G h H]/\Below y.heap.size y wr) (fun _ ix _=>h - (intOf ix).toNat)
 case atStart=>exact ⟨0,by omega,rfl,rfl,ao,ad⟩
 case round =>
  clear ad ao aC;obtain ⟨k,b',rfl,rfl,hB,N⟩:=hrel;by_cases hlt:k<h
  ·have ba:(k:Int)<(h:Int):=by omega
   have a4:k<ks.length:=by rw [aM.out];exact hlt
   obtain ⟨b,off,rfl,hr⟩:=Q05.range Q0k (hk.below N) k a4;have L:Q17 wr ks[k]:=(Hi.out _ (getElem_mem a4)).kept N;have D:=fun x hx=>Ih.out _ (getElem_mem a4) x hx;have O:=aO.out k a4;have hl:=aN.out k;have hm:=aI.out _ (getElem_mem a4);obtain ⟨kid,ay⟩:=Qe (ks[k]);rw [<-ay] at hr L D O hm;obtain ⟨S0,ab⟩:=Qe (encL (ks.take k));obtain ⟨S1,ac⟩:=Qe (encL (ks.take (k+1)));rw [<-ab] at O hl;rw [<-ac] at O;obtain ⟨T,hT⟩:=Qe (encI kid);unfold Q4n at D;rw [<-hT] at D O hm;obtain ⟨Z,be,t2,bc,aZ⟩:=kid;obtain ⟨a0,a1,rfl,_,_⟩:=L.inv.1.form;obtain ⟨U,V,rfl,_,_⟩:=L.inv.2.1.form;obtain ⟨a2,aD⟩:=Qe (t2.length);obtain ⟨W,az⟩:=Qe (aZ.length);rw [<-aD,<-az] at hr L D;change wr.rangeAt b (off+k*3) [.bool Z,.slice a0 a2 a1,.slice U W V] at hr;change ∀ x,Q17 x _->Calls Tryz.prog 56 #[.agg #[.bool Z,.slice a0 a2 a1,.slice U W V]] x _ at D;have av:=N.size;have ae:Below y.heap.size y (wr.alloc (.cells #[.bool Z,.slice a0 a2 a1,.slice U W V] 77)):=N.alloc av _;have aU:=L.kept ((Below.refl wr.heap.size wr).alloc (le_refl _) (.cells #[.bool Z,.slice a0 a2 a1,.slice U W V] 77));have aS:=hB.alloc (.cells #[.bool Z,.slice a0 a2 a1,.slice U W V] 77);have b7:S0.length+T.length<=30000000000000:=by have:=al.out;omega
   have M:=Q79 S0 T;rw [<-O,ac] at M;have a8:=Qhd M;have Hc:=Qhd D;clear O D M ac hT ay L hl hm aD az;rw [<-ab];clear ab
   go_wp2_with (first
    |(refine wpList_load_mid (op:=⟨some 17,_,_,_,_,_⟩) (by rfl) 77 (.tmp 16) (by rfl) b (off+k*3) (by rfl) [.bool Z,.slice a0 a2 a1,.slice U W V] _ hr Tryz.underlying77 rfl (by kernel_rfl) ?_)
    |(go_at_call 56;(with_reducible refine (Hc.out _ aU).mono ?_);rintro e w3 ⟨v3,rfl,o3,b3⟩;have af:=D00 ae b3;have aT:=aS.kept b3;have aC:=Q0q (P:=Tryz.prog) (src:=25) (dst:=9) elU8.ht (by kernel_rfl) (by kernel_rfl) o3))
   go_roundw
   case rel=>exact ⟨k+1,by omega,by go_num,a8.out,aT,af⟩
   case measure=>simp [intOf];omega
  obtain rfl:k=h:=by omega
  rw [aH.out];have aV:(encL ks).length<=10000000000000:=by have:=al.out;omega
  obtain ⟨S,hS⟩:=Qe (encL ks);have E:=aK.out;have z:=HE.out;rw [<-hS] at E z aV;rw [<-hS];obtain ⟨sn,aj⟩:=Qe (S.length);rw [<-aj] at E z;have ch:∀ x,Calls Tryz.prog 88 #[.int .i64 ((S.length:Nat):Int),.bool true] x _:=fun x=>Q6j S.length true (by omega) x;change ∀ x,Calls Tryz.prog 88 #[.int .i64 ((S.length:Nat):Int),.bool true] x (fun e w'=>e=.returned (str (Q1f 192 S.length))/\Below x.heap.size x w') at ch;rw [aj] at z E;obtain ⟨Hd,a'⟩:=Qe (Q1f 192 S.length);rw [<-a'] at E z;simp only [<-a'] at ch;have M:=Q79 Hd S;have ah:(Hd++S).length<=20000000000000:=by rw [List.length_append];omega
  have Ch:=Qhd ch;have aG:=Qhd z;have a8:=Qhd M;clear ch z aj a' hS M;have av:=N.size;have aw:=hB.cell 0;have b9:wr.cell? ⟨y.heap.size,0,none⟩=some (.bool true):=aw;clear aw
  go_wp2_with (first
   |(go_at_call 88;(with_reducible refine (Ch.out _).mono ?_);rintro e w3 ⟨rfl,b3⟩;have af:=D00 N b3)
   |(refine Q2t (o:=⟨some 41,_,_,_,_,_⟩) (by rfl) 9 25 (.tmp 40) (by rfl) (by kernel_rfl) elU8.ht (by kernel_rfl) (Hd++S) a8.out (by unfold maxLen;omega) ?_;intro v2 w2 h2 b2;have ae:=D00 af b2))
  go_ret;exact ⟨_,rfl,by rw [aG.out];exact h2,ae⟩
theorem Q64:∀ (n:Nat)(x:Itm)(w:World),Q1z x<=n->n<=1000000000000->Q17 w x->Calls Tryz.prog 56 #[.agg (Q0j x).toArray] w (Q4n x w)
 | 0,x,_,h,_,_=>by have:=Q8c x;omega
 | n+1,.mk l tv t kv ks,w,h,hn,hI=>by
  obtain ⟨y,z,G⟩:=hI.inv;obtain ⟨D,E,rfl,_,_⟩:=y.form;obtain ⟨J,K,rfl,_,_⟩:=z.form;unfold Q1z at h;cases l with
  | false=>exact Qm0 D t.length E t rfl _ ks w y (by omega)
  | true=>exact Qm1 w D t.length E t y J ks.length K ks rfl w rfl z G (by omega) (fun k I w' H=>Q64 n k w' (by have:=Q4m I;omega) (by omega) H)
def txt (v:Value)(t:List UInt8):Itm:=.mk false v t (.slice none 0 0) []
theorem Q17.txt {w:World}{v:Value}{t:List UInt8}(h:Q02 w v t):Q17 w (txt v t):=.mk false v t _ [] h (Q05.nil Q0j 3 w) (by simp)
theorem Qcw (v:Value)(t:List UInt8):encI (txt v t)=Q1q t:=by unfold txt encI;rw [if_neg (by simp)]
theorem Qd6 (v:Value)(t:List UInt8):Q1z (txt v t)=1+t.length:=by unfold txt Q1z Q2g;omega
def lst (kv:Value)(ks:List Itm):Itm:=.mk true (.slice none 0 0) [] kv ks
theorem Q17.lst {w:World}{y:Value}{ks:List Itm}(h:Q05 Q0j 3 w y ks)(z:∀ k∈ks,Q17 w k):Q17 w (lst y ks):=.mk true _ [] y ks (Q05.nil b8 1 w) h z
theorem Qqf (h:Value)(ks:List Itm):encI (lst h ks)=Q1f 192 (encL ks).length++encL ks:=by unfold lst encI;rw [if_pos rfl]
theorem Q5m (h:Value)(ks:List Itm):Q1z (lst h ks)=1+Q2g ks:=by unfold lst Q1z;simp
def lsB (ts:List (List UInt8)):List UInt8:=Q1f 192 (ts.flatMap Q1q).length++ts.flatMap Q1q
def txts (ps:List (Value × List UInt8)):List Itm:=ps.map fun p=>txt p.1 p.2
theorem Qnu (ps:List (Value × List UInt8)):encL (txts ps)=(ps.map (·.2)).flatMap Q1q:=by
 induction ps with
 | nil=>simp [txts,encL]
 | cons p ps ih =>
  have e:txts (p::ps)=txt p.1 p.2::txts ps:=rfl;rw [e,encL,Qcw,ih];simp
theorem Q29 (h:Value)(ps:List (Value × List UInt8)):encI (lst h (txts ps))=lsB (ps.map (·.2)):=by
 rw [Qqf,Qnu];rfl
theorem Q38 (ps:List (Value × List UInt8)):Q2g (txts ps)=(ps.map fun p=>1+p.2.length).sum:=by
 induction ps with
 | nil=>simp [txts,Q2g]
 | cons p ps ih =>
  have e:txts (p::ps)=txt p.1 p.2::txts ps:=rfl;rw [e,Q2g,Qd6,ih];simp
theorem Q76 {w:World}{ps:List (Value × List UInt8)}(h:∀ p∈ps,Q02 w p.1 p.2):∀ k∈txts ps,Q17 w k:=by
 intro k y;obtain ⟨p,z,rfl⟩:=List.mem_map.1 y;exact Q17.txt (h p z)
end Go.Proofs.YtbdmkfjgnjfjbaaGreat
