/- The reference's SameItem (of items that mean the same) and Bare (of bare items): true. | pack.Split and the reference's PSplit: one answer. | pack.Decode and th -/
import Derived.Test.YtbdmkfjgnjfjbaaGreatBlockListsK21
import Derived.Test.YtbdmkfjgnjfjbaaGreatBlockListsK01
import Derived.Test.YtbdmkfjgnjfjbaaGreatBlockListsK22
import Derived.Test.YtbdmkfjgnjfjbaaGreatBlockListsK23
import Derived.Test.YtbdmkfjgnjfjbaaGreatBlockListsK20
import Derived.Test.YtbdmkfjgnjfjbaaGreatBlockListsK14
import Derived.Test.YtbdmkfjgnjfjbaaGreatBlockListsK03
import Derived.MapViews
import Derived.DeepKeys2
import Derived.Test.YtbdmkfjgnjfjbaaGreatBlockListsK18
import Derived.Test.YtbdmkfjgnjfjbaaGreatBlockListsK13
import Derived.Deep.Cut
import Derived.Lib.Bytealg
import Derived.Laws.Externs
import Derived.Test.YtbdmkfjgnjfjbaaGreatBlockListsK05
import Derived.Deep.CutBlock
import Derived.Test.YtbdmkfjgnjfjbaaGreatBlockListsK16
set_option linter.unusedSimpArgs false
set_option linter.unusedVariables false
set_option maxHeartbeats 4000000
set_option maxRecDepth 100000
open List (getElem?_map length_append map_cons mem_cons mem_map mem_singleton)
open Nat (le_refl le_trans)
namespace Go.Proofs.YtbdmkfjgnjfjbaaGreat
open Go.RowKit
def Qqm (w:World)(e:Ending)(w':World):Prop:=e=.returned (.bool true)/\Below w.heap.size w w'
mutual
def Qac:Pit->Nat
 | .txt t=>1+t.length
 | .lst ks=>1+Q7p ks
def Q7p:List Pit->Nat
 | []=>0
 | k::ks=>Qac k+Q7p ks
end
theorem Qsu {y:Itm}(D:Q40 y):Q1z y=Qac (erI y):=by
 induction D with
 | txt tv t kv=>rw [Q1w];simp [Q1z,Q2g,Qac]
 | lst tv kv ks h ih =>
  rw [Q1w];have:∀ l:List Itm,(∀ k∈l,Q1z k=Qac (erI k))->Q2g l=Q7p (l.map erI):=by
   intro l;induction l with
   | nil=>intro _;simp [Q2g,Q7p]
   | cons k l ihl =>
    intro z;rw [map_cons,Q2g,Q7p,z k List.mem_cons_self,ihl (fun j E=>z j (List.mem_cons_of_mem _ E))]
  simp [Q1z,Qac,this ks ih]
theorem Qe6 {f:List UInt8->Option (Pit × List UInt8)}(y:∀ b p r,f b=some (p,r)->Qac p+2*r.length<=2*b.length):∀ (m:Nat) (b:List UInt8) (ps:List Pit),parL f m b=some ps->Q7p ps<=2*b.length
 | m,[],ps,h=>by rw [Q6l] at h;simp at h;subst h;simp [Q7p]
 | 0,_::_,ps,h=>by simp [parL] at h
 | m+1,x::b,ps,h=>by
  simp only [parL] at h;cases hx:f (x::b) with
  | none=>rw [hx] at h;simp at h
  | some pr =>
   obtain ⟨p,r⟩:=pr;rw [hx] at h;dsimp only at h;cases hr:parL f m r with
   | none=>rw [hr] at h;simp at h
   | some qs =>
    rw [hr] at h;simp only [Option.some.injEq] at h;subst h;have z:=y _ _ _ hx;have D:=Qe6 y m r qs hr;rw [Q7p];omega
theorem Qhn:∀ (n:Nat)(b:List UInt8)(p:Pit)(r:List UInt8),par n b=some (p,r)->Qac p+2*r.length<=2*b.length
 | 0,[],p,r,h=>by simp [par] at h
 | n+1,[],p,r,h=>by simp [par] at h
 | 0,_::_,p,r,h=>by simp [par] at h
 | n+1,c::b,p,r,h=>by
  unfold par at h;split at h
  ·simp only [Option.some.injEq,Prod.mk.injEq] at h;obtain ⟨rfl,rfl⟩:=h;simp [Qac];omega
  split at h
  ·split at h
   ·simp at h
   rename_i k D y;obtain ⟨j,z,E⟩:=Q50 y;have I:D.length=b.length - j:=by rw [z,List.length_drop]
   split at h
   ·simp at h
   rename_i G;simp only [Option.some.injEq,Prod.mk.injEq] at h;obtain ⟨rfl,rfl⟩:=h;simp [Qac];omega
  split at h
  ·simp at h
  rename_i k D y;obtain ⟨j,z,E⟩:=Q50 y;have I:D.length=b.length - j:=by rw [z,List.length_drop]
  split at h
  ·simp at h
  rename_i G;split at h
  ·simp at h
  rename_i ks H;simp only [Option.some.injEq,Prod.mk.injEq] at h;obtain ⟨rfl,rfl⟩:=h;have:=Qe6 (Qhn n) k _ ks H;simp [Qac] at this |-;omega
def splP (b:List UInt8):Pit:=match par b.length b with
 | none=>.txt []
 | some (p,_)=>p
def splN (b:List UInt8):Nat:=match par b.length b with
 | none=>0
 | some (_,r)=>b.length - r.length
def splE (b:List UInt8):Int:=match par b.length b with
 | none=>1
 | some _=>0
theorem Fp.nil (S:Nat->Prop)(w:World):Fp S w (.mk false (.slice none 0 0) [] (.slice none 0 0) []):=fun u _=>.mk false _ [] _ [] (Q05.nil b8 1 u) (Q05.nil Q0j 3 u) (by simp)
theorem Qkz (a:Option Addr)(L c:Nat)(b:List UInt8)(E:b.length=L)(M:L<=1048576)(w:World)(h:Q02 w (.slice a L c) b) :
  Calls Tryz.prog 84 #[.slice a L c] w fun e w'=>∃ y,e=.returned (.tuple #[.agg (Q0j y).toArray,.int .i64 (splN b:Int),.int .i64 (splE b)])/\Below w.heap.size w w'/\Fp (fun x=>w.heap.size<=x) w' y/\Q40 y/\erI y=splP b/\Q1z y<=10000000:=by
 have z:=Ql0 b.length a L c b E (by omega) M w h;cases hp:par b.length b with
 | none =>
  rw [hp,Qag] at z;refine z.mono ?_;rintro e w' ⟨rfl,D⟩;refine ⟨.mk false (.slice none 0 0) [] (.slice none 0 0) [],?_,D,Fp.nil _ _,.txt _ _ _,by simp [splP,hp,Q1w],by simp [Q1z,Q2g]⟩;simp [splN,splE,hp,Q0j]
 | some pr =>
  obtain ⟨p,r⟩:=pr;rw [hp,Q5u] at z;have N:=Qhn _ _ _ _ hp;refine z.mono ?_;rintro e w' ⟨y,rfl,D,K,H,G⟩;refine ⟨y,?_,D,K,G,by simp [splP,hp,H],by rw [Qsu G,H];omega⟩;have I:splN b=L - r.length:=by unfold splN;rw [hp,<-E]
  have J:splE b=0:=by unfold splE;rw [hp]
  rw [I,J]
theorem Qji (a:Option Addr)(L c:Nat)(b:List UInt8)(E:b.length=L)(M:L<=16777216)(w:World)(h:Q02 w (.slice a L c) b) :
  Calls Tryz.prog 86 #[.slice a L c] w fun e w'=>∃ y,e=.returned (.tuple #[.agg (Q0j y).toArray,.int .i64 (splN b:Int),.int .i64 (splE b)])/\Below w.heap.size w w'/\Fp (fun x=>w.heap.size<=x) w' y/\Q40 y/\erI y=splP b:=by
 have z:=Qat b.length b (le_refl _) (by omega) a L c w E h;cases hp:par b.length b with
 | none =>
  rw [hp,Q3n] at z;refine z.mono ?_;rintro e w' ⟨rfl,D⟩;refine ⟨.mk false (.slice none 0 0) [] (.slice none 0 0) [],?_,D,Fp.nil _ _,.txt _ _ _,by simp [splP,hp,Q1w]⟩;simp [splN,splE,hp,Q0j]
 | some pr =>
  obtain ⟨p,r⟩:=pr;rw [hp,Q3m] at z;refine z.mono ?_;rintro e w' ⟨y,rfl,D,I,K,J⟩;refine ⟨y,?_,D,I,J,by simp [splP,hp,K]⟩;have G:splN b=L - r.length:=by unfold splN;rw [hp,<-E]
  have H:splE b=0:=by unfold splE;rw [hp]
  rw [G,H]
theorem Ql1 (b:List UInt8):splE b=0∨splE b=1:=by unfold splE;split <;> simp
def dec (b:List UInt8):Option Pit:=match par b.length b with
 | some (p,[])=>some p
 | _=>none
def decP (b:List UInt8):Pit:=(dec b).getD (.txt [])
def decE (b:List UInt8):Int:=if (dec b).isSome=true then 0 else 1
theorem Qny {b:List UInt8}(h:splE b=0)(y:splN b=b.length):decE b=0/\decP b=splP b:=by
 unfold decE decP dec;unfold splE at h;unfold splN at y;unfold splP;cases hp:par b.length b with
 | none=>rw [hp] at h;simp at h
 | some pr =>
  obtain ⟨p,r⟩:=pr;rw [hp] at y;have z:=Qfv hp;dsimp only at y;obtain rfl:r=[]:=List.eq_nil_of_length_eq_zero (by omega);exact ⟨rfl,rfl⟩
theorem Qr8 {b:List UInt8}(h:¬ (splE b=0/\splN b=b.length)):decE b=1/\decP b=.txt []:=by
 unfold splE splN at h;unfold decE decP dec;cases hp:par b.length b with
 | none=>exact ⟨rfl,rfl⟩
 | some pr =>
  obtain ⟨p,r⟩:=pr;rw [hp] at h;cases r with
  | nil=>exact absurd ⟨rfl,by simp⟩ h
  | cons x r=>exact ⟨rfl,rfl⟩
theorem Q5k (a:Option Addr)(L c:Nat)(b:List UInt8)(hL:b.length=L)(ao:L<=1048576)(w:World)(h:Q02 w (.slice a L c) b) :
  Calls Tryz.prog 42 #[.slice a L c] w fun e w'=>∃ J,e=.returned (.tuple #[.agg (Q0j J).toArray,.int .i64 (decE b)])/\Below w.heap.size w w'/\Fp (fun x=>w.heap.size<=x) w' J/\Q40 J/\erI J=decP b/\Q1z J<=10000000:=by
 have hz:=D01 w 77 [.bool false,.slice none 0 0,.slice none 0 0];have af:Below w.heap.size w (w.alloc (.cells #[.bool false,.slice none 0 0,.slice none 0 0] 77)):=Qba _ _;have aq:w.heap.size<(w.alloc (.cells #[.bool false,.slice none 0 0,.slice none 0 0] 77)).heap.size:=by simp
 have K:=fun u (y:Q02 u (.slice a L c) b)=>Qkz a L c b hL ao u y;by_cases hok:splE b=0/\splN b=b.length
 ·have H:=Qny hok.1 hok.2;rw [H.1];rw [hok.1,hok.2,hL] at K;have HP:=Qhd H.2;have C:=Qhd K;have ap:((L:Int) != (L:Int))=false:=by simp
  clear K hok H hL;go_enter Tryz.func42,Tryz.ntmps42
  go_wp2_with (first
   |(go_at_call 84;(with_reducible refine (C.out _ (h.alloc _)).mono ?_);rintro e z ⟨J,rfl,M,E,a2,he,a3⟩;have a':=hz.kept M;have a7:=D00 af M;obtain ⟨l,tv,t,kv,ks⟩:=J;obtain ⟨V,W,rfl,_,_⟩:=E.is.inv.1.form;obtain ⟨S,T,rfl,_,_⟩:=E.is.inv.2.1.form;obtain ⟨Z,I⟩:=Qe (t.length);obtain ⟨U,G⟩:=Qe (ks.length);rw [<-I,<-G] at E he a2 a3;rw [<-I,<-G];clear I G;simp only [Q0j])
   |((with_reducible refine Qgs 10 ?_);refine Qsa 77 4 10 z.heap.size [.bool l,.slice V Z W,.slice S U T] Q09 (D01 z 77 [.bool false,.slice none 0 0,.slice none 0 0]) (by rfl) (by rfl) (by intro u y;simp at y;rcases y with rfl|rfl|rfl<;>rfl) (((Below.refl z.heap.size z).alloc (le_refl _) (.cells #[.bool false,.slice none 0 0,.slice none 0 0] 77))) (le_refl _) ?_;intro w4 h4 D _;have aa:=a'.kept D;have ae:=E.to D.size (fun x hx O=>⟨D.block x O,hx⟩);have a8:=D00 a7 D)
   |(refine Qla 77 4 z.heap.size Q09 h4 (by rfl) ?_)
   |((with_reducible refine Qgs 22 ?_);refine Qsa 77 2 22 w.heap.size [.bool l,.slice V Z W,.slice S U T] Q09 aa (by rfl) (by rfl) (by intro u y;simp at y;rcases y with rfl|rfl|rfl<;>rfl) a8 (le_refl _) ?_;intro w5 h5 a9 g5;have an:=ae.to (S':=fun x=>w.heap.size<=x) g5.size (fun x hx O=>⟨g5.block x O (by simp<;>omega),by omega⟩)))
  exact bodyPost_ret (Q01 rfl _ _ w.heap.size Q09 h5 rfl rfl rfl) rfl ⟨.mk l (.slice V Z W) t (.slice S U T) ks,rfl,a9,an,a2,he.trans HP.out.symm,a3⟩
 have H:=Qr8 hok;rw [H.1];have HP:=Qhd H.2;rcases Ql1 b with h0|h0
 ·have hN:splN b≠L:=fun e=>hok ⟨h0,by rw [hL];exact e⟩;rw [h0] at K;obtain ⟨N,ai⟩:=Qe (splN b);rw [<-ai] at K hN;have ap:((N:Int) != (L:Int))=true:=by rw [bne_iff_ne];omega
  have C:=Qhd K;clear K hok H hL ai h0 hN;go_enter Tryz.func42,Tryz.ntmps42
  go_wp2_with (first
   |(go_at_call 84;(with_reducible refine (C.out _ (h.alloc _)).mono ?_);rintro e z ⟨J,rfl,M,E,a2,he,a3⟩;have a':=hz.kept M;have a7:=D00 af M;obtain ⟨l,tv,t,kv,ks⟩:=J;obtain ⟨V,W,rfl,_,_⟩:=E.is.inv.1.form;obtain ⟨S,T,rfl,_,_⟩:=E.is.inv.2.1.form;obtain ⟨Z,I⟩:=Qe (t.length);obtain ⟨U,G⟩:=Qe (ks.length);rw [<-I,<-G] at E he a2 a3;rw [<-I,<-G];clear I G;simp only [Q0j])
   |((with_reducible refine Qgs 10 ?_);refine Qsa 77 4 10 z.heap.size [.bool l,.slice V Z W,.slice S U T] Q09 (D01 z 77 [.bool false,.slice none 0 0,.slice none 0 0]) (by rfl) (by rfl) (by intro u y;simp at y;rcases y with rfl|rfl|rfl<;>rfl) (((Below.refl z.heap.size z).alloc (le_refl _) (.cells #[.bool false,.slice none 0 0,.slice none 0 0] 77))) (le_refl _) ?_;intro w4 h4 D _;have aa:=a'.kept D;have ae:=E.to D.size (fun x hx O=>⟨D.block x O,hx⟩);have a8:=D00 a7 D)
   |((with_reducible refine Qgs 21 ?_);refine Qsa 77 2 21 w.heap.size [.bool false,.slice none 0 0,.slice none 0 0] Q09 aa (by rfl) (by rfl) (by intro u y;simp at y;rcases y with rfl|rfl<;>rfl) a8 (le_refl _) ?_;intro w5 h5 a9 g5))
  exact bodyPost_ret (Q01 rfl _ _ w.heap.size Q09 h5 rfl rfl rfl) rfl ⟨.mk false (.slice none 0 0) [] (.slice none 0 0) [],rfl,a9,Fp.nil _ _,.txt _ _ _,by simp [Q1w,HP.out],by simp [Q1z,Q2g]⟩
 rw [h0] at K;have C:=Qhd K;clear K hok H hL h0;go_enter Tryz.func42,Tryz.ntmps42
 go_wp2_with (first
  |(go_at_call 84;(with_reducible refine (C.out _ (h.alloc _)).mono ?_);rintro e z ⟨J,rfl,M,E,a2,he,a3⟩;have a':=hz.kept M;have a7:=D00 af M;obtain ⟨l,tv,t,kv,ks⟩:=J;obtain ⟨V,W,rfl,_,_⟩:=E.is.inv.1.form;obtain ⟨S,T,rfl,_,_⟩:=E.is.inv.2.1.form;obtain ⟨Z,I⟩:=Qe (t.length);obtain ⟨U,G⟩:=Qe (ks.length);rw [<-I,<-G] at E he a2 a3;rw [<-I,<-G];clear I G;simp only [Q0j])
  |((with_reducible refine Qgs 10 ?_);refine Qsa 77 4 10 z.heap.size [.bool l,.slice V Z W,.slice S U T] Q09 (D01 z 77 [.bool false,.slice none 0 0,.slice none 0 0]) (by rfl) (by rfl) (by intro u y;simp at y;rcases y with rfl|rfl|rfl<;>rfl) (((Below.refl z.heap.size z).alloc (le_refl _) (.cells #[.bool false,.slice none 0 0,.slice none 0 0] 77))) (le_refl _) ?_;intro w4 h4 D _;have aa:=a'.kept D;have ae:=E.to D.size (fun x hx O=>⟨D.block x O,hx⟩);have a8:=D00 a7 D)
  |((with_reducible refine Qgs 21 ?_);refine Qsa 77 2 21 w.heap.size [.bool false,.slice none 0 0,.slice none 0 0] Q09 aa (by rfl) (by rfl) (by intro u y;simp at y;rcases y with rfl|rfl<;>rfl) a8 (le_refl _) ?_;intro w5 h5 a9 g5))
 exact bodyPost_ret (Q01 rfl _ _ w.heap.size Q09 h5 rfl rfl rfl) rfl ⟨.mk false (.slice none 0 0) [] (.slice none 0 0) [],rfl,a9,Fp.nil _ _,.txt _ _ _,by simp [Q1w,HP.out],by simp [Q1z,Q2g]⟩
theorem Qft (a:Option Addr)(L c:Nat)(b:List UInt8)(hL:b.length=L)(an:L<=16777216)(w:World)(h:Q02 w (.slice a L c) b) :
  Calls Tryz.prog 45 #[.slice a L c] w fun e w'=>∃ K,e=.returned (.tuple #[.agg (Q0j K).toArray,.int .i64 (decE b)])/\Below w.heap.size w w'/\Fp (fun x=>w.heap.size<=x) w' K/\Q40 K/\erI K=decP b:=by
 have hz:=D01 w 77 [.bool false,.slice none 0 0,.slice none 0 0];have ae:Below w.heap.size w (w.alloc (.cells #[.bool false,.slice none 0 0,.slice none 0 0] 77)):=Qba _ _;have ap:w.heap.size<(w.alloc (.cells #[.bool false,.slice none 0 0,.slice none 0 0] 77)).heap.size:=by simp
 have J:=fun u (y:Q02 u (.slice a L c) b)=>Qji a L c b hL an u y;by_cases hok:splE b=0/\splN b=b.length
 ·have H:=Qny hok.1 hok.2;rw [H.1];rw [hok.1,hok.2,hL] at J;have HP:=Qhd H.2;have C:=Qhd J;have ao:((L:Int) != (L:Int))=false:=by simp
  clear J hok H hL;go_enter Tryz.func45,Tryz.ntmps45
  go_wp2_with (first
   |(go_at_call 86;(with_reducible refine (C.out _ (h.alloc _)).mono ?_);rintro e z ⟨K,rfl,M,E,a2,he⟩;have a9:=hz.kept M;have a6:=D00 ae M;obtain ⟨l,tv,t,kv,ks⟩:=K;obtain ⟨V,W,rfl,_,_⟩:=E.is.inv.1.form;obtain ⟨S,T,rfl,_,_⟩:=E.is.inv.2.1.form;obtain ⟨Z,I⟩:=Qe (t.length);obtain ⟨U,G⟩:=Qe (ks.length);rw [<-I,<-G] at E he a2;rw [<-I,<-G];clear I G;simp only [Q0j])
   |((with_reducible refine Qgs 10 ?_);refine Qsa 77 4 10 z.heap.size [.bool l,.slice V Z W,.slice S U T] Q09 (D01 z 77 [.bool false,.slice none 0 0,.slice none 0 0]) (by rfl) (by rfl) (by intro u y;simp at y;rcases y with rfl|rfl|rfl<;>rfl) (((Below.refl z.heap.size z).alloc (le_refl _) (.cells #[.bool false,.slice none 0 0,.slice none 0 0] 77))) (le_refl _) ?_;intro w4 h4 D _;have a':=a9.kept D;have ad:=E.to D.size (fun x hx O=>⟨D.block x O,hx⟩);have a7:=D00 a6 D)
   |(refine Qla 77 4 z.heap.size Q09 h4 (by rfl) ?_)
   |((with_reducible refine Qgs 22 ?_);refine Qsa 77 2 22 w.heap.size [.bool l,.slice V Z W,.slice S U T] Q09 a' (by rfl) (by rfl) (by intro u y;simp at y;rcases y with rfl|rfl|rfl<;>rfl) a7 (le_refl _) ?_;intro w5 h5 a8 g5;have am:=ad.to (S':=fun x=>w.heap.size<=x) g5.size (fun x hx O=>⟨g5.block x O (by simp<;>omega),by omega⟩)))
  exact bodyPost_ret (Q01 rfl _ _ w.heap.size Q09 h5 rfl rfl rfl) rfl ⟨.mk l (.slice V Z W) t (.slice S U T) ks,rfl,a8,am,a2,he.trans HP.out.symm⟩
 have H:=Qr8 hok;rw [H.1];have HP:=Qhd H.2;rcases Ql1 b with h0|h0
 ·have hN:splN b≠L:=fun e=>hok ⟨h0,by rw [hL];exact e⟩;rw [h0] at J;obtain ⟨N,ah⟩:=Qe (splN b);rw [<-ah] at J hN;have ao:((N:Int) != (L:Int))=true:=by rw [bne_iff_ne];omega
  have C:=Qhd J;clear J hok H hL ah h0 hN;go_enter Tryz.func45,Tryz.ntmps45
  go_wp2_with (first
   |(go_at_call 86;(with_reducible refine (C.out _ (h.alloc _)).mono ?_);rintro e z ⟨K,rfl,M,E,a2,he⟩;have a9:=hz.kept M;have a6:=D00 ae M;obtain ⟨l,tv,t,kv,ks⟩:=K;obtain ⟨V,W,rfl,_,_⟩:=E.is.inv.1.form;obtain ⟨S,T,rfl,_,_⟩:=E.is.inv.2.1.form;obtain ⟨Z,I⟩:=Qe (t.length);obtain ⟨U,G⟩:=Qe (ks.length);rw [<-I,<-G] at E he a2;rw [<-I,<-G];clear I G;simp only [Q0j])
   |((with_reducible refine Qgs 10 ?_);refine Qsa 77 4 10 z.heap.size [.bool l,.slice V Z W,.slice S U T] Q09 (D01 z 77 [.bool false,.slice none 0 0,.slice none 0 0]) (by rfl) (by rfl) (by intro u y;simp at y;rcases y with rfl|rfl|rfl<;>rfl) (((Below.refl z.heap.size z).alloc (le_refl _) (.cells #[.bool false,.slice none 0 0,.slice none 0 0] 77))) (le_refl _) ?_;intro w4 h4 D _;have a':=a9.kept D;have ad:=E.to D.size (fun x hx O=>⟨D.block x O,hx⟩);have a7:=D00 a6 D)
   |((with_reducible refine Qgs 21 ?_);refine Qsa 77 2 21 w.heap.size [.bool false,.slice none 0 0,.slice none 0 0] Q09 a' (by rfl) (by rfl) (by intro u y;simp at y;rcases y with rfl|rfl<;>rfl) a7 (le_refl _) ?_;intro w5 h5 a8 g5))
  exact bodyPost_ret (Q01 rfl _ _ w.heap.size Q09 h5 rfl rfl rfl) rfl ⟨.mk false (.slice none 0 0) [] (.slice none 0 0) [],rfl,a8,Fp.nil _ _,.txt _ _ _,by simp [Q1w,HP.out]⟩
 rw [h0] at J;have C:=Qhd J;clear J hok H hL h0;go_enter Tryz.func45,Tryz.ntmps45
 go_wp2_with (first
  |(go_at_call 86;(with_reducible refine (C.out _ (h.alloc _)).mono ?_);rintro e z ⟨K,rfl,M,E,a2,he⟩;have a9:=hz.kept M;have a6:=D00 ae M;obtain ⟨l,tv,t,kv,ks⟩:=K;obtain ⟨V,W,rfl,_,_⟩:=E.is.inv.1.form;obtain ⟨S,T,rfl,_,_⟩:=E.is.inv.2.1.form;obtain ⟨Z,I⟩:=Qe (t.length);obtain ⟨U,G⟩:=Qe (ks.length);rw [<-I,<-G] at E he a2;rw [<-I,<-G];clear I G;simp only [Q0j])
  |((with_reducible refine Qgs 10 ?_);refine Qsa 77 4 10 z.heap.size [.bool l,.slice V Z W,.slice S U T] Q09 (D01 z 77 [.bool false,.slice none 0 0,.slice none 0 0]) (by rfl) (by rfl) (by intro u y;simp at y;rcases y with rfl|rfl|rfl<;>rfl) (((Below.refl z.heap.size z).alloc (le_refl _) (.cells #[.bool false,.slice none 0 0,.slice none 0 0] 77))) (le_refl _) ?_;intro w4 h4 D _;have a':=a9.kept D;have ad:=E.to D.size (fun x hx O=>⟨D.block x O,hx⟩);have a7:=D00 a6 D)
  |((with_reducible refine Qgs 21 ?_);refine Qsa 77 2 21 w.heap.size [.bool false,.slice none 0 0,.slice none 0 0] Q09 a' (by rfl) (by rfl) (by intro u y;simp at y;rcases y with rfl|rfl<;>rfl) a7 (le_refl _) ?_;intro w5 h5 a8 g5))
 exact bodyPost_ret (Q01 rfl _ _ w.heap.size Q09 h5 rfl rfl rfl) rfl ⟨.mk false (.slice none 0 0) [] (.slice none 0 0) [],rfl,a8,Fp.nil _ _,.txt _ _ _,by simp [Q1w,HP.out]⟩
theorem Q3d (a:Option Addr)(L c:Nat)(b:List UInt8)(y:b.length=L)(z:L<=1048576)(w:World)(h:Q02 w (.slice a L c) b) :
  Calls Tryz.prog 45 #[.slice a L c] w fun e w'=>∃ it,e=.returned (.tuple #[.agg (Q0j it).toArray,.int .i64 (decE b)])/\Below w.heap.size w w'/\Fp (fun x=>w.heap.size<=x) w' it/\Q40 it/\erI it=decP b :=
 Qft a L c b y (le_trans z (by omega)) w h
theorem Q36 {b:List UInt8}{p:Pit}(h:dec b=some p):b=encP p:=by
 unfold dec at h;cases hp:par b.length b with
 | none=>rw [hp] at h;simp at h
 | some pr =>
  obtain ⟨q,r⟩:=pr;rw [hp] at h;cases r with
  | nil =>
   simp only [Option.some.injEq] at h;subst h;have:=Qho _ _ _ _ hp;simpa using this
  | cons x r=>simp at h
def Q5b:Pit->List (List UInt8)->Prop
 | .txt _,_=>True
 | .lst ks,l=>l.length=ks.length/\∀ (i:Nat) (t:List UInt8),ks[i]?=some (.txt t)->l[i]?=some t
def itl:Itm->Bool
 | .mk l _ _ _ _=>l
def itt:Itm->List UInt8
 | .mk _ _ t _ _=>t
theorem Qqb {y:Itm}(h:itl y=false):erI y=.txt (itt y):=by
 cases y with
 | mk l tv t kv ks =>
  have:l=false:=h;subst this;rw [Q1w];rfl
theorem Q6v:∀ (ks:List Pit),ks.length<=(Q35 ks).length
 | []=>by simp [Q35]
 | k::ks=>by
  have y:=Q6v ks;have z:0<(encP k).length:=by
   rcases Nat.eq_zero_or_pos (encP k).length with h|h
   ·exact absurd (List.eq_nil_of_length_eq_zero h) (Qg8 k)
   exact h
  rw [Q35,length_append,List.length_cons];omega
theorem Qkr (t:List UInt8):t.length<=(encP (.txt t)).length:=by
 rw [encP];unfold Q1q;split
 ·omega
 rw [length_append];omega
def Q66:Pit->Nat
 | .txt _=>0
 | .lst qs=>qs.length
theorem Q87 (p:Pit):Q66 p<=(encP p).length:=by
 cases p with
 | txt t=>simp [Q66]
 | lst qs =>
  have:=Q6v qs;rw [encP,length_append];show qs.length<=_;omega
def itks:Itm->List Itm
 | .mk _ _ _ _ ks=>ks
def pitT:Pit->List UInt8
 | .txt t=>t
 | .lst _=>[]
def kidT:Pit->List (List UInt8)
 | .txt _=>[]
 | .lst qs=>qs.map pitT
theorem Q9f (p:Pit):∀ t∈kidT p,t.length<=(encP p).length:=by
 intro t h;cases p with
 | txt _=>simp [kidT] at h
 | lst qs =>
  simp only [kidT,mem_map] at h;obtain ⟨q,y,rfl⟩:=h;cases q with
  | lst _=>simp [pitT]
  | txt t =>
   have z:=Qkr t;have D:=Q48 y;simp only [pitT];rw [encP,length_append];omega
theorem Qcj {z:Itm}{p:Pit}(E:Q40 z)(G:erI z=p):(itks z).length=Q66 p/\Q5b p ((itks z).map itt)/\(itks z).map itt=kidT p:=by
 subst G;cases E with
 | txt tv t kv=>rw [Q1w];exact ⟨rfl,trivial,rfl⟩
 | lst tv kv ks h =>
  rw [Q1w,if_pos rfl];refine ⟨by simp [Q66,itks],⟨by simp [itks],fun i t y=>?_⟩,?_⟩
  rotate_left
  ·show ks.map itt=(ks.map erI).map pitT;rw [List.map_map];apply List.map_congr_left;intro k D;cases h k D with
   | txt tv t kv=>rw [Function.comp,Q1w];rfl
   | lst tv kv ks h=>rw [Function.comp,Q1w];rfl
  show (ks.map itt)[i]?=some t;rw [getElem?_map] at y |-;cases D:ks[i]? with
  | none=>rw [D] at y;simp at y
  | some k =>
   rw [D] at y;simp only [Option.map_some,Option.some.injEq] at y |-;cases k with
   | mk l tv t' kv ks' =>
    rw [Q1w] at y;cases l with
    | false=>simpa [itt] using y
    | true=>simp at y
theorem sl32 (g off:Nat)(w:World):(Instr.sliceAt 30 (.pointer (some ⟨g,off,none⟩)) none none none).run Tryz.prog w=.ok (.slice (some ⟨g,off,none⟩) 32 32) w:=by
 rw [run_sliceAt_array_all w 30 ⟨g,off,none⟩ (by kernel_rfl)];have y:Tryz.prog.arrayLen 30=32:=by kernel_rfl
 have h:(Tryz.prog.info? (Tryz.prog.elem 30)).map (·.size)=some 1:=by kernel_rfl
 cases hq:Tryz.prog.info? (Tryz.prog.elem 30) with
 | none=>simp [hq] at h
 | some q =>
  have z:q.size=1:=by simpa [hq] using h
  simp [sizeOf,typeInfo,hq,z,y,slicedAt,Addr.add]
end Go.Proofs.YtbdmkfjgnjfjbaaGreat
namespace Go.Proofs.YtbdmkfjgnjfjbaaGreat
open Go.ChangeShapes Go.WideShapes Go.ChangeAt Go.RowKit
structure Lf where
 n:Nat
 m:Nat
 s:List UInt8
 c:List UInt8
def lTs (l:Lf):List (List UInt8):=[numB l.n,numB l.m,l.s,l.c]
def wL (l:Lf):List UInt8:=lsB (lTs l)
theorem Q9a (N:Nat):(numB N).length<=32:=by
 unfold numB;exact le_trans (Qim _) (by have:=Q2e N;omega)
end Go.Proofs.YtbdmkfjgnjfjbaaGreat
namespace Go.Proofs.YtbdmkfjgnjfjbaaGreat
open Go.RowKit
def FrT (B:Nat)(t:List UInt8):Ty:=fun v w=>Q02 w v t/\∀ k,v.ownBlock=some k->B<=k/\k<w.heap.size
theorem FrT.mono (B:Nat)(t:List UInt8):Mono (FrT B t):=fun _ _ _ ⟨h1,h2⟩ hb=>⟨Q05.kept h1 hb,fun k hk=>⟨(h2 k hk).1,Nat.lt_of_lt_of_le (h2 k hk).2 hb.size⟩⟩
theorem FrT.own {B:Nat}{t:List UInt8}{v:Value}{w:World}(h:Q08 b8 1 5 w B v t):FrT B t v w:=⟨h.row,fun k hk=>⟨h.lt k hk,Qc1 h hk⟩⟩
theorem FrT.lower {B B':Nat}{t:List UInt8}{v:Value}{w:World}(h:FrT B t v w)(y:B'<=B):FrT B' t v w:=⟨h.1,fun k hk=>⟨le_trans y (h.2 k hk).1,(h.2 k hk).2⟩⟩
def Qip (t:List UInt8)(w:World)(e:Ending)(w':World):Prop:=∃ v,e=.returned v/\FrT w.heap.size t v w'/\Below w.heap.size w w'
structure Acc where
 n:Nat
 m:Nat
 cv:Value
 c:List UInt8
 sv:Value
 s:List (Nat × Nat)
structure Hol where
 f:List UInt8
 a:Acc
 l:f.length=8
theorem Q8h {P:Program}{w:World}{ops:Array Oper}{E:List Oper}{o:Oper}{a:Act}{Q:Exit->Act->World->Prop}(z:TypeId)(x y:Operand)(t:TypeId)(H:o.op=.binOp .eql z x y t){v D u:Value}(I:a.eval x=v)(J:a.eval y=D)
  (hg:∀ o1 o2 w1,(eqGuard .eql z o1 o2 v D).run P w1=.ok () w1) (hq:∀ w1,(binOp .eql z v D).run P w1=.ok u w1) (hw:Region.wanted o (yielded ops a.tmps)=true) (h:wpList P ops Q E (a.put o.dst u) w):wpList P ops Q (o::E) a w:=by
 refine wpList_step fun K G=>?_;rw [if_pos hw];unfold Oper.wp execOp;simp only [H,I,J,Sem.run_bind,hg,hq,Result.andThen_ok,Sem.run_pure];exact G _ _ h
def FrN (pv v:Value)(t:List UInt8)(u:World):Prop:=Q02 u v t/\∀ k,v.ownBlock=some k->k<u.heap.size/\pv.ownBlock≠some k
theorem FrN.kept {D v:Value}{t:List UInt8}{u u':World}(h:FrN D v t u)(y:Below u.heap.size u u'):FrN D v t u' :=
 ⟨Q05.kept (f:=b8) (size:=1) h.1 y,fun k z=>⟨Nat.lt_of_lt_of_le (h.2 k z).1 y.size,(h.2 k z).2⟩⟩
theorem FrN.grew {z E v:Value}{t:List UInt8}{u u':World}(h:FrN z v t u)(D:u.grownBy u' z.ownBlock)(G:∀ k,E.ownBlock=some k->z.ownBlock=some k∨u.heap.size<=k):FrN E v t u' :=
 ⟨Q05.grownT (f:=b8) (size:=1) h.1 D (fun k y=>(h.2 k y).1) (fun k y=>(h.2 k y).2),fun k y=>⟨Nat.lt_of_lt_of_le (h.2 k y).1 D.size,fun e=>(G k e).elim (h.2 k y).2 (fun H=>by have:=(h.2 k y).1;omega)⟩⟩
theorem FrT.frn {B:Nat}{t:List UInt8}{z v:Value}{u:World}(h:FrT B t v u)(D:∀ k,z.ownBlock=some k->k<B):FrN z v t u :=
 ⟨h.1,fun k y=>⟨(h.2 k y).2,fun e=>by have E:=D k e;have G:=(h.2 k y).1;omega⟩⟩
structure PrW (w0:World)(pv:Value)(ps:List Kvp)(u:World):Prop where
 hb:Below w0.heap.size w0 u
 hO:Q08 kvc 2 107 u w0.heap.size pv ps
 hF:∀ p∈ps,FrN pv p.kv p.k u/\FrN pv p.vv p.v u
theorem PrW.kept {E u u':World}{D:Value}{ps:List Kvp}(h:PrW E D ps u)(y:Below u.heap.size u u'):PrW E D ps u' :=
 ⟨D00 h.hb y,h.hO.kept y,fun p z=>⟨(h.hF p z).1.kept y,(h.hF p z).2.kept y⟩⟩
theorem PrW.grew {I u u':World}{E H:Value}{ps:List Kvp}{p:Kvp}{B:Nat}(h:PrW I E ps u)(z:u.grownBy u' E.ownBlock)(K:Q08 kvc 2 107 u' I.heap.size H (ps++[p]))(D:∀ k,H.ownBlock=some k->E.ownBlock=some k∨u.heap.size<=k)(J:∀ k,E.ownBlock=some k->k<B)(G:FrT B p.k p.kv u)(L:FrT B p.v p.vv u):PrW I H (ps++[p]) u':=by
 refine ⟨h.hb.grown z h.hb.size (fun k G=>h.hO.lt k G),K,fun q y=>?_⟩;rcases List.mem_append.1 y with y|y
 ·exact ⟨(h.hF q y).1.grew z D,(h.hF q y).2.grew z D⟩
 rw [mem_singleton] at y;subst y;exact ⟨(G.frn J).grew z D,(L.frn J).grew z D⟩
theorem PrW.is {z u:World}{y:Value}{ps:List Kvp}(h:PrW z y ps u):∀ p∈ps,IsKv u p:=fun p hp=>⟨(h.hF p hp).1.1,(h.hF p hp).2.1⟩
theorem PrW.start {y u:World}(h:Below y.heap.size y u):PrW y (.slice none 0 0) [] u:=⟨h,Q08.nil kvc 2 _ _ _,by simp⟩
theorem Qr7:El0 Tryz.prog 105 107 (.agg #[.slice none 0 0,.slice none 0 0]) 2 48 kvc:=⟨by kernel_rfl,by kernel_rfl,rfl,by omega,Q9e⟩
def PrT (B:Nat)(k t:List UInt8):Ty:=fun v w=>∃ a n c a' n' c',v=.agg #[.slice a n c,.slice a' n' c']/\FrT B k (.slice a n c) w/\FrT B t (.slice a' n' c') w
theorem PrT.mono (B:Nat)(k t:List UInt8):Mono (PrT B k t):=fun _ _ _ ⟨a,n,c,a',n',c',h1,h2,h3⟩ hb=>⟨a,n,c,a',n',c',h1,FrT.mono _ _ _ _ _ h2 hb,FrT.mono _ _ _ _ _ h3 hb⟩
def OneP (B:Nat)(k t:List UInt8):Ty:=fun u w=>∃ g a n c a' n' c',u=.slice (some ⟨g,0,none⟩) 1 1/\Q05 kvc 2 w u [⟨.slice a n c,k,.slice a' n' c',t⟩]/\FrT B k (.slice a n c) w/\FrT B t (.slice a' n' c') w
theorem OneP.mono (B:Nat)(k t:List UInt8):Mono (OneP B k t):=fun _ _ _ ⟨g,a,n,c,a',n',c',h1,h2,h3,h4⟩ hb=>⟨g,a,n,c,a',n',c',h1,Q05.kept h2 hb,FrT.mono _ _ _ _ _ h3 hb,FrT.mono _ _ _ _ _ h4 hb⟩
theorem Qpq {w:World}{B:Nat}{k t:List UInt8}{a h:Option Addr}{n c z y:Nat}(E:FrT B k (.slice a n c) w)(G:FrT B t (.slice h z y) w):Below w.heap.size w (w.alloc (.cells #[.slice a n c,.slice h z y] 107))/\OneP B k t (.slice (some ⟨w.heap.size,0,none⟩) 1 1) (w.alloc (.cells #[.slice a n c,.slice h z y] 107)):=by
 have D:Below w.heap.size w (w.alloc (.cells #[.slice a n c,.slice h z y] 107)):=Qba _ _;exact ⟨D,w.heap.size,a,n,c,h,z,y,rfl,D02 Q9e w 107 [⟨.slice a n c,k,.slice h z y,t⟩] 1 rfl (by unfold maxLen;omega),FrT.mono _ _ _ _ _ E D,FrT.mono _ _ _ _ _ G D⟩
theorem Qhq {e:TypeId}{w:World}{B:Nat}{y:Value}{ps:List Kvp}(h:Q08 kvc 2 e w B y ps):∃ a n c,y=.slice a n c/\n=ps.length:=by
 obtain ⟨a,c,rfl,_⟩:=h.form;exact ⟨a,_,c,rfl,rfl⟩
theorem Qni {w:World}{g B:Nat}{l:List UInt8}(h:Blk 30 w g (l.map u8v))(D:l.length=32)(z:B<=g):FrT B l (.slice (some ⟨g,0,none⟩) 32 32) w :=
 ⟨Q7e h D,fun k y=>by simp only [Value.ownBlock,Option.some.injEq] at y;subst y;exact ⟨z,h.lt⟩⟩
def Qbe (T:Pn)(w:World)(e:Ending)(w':World):Prop:=∃ y:Nd,e=.returned (.agg (Q04 y).toArray)/\Q2a w' w.heap.size y/\erN y=T/\Below w.heap.size w w'
theorem Q8j (l:List UInt8):∀ u∈l.map u8v,u.oneCell'=true:=by
 intro u h;obtain ⟨x,_,rfl⟩:=mem_map.1 h;rfl
theorem Q92 (N:Nat)(w:World) :
  Calls Tryz.prog 53 #[wv N] w (Qip (numB N) w):=by
 have K:=boxW w N;have H:Below w.heap.size w (w.alloc (.cells (wcs N).toArray 24)):=Qba _ _;show Calls Tryz.prog 53 #[.agg (wcs N).toArray] w _;go_enter Tryz.func53,Tryz.ntmps53
 go_wp2_with (first
  |(refine Q1b rfl 24 (.tmp 1) rfl w.heap.size rfl Q0u K (Q14 _) ?_)
  |(go_at_call 66;refine (Qaj N _).mono ?_;rintro e U ⟨v,rfl,D,I⟩;obtain ⟨a,c,rfl,_⟩:=D.form' 32 (Q2e N)))
 have L:=H.trans (I.mono H.size);have S:Q02 U (.slice a 32 c) (wb N):=D.row;have M:∀ k,(Value.slice a 32 c).ownBlock=some k->w.heap.size<=k/\k<U.heap.size:=fun k y=>⟨by have:=D.lt k y;simp at this;omega,Qc1 D y⟩;have W:=Qhd M;clear H I D K M
 go_loop [4,5,10] (fun _ _ i=>∃ k:Nat,k<=32/\i=.int .i64 (k:Int)/\numB N=bare ((wb N).drop k)) (fun _ _ i=>32 - (intOf i).toNat)
 case atStart=>exact ⟨0,by omega,rfl,rfl⟩
 case round =>
  obtain ⟨k,y,rfl,h⟩:=hrel;by_cases hlt:k<32
  ·obtain ⟨b,off,rfl,Z⟩:=S.at k (by rw [Q2e];exact hlt);rw [List.drop_eq_getElem_cons (by rw [Q2e];exact hlt)] at h;obtain ⟨x,E⟩:=Qe ((wb N)[k]'(by rw [Q2e];exact hlt));rw [<-E] at Z h;have a4:(k:Int)<32:=by omega
   by_cases h0:x=0
   ·subst h0;rw [Q3j] at h;have z:=Qhd h;clear h E
    go_wp2
    go_round
    case rel=>exact ⟨k+1,by omega,by go_num,z.out⟩
    case measure=>simp [intOf];omega
   have a5:=Qqs x h0;rw [Q3k x _ h0,E,<-List.drop_eq_getElem_cons] at h;have z:=Qhd h;obtain ⟨a',c',s1,T,G⟩:=Qnn S k (by omega) (k:Int) rfl;obtain ⟨m,O⟩:=Qe (32 - k);rw [<-O] at s1 T G;have a3:k<=32:=by omega
   have V:=Qhd G;clear h E O G
   go_wp2
   go_ret;exact ⟨_,rfl,⟨by rw [z.out];exact T,fun k y=>W.out k (V.out k y)⟩,L⟩
  obtain rfl:k=32:=by omega
  rw [List.drop_eq_nil_of_le (by rw [Q2e];omega)] at h;have J:numB N=[]:=h;have z:=Qhd J;clear h J
  go_wp2
  go_ret;exact ⟨_,rfl,⟨by rw [z.out];exact Q05.nil _ _ _,fun k y=>by simp [Value.ownBlock] at y⟩,L⟩
theorem Qiz (a:Option Addr)(n c:Nat)(l:List UInt8)(K:l.length=n)(w:World)(h:Q02 w (.slice a n c) l)(U:n+64<=140737488355328):Calls Tryz.prog 62 #[.slice a n c] w (Qip (sumB l) w):=by
 have cs:=Q81 a n c l K w h U;have E:(sumB l).length=32:=Q1r _;obtain ⟨z,I⟩:=Qe (sumB l);rw [<-I] at cs E |-;have J:(z.map u8v).length=32:=by rw [List.length_map];exact E
 have G:=Qhd (Q8j z);obtain ⟨N,D⟩:=Qe (z.map u8v);rw [<-D] at cs J G;have M:=Qhd D;have L:=Qhd cs;clear cs D I h K;go_enter Tryz.func62,Tryz.ntmps62
 go_wp2_with (first
  |(go_at_call 41;(with_reducible refine L.out.mono ?_);rintro e y ⟨rfl,H⟩;have V:=D01 y 30 zh)
  |((with_reducible refine Qgs 5 ?_);refine Qsa 30 3 5 y.heap.size N Q0g V J (by rfl) G.out (Qba y _) (le_refl _) ?_;intro W T O _;have Z:=sl32 y.heap.size 0 W;have S:=D00 H O))
 go_ret;exact ⟨_,rfl,Qni (by rw [<-M.out];exact T) E H.size,S⟩
def z7:List Value:=[.int .u64 0,.int .u64 0,.int .u64 0,.int .u64 0,.int .u64 0,.slice none 0 0,.slice none 0 0]
def zA:Acc:=⟨0,0,.slice none 0 0,[],.slice none 0 0,[]⟩
mutual
def ndP:Pn->Nd
 | .mk kd p v ks=>.mk kd (.slice none 0 0) p (.slice none 0 0) v (.slice none 0 0) (ndPL ks)
def ndPL:List Pn->List Nd
 | []=>[]
 | k::ks=>ndP k::ndPL ks
end
mutual
theorem Qk1:∀ T:Pn,erN (ndP T)=T
 | .mk kd p v ks=>by simp only [ndP,erN,Qr6 ks]
theorem Qr6:∀ ks:List Pn,erNL (ndPL ks)=ks
 | []=>rfl
 | k::ks=>by simp only [ndPL,erNL,Qk1 k,Qr6 ks]
end
def rtB (T:Pn):List UInt8:=if rgt 0 (ndP T)=true then sumB ((whN (ndP T)).headD []) else Q5y 32
theorem Qfd (T:Pn):(rtB T).length=32:=by
 unfold rtB;split
 ·exact Q1r _
 rfl
theorem Qtkz {t:Nd}{T:Pn}(h:erN t=T):rtC t=(rtB T).map u8v:=by
 rw [Qtj (s:=ndP T) (by rw [Qk1,h])];unfold rtC rtB;split
 ·rfl
 rfl
theorem Qt7 (b:List UInt8)(h:unE b=0):Q2d (tagL (unP b) (Q19 b))=b/\Q0r (unP b)=false:=by
 have E:unAt b≠0:=fun e=>by unfold unE at h;rw [if_pos e] at h;simp at h
 by_cases hb:b=[]
 ·subst hb;exact absurd rfl E
 obtain ⟨x,y,r,e,J,S,T⟩:=Q5h b hb;have O:∃ k,unAt b=k/\hits b k (Q19 b)=true:=by
  have z:unAt b=if 3<x.toNat then 0 else if x.toNat % 2=1 then 1 else if y.toNat=0 then 2 else 0:=by unfold unAt;rw [e]
  have H:Q19 b=(unAt b != 0&&decide (2<=x.toNat)):=by unfold Q19;rw [e]
  by_cases h3:3<x.toNat
  ·rw [if_pos h3] at z;exact absurd z E
  rw [if_neg h3] at z;by_cases h1:x.toNat % 2=1
  ·rw [if_pos h1] at z;refine ⟨1,z,?_⟩;rw [Qcq b _ x y r e J,H,z,decide_eq_true_eq];rcases (by omega:x.toNat=1∨x.toNat=3) with D|D<;>rw [D]<;>rfl
  rw [if_neg h1] at z;by_cases h0:y.toNat=0
  ·rw [if_pos h0] at z;refine ⟨2,z,?_⟩;rw [Qcp b _ x y r e J,H,z,decide_eq_true_eq];rcases (by omega:x.toNat=0∨x.toNat=2) with D|D<;>rw [D]<;>exact ⟨rfl,h0⟩
  rw [if_neg h0] at z;exact absurd z E
 obtain ⟨k,L,D⟩:=O;have I:unP b=(Q0c b).drop k:=by unfold unP;rw [if_neg E,L]
 have N:=(Qcr b k (Q19 b)).1 D;have G:Q0r (Q0c b)=false:=by
  have:Q1e (Q0c b)=true:=by
   cases hj:Q1e (Q0c b) with
   | true=>rfl
   | false=>exact absurd (by rw [Q67]) (Q53 (Q0c b) hj)
  unfold Q1e at this;simp at this;exact this.2
 have M:Q1e (Q0c b)=true:=by unfold Q1e;rw [G,Q10];simp
 refine ⟨?_,?_⟩
 ·rw [I,N,(Q5g M).2,Q67]
 rw [I];have K:Q0c b=(Q0c b).take k++(Q0c b).drop k:=(List.take_append_drop _ _).symm;rw [K,Q8f] at G;simp at G;exact G.2
theorem Qt8 (b:List UInt8)(h:unE b≠0):unP b=[]/\Q19 b=false:=by
 have y:unAt b=0:=by
  by_cases hh:unAt b=0
  ·exact hh
  exact absurd (by unfold unE;rw [if_neg hh]) h
 refine ⟨by unfold unP;rw [if_pos y],?_⟩;unfold Q19;split
 ·rw [y];rfl
 rfl
abbrev Shq:=Int × List UInt8 × List UInt8 × List (List UInt8)
def okQ (s:Shq):Bool:=shOk s.1 s.2.1 s.2.2.1 s.2.2.2
def bQ (s:Shq):List UInt8:=shB s.1 s.2.1 s.2.2.1 s.2.2.2
def itQ (s:Shq):Pit :=
 if s.1=0 then .txt []
 else if s.1=1 then .lst [.txt (Q2d (tagL s.2.1 true)),.txt s.2.2.1]
 else if s.1=2 then .lst [.txt (Q2d (tagL s.2.1 false)),.txt (s.2.2.2[0]?.getD [])]
 else .lst ((s.2.2.2++[s.2.2.1]).map .txt)
theorem Qk2 (h:List (List UInt8)):Q35 (h.map .txt)=h.flatMap Q1q:=by
 induction h with
 | nil=>simp [Q35]
 | cons t h ih=>rw [map_cons,Q35,encP,ih,List.flatMap_cons]
theorem Q9s (h:List (List UInt8)):encP (.lst (h.map .txt))=lsB h:=by rw [encP,Qk2];rfl
theorem Quc (s:Shq):bQ s=encP (itQ s):=by
 unfold bQ shB itQ;by_cases h0:s.1=0
 ·rw [if_pos h0,if_pos h0,encP]
 rw [if_neg h0,if_neg h0];by_cases h1:s.1=1
 ·rw [if_pos h1,if_pos h1,<-Q9s];rfl
 rw [if_neg h1,if_neg h1];by_cases h2:s.1=2
 ·rw [if_pos h2,if_pos h2,<-Q9s];rfl
 rw [if_neg h2,if_neg h2,<-Q9s]
def allT:List Pit->Option (List (List UInt8))
 | []=>some []
 | .txt t::ks=>(allT ks).map (t::·)
 | .lst _::_=>none
theorem Q6z:∀ {ks:List Pit}{y:List (List UInt8)},allT ks=some y->ks=y.map .txt
 | [],y,h=>by simp [allT] at h;subst h;rfl
 | .txt t::ks,y,h=>by
  simp only [allT,Option.map_eq_some_iff] at h;obtain ⟨D,z,rfl⟩:=h;rw [Q6z z];rfl
 | .lst _::_,y,h=>by simp [allT] at h
theorem Qql (h:List (List UInt8)):allT (h.map .txt)=some h:=by
 induction h with
 | nil=>rfl
 | cons t h ih=>simp [allT,ih]
theorem Qoa {ks:List Pit}(h:allT ks=none)(y:List (List UInt8)):ks≠y.map .txt:=fun e=>by rw [e,Qql] at h;simp at h
def shpP:Pit->Option Shq
 | .txt t=>if t=[] then some (0,[],[],[]) else none
 | .lst ks=>match allT ks with
  | none=>none
  | some ts =>
   if ts.length=17 then some (3,[],ts[16]?.getD [],ts.take 16)
   else if ts.length=2 then
    if unE (ts[0]?.getD [])=0 then
     if Q19 (ts[0]?.getD [])=true then some (1,unP (ts[0]?.getD []),ts[1]?.getD [],[]) else some (2,unP (ts[0]?.getD []),[],ts.drop 1)
    else none
   else none
def rdB (b:List UInt8):Option Shq:=match dec b with
 | none=>none
 | some p=>match shpP p with
  | none=>none
  | some s=>if okQ s=true then some s else none
def Q1t (l:List (List UInt8)):List Shq :=
 (0,[],[],[])::((if l.length=2 then (if Q19 (l[0]?.getD [])=true then [(1,unP (l[0]?.getD []),l[1]?.getD [],[])] else [(2,unP (l[0]?.getD []),[],l.drop 1)]) else [])
  ++ (if l.length=17 then [(3,[],l[16]?.getD [],l.take 16)] else []))
def hrd (l:List (List UInt8))(b:List UInt8):Option Shq:=(Q1t l).find? (fun s=>okQ s && decide (bQ s=b))
theorem Qpz {ks:List Pit}{y l:List (List UInt8)}(h:allT ks=some y)(E:Q5b (.lst ks) l):l=y:=by
 have e:=Q6z h;subst e;obtain ⟨z,D⟩:=E;rw [List.length_map] at z;apply List.ext_getElem?;intro i;by_cases hi:i<y.length
 ·rw [D i y[i] (by rw [getElem?_map,List.getElem?_eq_getElem hi];rfl),List.getElem?_eq_getElem hi]
 rw [List.getElem?_eq_none (by omega),List.getElem?_eq_none (by omega)]
theorem Qq2 (v:List UInt8)(ks:List (List UInt8)):itQ (3,[],v,ks)=.lst ((ks++[v]).map .txt):=by unfold itQ;simp
theorem Qnb (s:Shq)(h:s.1≠0):∃ ts:List (List UInt8),itQ s=.lst (ts.map .txt):=by
 unfold itQ;rw [if_neg h];split
 ·exact ⟨[_,_],rfl⟩
 split
 ·exact ⟨[_,_],rfl⟩
 exact ⟨_,rfl⟩
theorem Qan (l:List (List UInt8)):∀ s∈Q1t l,s=(0,[],[],[])∨s.1≠0:=by
 intro s y;unfold Q1t at y;rcases mem_cons.1 y with h|h
 ·exact .inl h
 right
 rcases List.mem_append.1 h with h|h
 ·split at h
  ·split at h<;>(rw [mem_singleton] at h;rw [h];simp)
  simp at h
 split at h
 ·rw [mem_singleton] at h;rw [h];simp
 simp at h
theorem Qi7 (b:List UInt8)(p:Pit)(l:List (List UInt8))(V:dec b=some p)(hb:b.length<=1048576)(hk:Q5b p l):hrd l b=rdB b:=by
 have U:=Q36 V;have J:∀ s,(bQ s=b)↔itQ s=p:=fun s=>by
  rw [Quc,U];constructor
  ·intro e;exact (Qqe (by rw [<-U];omega) e.symm).symm
  intro e;rw [e]
 have K:(∀ s∈Q1t l,okQ s=true->itQ s≠p)->hrd l b=none:=fun h=>by
  unfold hrd;rw [List.find?_eq_none];intro s E;simp only [Bool.and_eq_true,decide_eq_true_eq,not_and];intro G e;exact h s E G ((J s).1 e)
 have hr:rdB b=match shpP p with
   | none=>none
   | some s=>if okQ s=true then some s else none:=by
  unfold rdB;rw [V]
  all_goals rfl
 rw [hr];cases p with
 | txt t =>
  by_cases I:t=[]
  ·subst I;have N:bQ (0,[],[],[])=b:=(J _).2 rfl;have D:okQ (0,[],[],[])=true:=rfl;have e:shpP (.txt [])=some (0,[],[],[]):=rfl;rw [e];dsimp only;rw [if_pos D];unfold hrd Q1t;rw [List.find?_cons_of_pos (by simp [N,D])]
  have e:shpP (.txt t)=none:=by simp [shpP,I]
  rw [e];apply K;intro s E _ z;rcases Qan l s E with h|h
  ·rw [h] at z;have:itQ (0,[],[],[])=.txt []:=rfl;rw [this] at z;simp only [Pit.txt.injEq] at z;exact I z.symm
  obtain ⟨T,D⟩:=Qnb s h;rw [D] at z;simp at z
 | lst ks =>
  have M:itQ (0,[],[],[])≠.lst ks:=by simp [itQ]
  cases ha:allT ks with
  | none =>
   have e:shpP (.lst ks)=none:=by simp only [shpP,ha]
   rw [e];apply K;intro s E _ z;rcases Qan l s E with h|h
   ·rw [h] at z;exact M z
   obtain ⟨T,D⟩:=Qnb s h;rw [D] at z;simp only [Pit.lst.injEq] at z;exact Qoa ha T z.symm
  | some T =>
   obtain rfl:=Qpz ha hk;have O:=Q6z ha;have hz:(okQ (0,[],[],[])&&decide (bQ (0,[],[],[])=b))=false:=by
    rw [decide_eq_false (fun e=>M ((J _).1 e)),Bool.and_false]
   have S:∀ s:Shq,itQ s=.lst ks->(Q1t l=[(0,[],[],[]),s])->hrd l b=if okQ s=true then some s else none:=fun s N D=>by
    unfold hrd;rw [D,List.find?_cons_of_neg (by rw [hz];simp)];have h3:bQ s=b:=(J s).2 N;by_cases G:okQ s=true
    ·rw [if_pos G,List.find?_cons_of_pos (by simp [G,h3])]
    rw [if_neg G,List.find?_cons_of_neg (by simp [G])];rfl
   have e:shpP (.lst ks)=if l.length=17 then some (3,[],l[16]?.getD [],l.take 16)
     else if l.length=2 then
      if unE (l[0]?.getD [])=0 then
       if Q19 (l[0]?.getD [])=true then some (1,unP (l[0]?.getD []),l[1]?.getD [],[]) else some (2,unP (l[0]?.getD []),[],l.drop 1)
      else none
     else none:=by simp only [shpP,ha]
   rw [e];by_cases h17:l.length=17
   ·rw [if_pos h17];dsimp only;apply S
    ·rw [Qq2,O];congr 2;have Z:l[16]?=some (l[16]'(by omega)):=List.getElem?_eq_getElem (by omega);rw [Z];have:=List.take_succ_eq_append_getElem (l:=l) (i:=16) (by omega);rw [Option.getD_some,<-this];exact List.take_of_length_le (by omega)
    unfold Q1t;rw [if_neg (by omega),if_pos h17];rfl
   rw [if_neg h17];by_cases D:l.length=2
   ·rw [if_pos D];obtain ⟨x,y,rfl⟩:∃ x y,l=[x,y]:=by
     match l,D with
     | [x,y],_=>exact ⟨x,y,rfl⟩
    simp only [List.getElem?_cons_zero,List.getElem?_cons_succ,Option.getD_some,List.drop_succ_cons,List.drop_zero];by_cases hu:unE x=0
    ·obtain ⟨L,_⟩:=Qt7 x hu;rw [if_pos hu];by_cases H:Q19 x=true
     ·rw [if_pos H];dsimp only;rw [H] at L;apply S
      ·rw [O];unfold itQ;simp [L]
      unfold Q1t;simp [H]
     rw [if_neg H];dsimp only;have W:Q19 x=false:=by simpa using H
     rw [W] at L;apply S
     ·rw [O];unfold itQ;simp [L]
     unfold Q1t;simp [W]
    rw [if_neg hu];dsimp only;obtain ⟨hp,H⟩:=Qt8 x hu;apply K;intro s E G _;have I:Q1t [x,y]=[(0,[],[],[]),(2,[],[],[y])]:=by unfold Q1t;simp [H,hp]
    rw [I] at E;simp only [mem_cons,List.not_mem_nil,or_false] at E;rcases E with rfl|rfl
    ·exact absurd ((by assumption:itQ (0,[],[],[])=.lst ks)) M
    simp [okQ,shOk] at G
   rw [if_neg D];dsimp only;apply K;intro s E _ z;have I:Q1t l=[(0,[],[],[])]:=by unfold Q1t;rw [if_neg D,if_neg h17];rfl
   rw [I,mem_singleton] at E;rw [E] at z;exact M z
theorem Qbp (W Z:Option Addr)(n G H:Nat)(ps E:List (Value × List UInt8))(O:ps.length=n)(T:E.length=n)(hs:n<=1048576)(w:World)(h:Q12 w (.slice W n G) ps)(h':Q12 w (.slice Z n H) E)(M:ps.map (·.2)=E.map (·.2)) :
  Calls Tryz.prog 20 #[.slice W n G,.slice Z n H] w (Qqm w):=by
 have Hn:=Qhd O;have Hq:=Qhd T;have He:=Qhd M;have af:((n:Int) != (n:Int))=false:=by simp
 clear O T M;go_enter Tryz.func20,Tryz.ntmps20
 go_wp2
 go_loopw [13] (fun D wr=>∃ k:Nat,k<=n/\D=.int .i64 (k:Int)/\Below w.heap.size w wr) (fun D _=>n - (intOf D).toNat)
 case atStart=>exact ⟨0,by omega,rfl,Below.refl _ _⟩
 case round =>
  obtain ⟨k,ae,rfl,y⟩:=hrel;by_cases hlt:k<n
  ·have ad:(k:Int)<(n:Int):=by omega
   obtain ⟨b1,o1,p,rfl,S,J,V⟩:=(h.below y).at k (by rw [Hn.out];exact hlt);obtain ⟨b2,o2,q,rfl,U,L,z⟩:=(h'.below y).at k (by rw [Hq.out];exact hlt);have N:p.2=q.2:=by
    have:=congrArg (fun l=>l[k]?) He.out;simpa [getElem?_map,S,U] using this
   rw [<-N] at z;obtain ⟨V1,t⟩:=p;obtain ⟨V2,t2⟩:=q;have f1:=fun u:Ext wr=>u.cell J;have f2:=fun u:Ext wr=>u.cell L;have s1:∀ u:Ext wr,(convert 25 9 V1).run Tryz.prog u.val=.ok (str t) u.val:=fun u=>Q0q elU8.ht (by kernel_rfl) (by kernel_rfl) (u.row V);have s2:∀ u:Ext wr,(convert 25 9 V2).run Tryz.prog u.val=.ok (str t) u.val:=fun u=>Q0q elU8.ht (by kernel_rfl) (by kernel_rfl) (u.row z);clear S U J L V z N
   go_wp2
   refine Q03 wr 10 (by kernel_rfl) (by kernel_rfl) (Below.refl _ _) ?_;simp only [List.take_succ_cons,List.take_zero,List.take_nil]
   iterate 10 (refine Q06 (by rfl) (fun K I=>?_);go_simp;refine I _ ?_;clear I K)
   refine Q0i ?_;intro u2 a8;have a9:=D00 y a8;change wpList _ _ _ [_] _ _;clear f1 f2 s1 s2
   go_wp2
   go_roundw
   case rel=>exact ⟨k+1,by omega,by go_num,a9⟩
   case measure=>simp [intOf];omega
  obtain rfl:k=n:=by omega
  go_wp2
  go_ret;exact ⟨rfl,y⟩
theorem Q5p:∀ {ks:List Itm}{i:Nat}{k:Itm},ks[i]?=some k->itl k=true->allT (ks.map erI)=none
 | [],i,k,h,_=>by simp at h
 | x::ks,0,k,h,hl=>by
  simp only [List.getElem?_cons_zero,Option.some.injEq] at h;subst h;cases x with
  | mk l tv t kv ks' =>
   have:l=true:=hl;subst this;rw [map_cons,Q1w];rfl
 | x::ks,i+1,k,h,hl=>by
  simp only [List.getElem?_cons_succ] at h;have y:=Q5p h hl;rw [map_cons];cases hx:erI x with
  | txt t=>simp [allT,y]
  | lst l=>rfl
theorem Q39:∀ {ks:List Itm},(∀ (i:Nat) (k:Itm),ks[i]?=some k->itl k=false)->allT (ks.map erI)=some (ks.map itt)
 | [],_=>rfl
 | x::ks,h=>by
  rw [map_cons,Qqb (h 0 x rfl)];simp only [allT,Q39 (fun i k y=>h (i+1) k y),Option.map_some,map_cons]
def Q5v (o:Option Shq)(w:World)(e:Ending)(w':World):Prop :=
 Below w.heap.size w w'/\match o with
 | none=>∃ (kd:Int) (pa:Option Addr) (pn pc:Nat) (va:Option Addr) (vn vc:Nat) (ka:Option Addr) (kn kc:Nat),e=.returned (.tuple #[.agg #[.int .i64 kd,.slice pa pn pc,.slice va vn vc,.slice ka kn kc],.bool false])
 | some s=>∃ (pa:Option Addr) (pc:Nat) (va:Option Addr) (vc:Nat) (ka:Option Addr) (kc:Nat) (ps:List (Value × List UInt8)),e=.returned (.tuple #[.agg #[.int .i64 s.1,.slice pa s.2.1.length pc,.slice va s.2.2.1.length vc,.slice ka s.2.2.2.length kc],.bool true]) /\
   Q02 w' (.slice pa s.2.1.length pc) s.2.1/\Q02 w' (.slice va s.2.2.1.length vc) s.2.2.1/\Q12 w' (.slice ka s.2.2.2.length kc) ps/\ps.map (·.2)=s.2.2.2/\∀ x,(Value.slice ka s.2.2.2.length kc).ownBlock=some x->w.heap.size<=x
def zsh:List Value:=[.int .i64 0,.slice none 0 0,.slice none 0 0,.slice none 0 0]
structure ShW (w:World)(box cs:List Value)(u:World):Prop where
 hb:Below w.heap.size w u
 hx:Blk 77 u w.heap.size box
 hz:Blk 134 u (w.heap.size+1) cs
theorem ShW.kept {w u u':World}{z cs:List Value}(h:ShW w z cs u)(y:Below u.heap.size u u'):ShW w z cs u':=⟨D00 h.hb y,h.hx.kept y,h.hz.kept y⟩
theorem ShW.start (w:World)(h c1 y:Value):ShW w [h,c1,y] zsh ((w.alloc (.cells #[h,c1,y] 77)).alloc (.cells #[.int .i64 0,.slice none 0 0,.slice none 0 0,.slice none 0 0] 134)):=by
 refine ⟨(Qba _ _).alloc (by simp) _,(D01 w 77 [h,c1,y]).alloc _,?_⟩;have:=D01 (w.alloc (.cells #[h,c1,y] 77)) 134 zsh;simpa [zsh] using this
theorem ShW.set {w u:World}{y cs:List Value}(h:ShW w y cs u)(i:Nat)(v:Value):ShW w y (cs.set i v) (u.setCell ⟨w.heap.size+1,i,none⟩ v) :=
 ⟨h.hb.setCell (by show w.heap.size<=w.heap.size+1;omega) _,h.hx.other _ (by simp) _,h.hz.set i v⟩
theorem ShW.bytes {w u:World}{y cs:List Value}(h:ShW w y cs u)(D:∀ x∈cs,∀ k,x≠.int .u8 k)(i:Nat)(x:Value){v:Value}{t:List UInt8}(z:Q02 u v t):Q02 (u.setCell ⟨w.heap.size+1,i,none⟩ x) v t :=
 Q02.off_v z h.hz D (Q0s i x)
theorem Qom (w u:World)(kd:Int)(y:kd=0)(h:Below w.heap.size w u):Q5v (some (0,[],[],[])) w (.returned (.tuple #[.agg #[.int .i64 kd,.slice none 0 0,.slice none 0 0,.slice none 0 0],.bool true])) u:=by
 subst y;exact ⟨h,none,0,none,0,none,0,[],rfl,Q05.nil b8 1 u,Q05.nil b8 1 u,⟨Q05.nil Q0p 1 u,by simp⟩,rfl,by simp [Value.ownBlock]⟩
theorem Qj6 (E:Option Addr)(D G:Nat)(t:List UInt8)(Z:t.length=D)(H:Value)(w:World):Calls Tryz.prog 126 #[.agg #[.bool false,.slice E D G,H]] w (Q5v (shpP (.txt t)) w):=by
 obtain ⟨w1,S⟩:=Qe ((w.alloc (.cells #[.bool false,.slice E D G,H] 77)).alloc (.cells #[.int .i64 0,.slice none 0 0,.slice none 0 0,.slice none 0 0] 134));have F:ShW w [.bool false,.slice E D G,H] zsh w1:=by rw [S];exact ShW.start w _ _ _
 have a2:=Qhd S;obtain ⟨J,M⟩:∃ J:Bool,J=decide (D=0):=⟨_,rfl⟩;have a9:((D:Int)==0)=J:=by
  rw [M];by_cases h:D=0
  ·rw [decide_eq_true h,beq_iff_eq];omega
  rw [decide_eq_false h,beq_eq_false_iff_ne];omega
 have W:∀ u,Below w.heap.size w u->Q5v (shpP (.txt t)) w (.returned (.tuple #[.agg #[.int .i64 0,.slice none 0 0,.slice none 0 0,.slice none 0 0],.bool J])) u:=by
  intro u I;by_cases h:D=0
  ·have O:t=[]:=List.eq_nil_of_length_eq_zero (by omega);have N:shpP (.txt t)=some (0,[],[],[]):=by rw [O];rfl
   rw [N,M,decide_eq_true h];exact Qom w u 0 rfl I
  have O:t≠[]:=fun e=>h (by rw [<-Z,e];rfl);have N:shpP (.txt t)=none:=by simp [shpP,O]
  rw [N,M,decide_eq_false h];exact ⟨I,0,none,0,0,none,0,0,none,0,0,rfl⟩
 have a1:=Qhd W;clear S M Z W;go_enter Tryz.func126,Tryz.ntmps126
 go_wp2_with fail
 rw [<-a2.out];refine Q1g (fun aa b w'=>b=((((((aa.put (some 14) (.agg zsh.toArray)).put (some 15) (.pointer (some ⟨w.heap.size,1,none⟩))).put (some 16) (.slice E D G)).put (some 17) (.int .i64 (D:Int))).put (some 18) (.bool J)).put (some 3) (.bool J))/\ShW w [.bool false,.slice E D G,H] zsh w') ?_ ?_
 ·refine Q0w (ShW w [.bool false,.slice E D G,H] zsh) (by kernel_rfl) ?_;intro u0 a0;simp only [List.length_cons,List.length_nil,Nat.reduceAdd,List.replicate_succ,List.replicate_zero];have L:ShW w [.bool false,.slice E D G,H] zsh u0:=by rw [a0];exact F.kept (Below.refl _ _).drew
  have k1:∀ u:In (ShW w [.bool false,.slice E D G,H] zsh),u.val.cell? ⟨w.heap.size,1,none⟩=some (.slice E D G):=fun u=>(u.held.hx.cell 1).trans rfl;clear a0 F
  (refine Qtk 0 (fun K z=>?_);simp only [Qzs] at z;refine Q78 (by rfl) 134 (.tmp 2) (by rfl) (w.heap.size+1) (by rfl) Q0a (fun u I=>I.hz) (by rfl) (z _ ?_);clear z K;simp only [Act.put,List.getElem_toArray,List.getElem_cons_zero,List.getElem_cons_succ,List.setIfInBounds_toArray,List.set_cons_zero,List.set_cons_succ])
  refine Qtk 1 (fun K z=>?_);simp only [Qzs] at z;go_simp;(first|refine z _ ?_|refine ⟨_,fun _=>rfl,z _ ?_⟩);clear z K;refine Qtk 2 (fun K z=>?_);simp only [Qzs] at z;go_simp;(first|refine z _ ?_|refine ⟨_,fun _=>rfl,z _ ?_⟩);clear z K;refine Qtk 3 (fun K z=>?_);simp only [Qzs] at z;go_simp;(first|refine z _ ?_|refine ⟨_,fun _=>rfl,z _ ?_⟩);clear z K;refine Qtk 4 (fun K z=>?_);simp only [Qzs] at z;go_simp;(first|refine z _ ?_|refine ⟨_,fun _=>rfl,z _ ?_⟩);clear z K;clear k1;refine Q0f 5 (by rfl) (by kernel_rfl) (fun K z=>?_);refine Q1j (by rfl) 134 (.tmp 2) (.tmp 14) (by rfl) (w.heap.size+1) zsh (by rfl) (by rfl) Q0a L.hz (by rfl) (by rfl) (by intro u I;simp [zsh] at I;rcases I with rfl|rfl<;>rfl) (fun w7 a4 _ V=>?_);have T:ShW w [.bool false,.slice E D G,H] zsh w7:=⟨L.hb.grown V L.hb.size (fun y hy=>by cases hy;omega),L.hx.grown V (by simp<;>omega),a4⟩;refine z _ _ T ?_;clear z K;refine Qtk 6 (fun K z=>?_);simp only [Qzs] at z;go_simp;(first|refine z _ ?_|refine ⟨_,fun _=>rfl,z _ ?_⟩);clear z K;exact Q11 (by kernel_rfl) ⟨rfl,rfl,T⟩
 rintro b w9 ⟨rfl,U⟩;simp only [Act.put,Qzs]
 go_wp2_with fail
 exact bodyPost_ret (v:=.tuple #[.agg #[.int .i64 0,.slice none 0 0,.slice none 0 0,.slice none 0 0],.bool J]) (Q01 rfl _ _ (w.heap.size+1) Q0a U.hz rfl rfl rfl) rfl (a1.out _ U.hb)
end Go.Proofs.YtbdmkfjgnjfjbaaGreat
