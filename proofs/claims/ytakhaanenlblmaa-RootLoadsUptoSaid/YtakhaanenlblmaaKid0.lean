/- The kids of an item that was read: plain Lean. -/
import Derived.Test.YtakhaanenlblmaaCanon
import Derived.Test.YtakhaanenlblmaaSplD
set_option linter.unusedSimpArgs false
set_option linter.unusedVariables false
namespace Go.Proofs.Ytakhaanenlblmaa
open Go.RowKit
theorem dec_back {b:List UInt8} {p:Pit} (h:dec b=some p):b=encP p:=by
 unfold dec at h
 cases hp:par b.length b with
 | none=>rw [hp] at h;simp at h
 | some pr =>
  obtain ⟨q,r⟩:=pr
  rw [hp] at h
  cases r with
  | nil =>
   simp only [Option.some.injEq] at h
   subst h
   have:=par_back _ _ _ _ hp
   simpa using this
  | cons x r=>simp at h
def KidsOf:Pit→List (List UInt8)→Prop
 | .txt _,_=>True
 | .lst ks,l=>l.length=ks.length∧∀ (i:Nat) (t:List UInt8),ks[i]?=some (.txt t)→l[i]?=some t
def itl:Itm→Bool
 | .mk l _ _ _ _=>l
def itt:Itm→List UInt8
 | .mk _ _ t _ _=>t
theorem erI_text {it:Itm} (h:itl it=false):erI it=.txt (itt it):=by
 cases it with
 | mk l tv t kv ks =>
  have:l=false:=h
  subst this
  rw [erI_mk];rfl
theorem encPL_len:∀ (ks:List Pit),ks.length≤(encPL ks).length
 | []=>by simp [encPL]
 | k::ks=>by
  have h1:=encPL_len ks
  have h2:0<(encP k).length:=by
   rcases Nat.eq_zero_or_pos (encP k).length with h|h
   ·exact absurd (List.eq_nil_of_length_eq_zero h) (encP_ne k)
   ·exact h
  rw [encPL,List.length_append,List.length_cons];omega
theorem txt_le (t:List UInt8):t.length≤(encP (.txt t)).length:=by
 rw [encP];unfold textB
 split
 ·omega
 ·rw [List.length_append];omega
def kidsN:Pit→Nat
 | .txt _=>0
 | .lst qs=>qs.length
theorem kidsN_le (p:Pit):kidsN p≤(encP p).length:=by
 cases p with
 | txt t=>simp [kidsN]
 | lst qs =>
  have:=encPL_len qs
  rw [encP,List.length_append];show qs.length≤_;omega
def itks:Itm→List Itm
 | .mk _ _ _ _ ks=>ks
def pitT:Pit→List UInt8
 | .txt t=>t
 | .lst _=>[]
def kidT:Pit→List (List UInt8)
 | .txt _=>[]
 | .lst qs=>qs.map pitT
theorem kidT_le (p:Pit):∀ t∈kidT p,t.length≤(encP p).length:=by
 intro t ht
 cases p with
 | txt _=>simp [kidT] at ht
 | lst qs =>
  simp only [kidT,List.mem_map] at ht
  obtain ⟨q,hq,rfl⟩:=ht
  cases q with
  | lst _=>simp [pitT]
  | txt t =>
   have h1:=txt_le t
   have h2:=encPL_mem hq
   simp only [pitT]
   rw [encP,List.length_append];omega
theorem kids_of {it:Itm} {p:Pit} (hb:BareI it) (he:erI it=p):(itks it).length=kidsN p∧KidsOf p ((itks it).map itt)∧(itks it).map itt=kidT p:=by
 subst he
 cases hb with
 | txt tv t kv=>rw [erI_mk];exact ⟨rfl,trivial,rfl⟩
 | lst tv kv ks h =>
  rw [erI_mk,if_pos rfl]
  refine ⟨by simp [kidsN,itks],⟨by simp [itks],fun i t hi=>?_⟩,?_⟩
  rotate_left
  ·show ks.map itt=(ks.map erI).map pitT
   rw [List.map_map]
   apply List.map_congr_left
   intro k hk
   cases h k hk with
   | txt tv t kv=>rw [Function.comp,erI_mk];rfl
   | lst tv kv ks h=>rw [Function.comp,erI_mk];rfl
  show (ks.map itt)[i]?=some t
  rw [List.getElem?_map] at hi ⊢
  cases hk:ks[i]? with
  | none=>rw [hk] at hi;simp at hi
  | some k =>
   rw [hk] at hi
   simp only [Option.map_some,Option.some.injEq] at hi ⊢
   cases k with
   | mk l tv t' kv ks' =>
    rw [erI_mk] at hi
    cases l with
    | false=>simpa [itt] using hi
    | true=>simp at hi
end Go.Proofs.Ytakhaanenlblmaa
