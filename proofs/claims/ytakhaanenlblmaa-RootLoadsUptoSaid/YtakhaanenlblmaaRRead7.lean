/- root.shape, put together. -/
import Derived.Test.YtakhaanenlblmaaRRead4
import Derived.Test.YtakhaanenlblmaaRRead5
import Derived.Test.YtakhaanenlblmaaRRead6
set_option linter.unusedSimpArgs false
set_option linter.unusedVariables false
namespace Go.Proofs.Ytakhaanenlblmaa
open Go.RowKit
theorem unE_01 (b:List UInt8):unE b=0∨unE b=1:=by unfold unE;split <;> simp
theorem shape_any (it:Itm) (w:World) (h:IsItm w it) (hbare:BareI it) (hb:(encP (erI it)).length≤1048576):Calls Try.prog 192 #[.agg (icells it).toArray] w (ShPost (shpP (erI it)) w):=by
 cases hbare with
 | txt tv t kv =>
  obtain ⟨ta,tc,rfl,_,_⟩:=h.inv.1.form
  rw [erI_mk,if_neg (by simp)]
  exact shape_text ta t.length tc t rfl _ w
 | lst tv kv ks hk =>
  obtain ⟨h1,h2,h3⟩:=h.inv
  obtain ⟨ta,tc,rfl,_,_⟩:=h1.form
  obtain ⟨ka,kc,rfl,_,_⟩:=h2.form
  rw [erI_mk,if_pos rfl] at hb ⊢
  have hb2:(encPL (ks.map erI)).length≤1048576:=by
   have:(encP (.lst (ks.map erI))).length≤1048576:=hb
   rw [encP,List.length_append] at this;omega
  have hl:ks.length≤1048576:=by
   have:=encPL_len (ks.map erI)
   rw [List.length_map] at this;omega
  have hl8:∀ k∈ks,(itt k).length≤1048576:=fun k hk'=>by
   have h4:=encPL_mem (List.mem_map_of_mem (f:=erI) hk')
   cases hk k hk' with
   | txt tv t kv =>
    have h5:=txt_le t
    rw [erI_mk] at h4
    have h6:(encP (.txt t)).length≤(encPL (ks.map erI)).length:=h4
    show t.length≤1048576
    omega
   | lst tv kv ks' _=>show ([]:List UInt8).length≤1048576;simp
  show Calls Try.prog 192 #[.agg #[.bool true,.slice ta ([]:List UInt8).length tc,.slice ka ks.length kc]] w (ShPost (shpP (.lst (ks.map erI))) w)
  by_cases h17:ks.length=17
  ·exact shape_fork ta _ tc ka ks.length kc ks rfl hl h17 w h2 h3
  ·by_cases h2':ks.length=2
   ·rcases unE_01 ((ks.map itt)[0]?.getD []) with hu|hu
    ·cases hf:unLeaf ((ks.map itt)[0]?.getD []) with
     | true=>exact shape_leaf ta _ tc ka ks.length kc ks rfl hl hl8 h2' hu hf w h2 h3
     | false=>exact shape_road ta _ tc ka ks.length kc ks rfl hl hl8 h2' hu hf w h2 h3
    ·exact shape_untag ta _ tc ka ks.length kc ks rfl hl hl8 h2' hu w h2 h3
   ·exact shape_other ta _ tc ka ks.length kc ks rfl hl h17 h2' w h2 h3
end Go.Proofs.Ytakhaanenlblmaa
