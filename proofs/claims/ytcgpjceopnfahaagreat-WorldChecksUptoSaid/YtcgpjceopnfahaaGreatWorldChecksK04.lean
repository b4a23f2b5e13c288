/- Strings as lists of bytes: parts, places. | The reference's routes: what it hands back; a leaf, nothing, something else. | The reference's routes: a road; nothi -/
import Derived.Test.YtcgpjceopnfahaaGreatWorldChecksK01
import Derived.Test.YtcgpjceopnfahaaGreatWorldChecksK03
set_option linter.unusedSimpArgs false
set_option linter.unusedVariables false
set_option maxHeartbeats 4000000
set_option maxRecDepth 100000
namespace Go.Proofs.YtcgpjceopnfahaaGreat
open Go.RowKit
section
variable {P:Program} {t:TypeId} (ht:P.underlying t=some .string) (l:List UInt8)
theorem ba_ext (a b:ByteArray)(h:a.data.toList=b.data.toList):a=b:=by
 cases a;cases b;rw [ByteArray.mk.injEq];exact Array.toList_inj.1 h
theorem ba_cut (lo hi:Nat):((⟨l.toArray⟩:ByteArray).extract lo hi)=⟨((l.take hi).drop lo).toArray⟩:=by
 apply ba_ext
 simp [ByteArray.data_extract,List.extract_eq_take_drop]
 rw [List.drop_take]
include ht in
theorem str_from (lo:Nat)(x:Int)(hx:x=lo)(h:lo≤l.length):∀ (k:IntKind) (w:World),(Instr.slice t (.string ⟨l.toArray⟩) (some (.int k x)) none none).run P w=.ok (.string ⟨(l.drop lo).toArray⟩) w:=by
 intro k w
 subst hx
 have:=run_slice_string_l (P:=P) w t (⟨l.toArray⟩:ByteArray) ht k (lo:Int) (by omega) (by show (lo:Int)≤(l.toArray.size:Int);simp;omega)
 rw [this,ba_cut]
 congr 4
 show (l.take l.toArray.size).drop _=_
 simp
include ht in
theorem str_to (hi:Nat)(x:Int)(hx:x=hi)(h:hi≤l.length):∀ (k:IntKind) (w:World),(Instr.slice t (.string ⟨l.toArray⟩) none (some (.int k x)) none).run P w=.ok (.string ⟨(l.take hi).toArray⟩) w:=by
 intro k w
 subst hx
 have:=run_slice_string_h (P:=P) w t (⟨l.toArray⟩:ByteArray) ht k (hi:Int) (by omega) (by show (hi:Int)≤(l.toArray.size:Int);simp;omega)
 rw [this,ba_cut]
 simp
include ht in
theorem str_at (i:Nat)(x:Int)(hx:x=i)(c:UInt8)(h:l[i]?=some c):∀ (k:IntKind) (w:World),(Instr.index t (.string ⟨l.toArray⟩) (.int k x)).run P w=.ok (.int .u8 (c.toNat:Int)) w:=by
 intro k w
 subst hx
 have hi:=(List.getElem?_eq_some_iff.1 h).1
 rw [run_index_string w t (⟨l.toArray⟩:ByteArray) k (i:Int) ht]
 have hs:(⟨l.toArray⟩:ByteArray).size=l.length:=by show l.toArray.size=_;simp
 rw [dif_pos ⟨by omega,by rw [hs];omega⟩]
 congr 3
 have:(⟨l.toArray⟩:ByteArray)[(i:Int).toNat]'(by rw [hs];omega)=l[i]:=by
  show l.toArray[i]=_
  simp
 rw [this,(List.getElem?_eq_some_iff.1 h).2]
end
theorem str_size (l:List UInt8):(⟨l.toArray⟩:ByteArray).size=l.length:=by show l.toArray.size=_;simp
theorem cat_len (ls:List (List Rt)):∀ j,(cat j ls).length=(ls.map List.length).sum:=by
 induction ls with
 | nil=>intro j;simp [cat]
 | cons l ls ih=>intro j;simp only [cat,List.length_append,pre_len,ih,List.map_cons,List.sum_cons]
mutual
theorem rts_len:∀ {t:Nd}{l:List Rt},rts t=some l→l.length≤bulkN t
 | .mk kd pv p vv v kv ks,l,h=>by
  unfold rts at h
  unfold bulkN
  split at h
  ·simp at h
  ·split at h
   ·simp only [Option.some.injEq] at h;subst h;simp
   ·split at h
    ·simp only [Option.some.injEq] at h;subst h;simp;omega
    ·split at h
     ·cases hls:rtsL ks with
      | none=>rw [hls] at h;simp at h
      | some ls =>
       rw [hls] at h
       simp only [Option.map_some,Option.some.injEq] at h
       subst h
       have:=rtsL_sum hls
       rw [pre_len,List.length_flatten]
       omega
     ·split at h
      ·cases hls:rtsL ks with
       | none=>rw [hls] at h;simp at h
       | some ls =>
        rw [hls] at h
        simp only [Option.map_some,Option.some.injEq] at h
        subst h
        have:=rtsL_sum hls
        rw [List.length_append,cat_len]
        have:(if v=[] then ([]:List Rt) else [([],v)]).length≤1:=by split<;>simp
        omega
      ·simp at h
theorem rtsL_sum:∀ {ks:List Nd}{ls:List (List Rt)},rtsL ks=some ls→(ls.map List.length).sum≤bulkNL ks
 | [],ls,h=>by
  simp only [rtsL,Option.some.injEq] at h
  subst h
  simp
 | k::ks,ls,h=>by
  unfold rtsL at h
  cases h1:rts k with
  | none=>rw [h1] at h;simp at h
  | some m =>
   rw [h1] at h
   dsimp only at h
   cases h2:rtsL ks with
   | none=>rw [h2] at h;simp at h
   | some ms =>
    rw [h2] at h
    simp only [Option.some.injEq] at h
    subst h
    have a:=rts_len h1
    have b:=rtsL_sum h2
    simp only [List.map_cons,List.sum_cons,bulkNL]
    omega
end
section
variable (N:Nat) (hN:N≤100000000000) (pa va ka:Option Addr) (pn pc vn vc kn kc:Nat) (p v:List UInt8) (ks:List Nd) (hpn:p.length=pn) (hvn:v.length=vn) (hkn:ks.length=kn) (q:List UInt8) (w:World)
 (hp:Bytes w (.slice pa pn pc) p) (hv:Bytes w (.slice va vn vc) v) (hk:RowOf ndcells 4 w (.slice ka kn kc) ks) (hks:∀ k∈ks,IsNd w k)
include hN hpn hvn hp hv in
end
section
variable (N:Nat) (hN:N≤100000000000) (pa va ka:Option Addr) (pn pc vn vc kn kc:Nat) (p v:List UInt8) (ks:List Nd) (hpn:p.length=pn) (hvn:v.length=vn) (hkn:ks.length=kn) (q:List UInt8) (w:World)
 (hp:Bytes w (.slice pa pn pc) p) (hv:Bytes w (.slice va vn vc) v) (hk:RowOf ndcells 4 w (.slice ka kn kc) ks) (hks:∀ k∈ks,IsNd w k)
include hN hpn hkn hp hk hks in
include hpn hp in
end
section
variable (N:Nat) (hN:N≤100000000000) (pa va ka:Option Addr) (pn pc vn vc kc:Nat) (p v:List UInt8) (ks:List Nd) (hpn:p.length=pn) (hvn:v.length=vn) (hkn:ks.length=16) (q:List UInt8) (w:World)
 (hp:Bytes w (.slice pa pn pc) p) (hv:Bytes w (.slice va vn vc) v) (hk:RowOf ndcells 4 w (.slice ka 16 kc) ks) (hks:∀ k∈ks,IsNd w k)
include hN hpn hvn hkn hp hv hk hks in
end
end Go.Proofs.YtcgpjceopnfahaaGreat
