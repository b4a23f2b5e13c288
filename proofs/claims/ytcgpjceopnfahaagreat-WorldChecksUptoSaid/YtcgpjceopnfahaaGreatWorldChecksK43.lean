/- How an account, a slice of holders, an address that come in are read; their bulks. -/
import Derived.Test.YtcgpjceopnfahaaGreatWorldChecksK25
import Derived.Test.YtcgpjceopnfahaaGreatWorldChecksK23
import Derived.OpenShut
set_option linter.unusedSimpArgs false
set_option linter.unusedVariables false
set_option maxHeartbeats 4000000
set_option maxRecDepth 100000
namespace Go.Proofs.YtcgpjceopnfahaaGreat
open Go.ChangeShapes Go.WideShapes Go.ChangeAt Go.RowKit
section
variable {H:Type} {enc:TypeId × Value→H} {W:World}
theorem open_address {r:Reach}{b0:Nat}{v:Value}{d:DataW H}{p:List MemPlace}(hv:Value.okWide Tryz.prog W r b0 41 v)(h:DataW.Trod enc Tryz.prog W 0 (fun _=>true) true 41 v d p):∃ A:List UInt8,v=.agg (by8 A).toArray∧A.length=8:=by
 obtain ⟨xs,rfl,h2,h3⟩:=open_arr Tryz.underlying41 Tryz.underlying5 (by kernel_rfl) (by kernel_rfl) hv h
 refine ⟨xs.map fun z=>UInt8.ofNat z.toNat,?_,by rw [List.length_map,h2]⟩
 unfold by8
 rw [List.map_map]
 congr 2
 exact List.map_congr_left (fun z hz=>by show _=u8v (UInt8.ofNat z.toNat);rw [u8v_of _ (wf_u8_lt (h3 z hz))])
theorem open_hash_p {r:Reach}{b0:Nat}{v:Value}{d:DataW H}{p:List MemPlace}(hv:Value.okWide Tryz.prog W r b0 30 v)(h:DataW.Trod enc Tryz.prog W 0 (fun _=>true) true 30 v d p):∃ A:List UInt8,v=.agg (by8 A).toArray∧A.length=32:=by
 obtain ⟨xs,rfl,h2,h3⟩:=open_arr Tryz.underlying30 Tryz.underlying5 (by kernel_rfl) (by kernel_rfl) hv h
 refine ⟨xs.map fun x=>UInt8.ofNat x.toNat,?_,by rw [List.length_map,h2]⟩
 unfold by8
 rw [List.map_map]
 congr 2
 exact List.map_congr_left (fun z hz=>by show _=u8v (UInt8.ofNat z.toNat);rw [u8v_of _ (wf_u8_lt (h3 z hz))])
theorem open_word_p {r:Reach}{b0:Nat}{v:Value}{d:DataW H}{p:List MemPlace}(hv:Value.okWide Tryz.prog W r b0 24 v)(h:DataW.Trod enc Tryz.prog W 0 (fun _=>true) true 24 v d p):∃ N:Nat,v=.agg (wcs N).toArray∧N<W256:=by
 obtain ⟨xs,rfl,h2,h3⟩:=open_arr Tryz.underlying24 Tryz.underlying22 (by kernel_rfl) (by kernel_rfl) hv h
 obtain ⟨N,hN,rfl⟩:=word_ofL xs h2 h3
 exact ⟨N,rfl,hN⟩
end
end Go.Proofs.YtcgpjceopnfahaaGreat
