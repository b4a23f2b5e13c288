/- The value of a key in a right tree: plain Lean. | tree.inner of a right tree. | tree.inner of a right tree; tree.get. | tree.get of any right tree. -/
import Derived.Test.YtbdmkfjgnjfjbaaGreatLazyServesK03
import Derived.Test.YtbdmkfjgnjfjbaaGreatLazyServesK05
import Derived.Test.YtbdmkfjgnjfjbaaGreatLazyServesK02
set_option linter.unusedSimpArgs false
set_option linter.unusedVariables false
set_option maxHeartbeats 4000000
set_option maxRecDepth 100000
namespace Go.Proofs.YtbdmkfjgnjfjbaaGreat
open Go.RowKit
mutual
def getP:Nd→List UInt8→List UInt8
 | .mk kd _ p _ v _ ks,q =>
  if kd=1 then (if p=q then v else [])
  else if kd=2 then (if com p q=p.length then getL ks 0 (q.drop p.length) else [])
  else if kd=3 then (match q with
   | []=>v
   | x::q=>getL ks x.toNat q)
  else []
def getL:List Nd→Nat→List UInt8→List UInt8
 | [],_,_=>[]
 | k::_,0,q=>getP k q
 | _::ks,i+1,q=>getL ks i q
end
mutual
def nv:Nd→Value
 | .mk kd pv _ vv _ _ ks=>if kd=1 then .iface 182 (.agg #[pv,vv]) else if kd=2 then .iface 185 (.agg #[pv,(nvL ks).headD .nilIface]) else if kd=3 then .iface 189 (.agg (nvL ks++[vv]).toArray) else .nilIface
def nvL:List Nd→List Value
 | []=>[]
 | k::ks=>nv k::nvL ks
end
theorem Q17 (ks:List Nd):nvL ks=ks.map nv:=by
 induction ks with
 | nil=>rfl
 | cons k ks ih=>simp [nvL,ih]
theorem Q4c (t:Nd):nv t=.nilIface∨∃ ty x,nv t=.iface ty x:=by
 obtain ⟨kd,pv,p,vv,v,kv,ks⟩:=t
 unfold nv
 split
 ·exact .inr ⟨_,_,rfl⟩
 ·split
  ·exact .inr ⟨_,_,rfl⟩
  ·split
   ·exact .inr ⟨_,_,rfl⟩
   ·exact .inl rfl
theorem Q8i {t:Nd}(h:t.kd=3):∃ x,nv t=.iface 189 x:=by
 obtain ⟨kd,pv,p,vv,v,kv,ks⟩:=t
 change kd=3 at h
 subst h
 exact ⟨_,by unfold nv;rfl⟩
theorem Q1e:Agg Tryz.prog 189 17:=⟨_,Tryz.underlying189,rfl,by kernel_rfl⟩
theorem as1_1 (x:Value)(W:World):(Instr.typeAssert (.iface 182 x) 143 182 true).run Tryz.prog W=.ok (.tuple #[x,.bool true]) W:=by kernel_rfl
theorem as2_1 (x:Value)(W:World):(Instr.typeAssert (.iface 185 x) 143 182 true).run Tryz.prog W=.ok (.tuple #[.agg #[.slice none 0 0,.slice none 0 0],.bool false]) W:=by kernel_rfl
theorem as3_1 (x:Value)(W:World):(Instr.typeAssert (.iface 189 x) 143 182 true).run Tryz.prog W=.ok (.tuple #[.agg #[.slice none 0 0,.slice none 0 0],.bool false]) W:=by kernel_rfl
theorem as0_1 (W:World):(Instr.typeAssert .nilIface 143 182 true).run Tryz.prog W=.ok (.tuple #[.agg #[.slice none 0 0,.slice none 0 0],.bool false]) W:=by kernel_rfl
theorem as2_2 (x:Value)(W:World):(Instr.typeAssert (.iface 185 x) 143 185 true).run Tryz.prog W=.ok (.tuple #[x,.bool true]) W:=by kernel_rfl
theorem as3_2 (x:Value)(W:World):(Instr.typeAssert (.iface 189 x) 143 185 true).run Tryz.prog W=.ok (.tuple #[.agg #[.slice none 0 0,.nilIface],.bool false]) W:=by kernel_rfl
theorem as0_2 (W:World):(Instr.typeAssert .nilIface 143 185 true).run Tryz.prog W=.ok (.tuple #[.agg #[.slice none 0 0,.nilIface],.bool false]) W:=by kernel_rfl
theorem as3_3 (x:Value)(W:World):(Instr.typeAssert (.iface 189 x) 143 189 true).run Tryz.prog W=.ok (.tuple #[x,.bool true]) W:=by kernel_rfl
def SlG (l:List UInt8):Ty:=fun v w=>∃ (a:Option Addr) (n c:Nat),v=.slice a n c∧Bytes w (.slice a n c) l
theorem SlG.mono (l:List UInt8):Mono (SlG l):=fun _ _ _ ⟨a,n,c,h,h2⟩ hb=>⟨a,n,c,h,h2.below hb⟩
theorem Q11 {B:Nat}{a w:World}(h:Below B a w)(n:Nat):Below B a (w.drewN n):=h.trans ⟨rfl,rfl,rfl,Nat.le_refl _,fun _ _=>rfl⟩
end Go.Proofs.YtbdmkfjgnjfjbaaGreat
