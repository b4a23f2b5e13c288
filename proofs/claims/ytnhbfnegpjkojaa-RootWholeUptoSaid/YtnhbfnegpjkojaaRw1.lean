/- The codes of a tree: plain Lean. -/
import Derived.Test.YtnhbfnegpjkojaaTree1
import Derived.Test.YtnhbfnegpjkojaaRootA
import Derived.Test.YtnhbfnegpjkojaaSumA
set_option linter.unusedSimpArgs false
set_option linter.unusedVariables false
namespace Go.Proofs.Ytnhbfnegpjkojaa
open Go.RowKit
mutual
/-- a node's code -/
def cdN : Nd → List UInt8
  | .mk kd _ p _ v _ ks => if shOk kd p v (if kd = 1 then [] else smN ks) = true then shB kd p v (if kd = 1 then [] else smN ks) else []
/-- its kids' sums -/
def smN : List Nd → List (List UInt8)
  | [] => []
  | k :: ks => (if k.kd = 0 then [] else sumB (cdN k)) :: smN ks
end
mutual
/-- the codes of all nodes, each ahead of its kids -/
def alN : Nd → List (List UInt8)
  | .mk kd pv p vv v kv ks => cdN (.mk kd pv p vv v kv ks) :: (if kd = 1 then [] else alL ks)
def alL : List Nd → List (List UInt8)
  | [] => []
  | k :: ks => (if k.kd = 0 then [] else alN k) ++ alL ks
end
theorem smN_len : ∀ (ks : List Nd), (smN ks).length = ks.length
  | [] => by rw [smN]; rfl
  | k :: ks => by rw [smN, List.length_cons, List.length_cons, smN_len ks]
/-- of a leaf's kids nothing is asked -/
theorem shOk_leaf (p v : List UInt8) (s s' : List (List UInt8)) : shOk 1 p v s = shOk 1 p v s' := by simp [shOk]
theorem shB_leaf (p v : List UInt8) (s s' : List (List UInt8)) : shB 1 p v s = shB 1 p v s' := by simp [shB]
/-- sums one behind the other -/
theorem smN_snoc : ∀ (ks : List Nd) (k : Nd), smN (ks ++ [k]) = smN ks ++ [if k.kd = 0 then [] else sumB (cdN k)]
  | [], k => by rw [List.nil_append, smN, smN]; rfl
  | x :: ks, k => by rw [List.cons_append, smN, smN, smN_snoc ks k, List.cons_append]
theorem alL_snoc : ∀ (ks : List Nd) (k : Nd), alL (ks ++ [k]) = alL ks ++ (if k.kd = 0 then [] else alN k)
  | [], k => by rw [List.nil_append, alL]; simp only [alL, List.append_nil, List.nil_append]
  | x :: ks, k => by rw [List.cons_append, alL, alL, alL_snoc ks k, List.append_assoc]
theorem alN_ne (t : Nd) : ∃ l, alN t = cdN t :: l := by
  cases t with
  | mk kd pv p vv v kv ks => exact ⟨_, by rw [alN]⟩
end Go.Proofs.Ytnhbfnegpjkojaa
