/- Trees as plain data: routes, what grows of them, what is right: plain Lean. -/
import Derived.Test.YtnhbfnegpjkojaaNib1
set_option linter.unusedSimpArgs false
set_option linter.unusedVariables false
namespace Go.Proofs.Ytnhbfnegpjkojaa
open Go.RowKit
/-- a node: its kind, its path (value, bytes), its value (value, bytes), its kids (value, nodes) -/
inductive Nd where
  | mk (kd : Int) (pv : Value) (p : List UInt8) (vv : Value) (v : List UInt8) (kv : Value) (ks : List Nd)
def Nd.kd : Nd → Int
  | .mk kd _ _ _ _ _ _ => kd
abbrev Rt := List UInt8 × List UInt8
def pre (p : List UInt8) (l : List Rt) : List Rt := l.map fun r => (p ++ r.1, r.2)
def cat : Nat → List (List Rt) → List Rt
  | _, [] => []
  | i, l :: ls => pre [UInt8.ofNat i] l ++ cat (i + 1) ls
def half (p : List UInt8) : Bool := p.all fun x => decide (x.toNat ≤ 15)
mutual
/-- all values with their paths -/
def rts : Nd → Option (List Rt)
  | .mk kd _ p _ v _ ks =>
    if (kd = 1 ∨ kd = 2) ∧ half p = false then none
    else if kd = 0 then some []
    else if kd = 1 then some [(p, v)]
    else if kd = 2 ∧ ks.length = 1 then (rtsL ks).map fun l => pre p l.flatten
    else if kd = 3 ∧ ks.length = 16 then (rtsL ks).map fun l => (if v = [] then [] else [([], v)]) ++ cat 0 l
    else none
def rtsL : List Nd → Option (List (List Rt))
  | [] => some []
  | k :: ks => match rts k with
    | none => none
    | some l => match rtsL ks with
      | none => none
      | some ls => some (l :: ls)
end
/-- plain trees -/
inductive Pn where
  | mk (kd : Int) (p v : List UInt8) (ks : List Pn)
def shorterP (c : Nat) (l : List Rt) : List Rt := l.map fun r => (r.1.drop c, r.2)
def partP (i : Nat) (l : List Rt) : List Rt := l.filter fun r => decide ((r.1[0]?.getD 0).toNat = i)
/-- the tree of values whose paths stand in order -/
def grw : Nat → List Rt → Pn
  | 0, _ => .mk 0 [] [] []
  | n + 1, l => match l with
    | [] => .mk 0 [] [] []
    | [r] => .mk 1 r.1 r.2 []
    | r :: r' :: l' =>
      let z := (r' :: l').getLast (by simp)
      let c := com r.1 z.1
      if 0 < c then .mk 2 (r.1.take c) [] [grw n (shorterP c (r :: r' :: l'))]
      else .mk 3 [] (if r.1 = [] then r.2 else []) ((List.range 16).map fun i => grw n (shorterP 1 (partP i (if r.1 = [] then r' :: l' else r :: r' :: l'))))
mutual
/-- the same -/
def sameP : Nd → Pn → Bool
  | .mk kd _ p _ v _ ks, .mk kd' p' v' ks' =>
    if kd ≠ kd' then false
    else if kd = 1 then p == p' && v == v'
    else if kd = 2 then p == p' && sameL ks ks'
    else if kd = 3 then v == v' && sameL ks ks'
    else true
def sameL : List Nd → List Pn → Bool
  | [], [] => true
  | k :: ks, k' :: ks' => sameP k k' && sameL ks ks'
  | _, _ => false
end
def endsP (d : Nat) : Bool := decide (d % 2 = 0) && decide (d ≤ 64)
def manyP : List Nd → Nat
  | [] => 0
  | k :: ks => (if k.kd = 0 then 0 else 1) + manyP ks
mutual
/-- is it a tree? -/
def rgt : Nat → Nd → Bool
  | d, .mk kd _ p _ v _ ks =>
    if kd = 0 then true
    else if kd = 1 then half p && endsP (d + p.length) && decide (0 < v.length) && decide (v.length ≤ 1024)
    else if kd = 2 then decide (0 < p.length) && half p && decide (ks.length = 1) && decide (((ks[0]?.map Nd.kd).getD 0) = 3) && rgtL (d + p.length) ks
    else if kd = 3 then decide (ks.length = 16) && decide (v.length ≤ 1024) && (decide (v.length = 0) || endsP d) && rgtL (d + 1) ks && decide (2 ≤ min v.length 1 + manyP ks)
    else false
def rgtL : Nat → List Nd → Bool
  | _, [] => true
  | d, k :: ks => rgt d k && rgtL d ks
end
def fineP (d : Nat) (r : Rt) : Prop := (d + r.1.length) % 2 = 0 ∧ d + r.1.length ≤ 64 ∧ 0 < r.2.length ∧ r.2.length ≤ 1024
instance (d : Nat) (r : Rt) : Decidable (fineP d r) := by unfold fineP; infer_instance
end Go.Proofs.Ytnhbfnegpjkojaa
