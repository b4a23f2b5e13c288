/- Play: plain; a row of updates. -/
import Derived.Test.YtgjgokcpampljaaLt14
set_option linter.unusedSimpArgs false
set_option linter.unusedVariables false
namespace Go.Proofs.Ytgjgokcpampljaa
open Go.RowKit
/-- an error's cell -/
def er (n : Nat) : List Value := [.int .i64 (n : Int)]
theorem er_len (n : Nat) : (er n).length = 1 := rfl
theorem elEr : El Try.prog 44 35 (.int .i64 0) 1 8 er := ⟨by kernel_rfl, by kernel_rfl, rfl, by omega, fun _ => rfl, fun x u hu => by simp only [er, List.mem_singleton] at hu; subst hu; rfl⟩
/-- an update with its row -/
def UpS : Type := {x : Upd × Value // x.1.hd.Ok}
def upc (x : UpS) : List Value := updc x.1.1.hd x.1.1.mask x.1.2
theorem upc_len (x : UpS) : (upc x).length = 206 := updc_len x.2 _ _
noncomputable def goOn (V : List Vt) (t : Sto) (u : Upd) : Sto := if (ltA t u V).1 = 0 then (ltA t u V).2 else t
noncomputable def plA (V : List Vt) : Sto → List Upd → Sto × List Nat
  | t, [] => (t, [])
  | t, u :: us => ((plA V (goOn V t u) us).1, (ltA t u V).1 :: (plA V (goOn V t u) us).2)
theorem plA_snoc {V : List Vt} : ∀ (us : List Upd) (t : Sto) (u : Upd), plA V t (us ++ [u]) = (goOn V (plA V t us).1 u, (plA V t us).2 ++ [(ltA (plA V t us).1 u V).1])
  | [], t, u => rfl
  | x :: us, t, u => by
    rw [List.cons_append, plA, plA_snoc us, plA]
    rfl
theorem plA_len {V : List Vt} : ∀ (us : List Upd) (t : Sto), (plA V t us).2.length = us.length
  | [], _ => rfl
  | x :: us, t => by rw [plA, List.length_cons, List.length_cons, plA_len us]
theorem plA_take {V : List Vt} {us : List Upd} {t : Sto} {k : Nat} {u : Upd} (hk : us[k]? = some u) : plA V t (us.take (k + 1)) = (goOn V (plA V t (us.take k)).1 u, (plA V t (us.take k)).2 ++ [(ltA (plA V t (us.take k)).1 u V).1]) := by
  rw [List.take_add_one, hk]
  exact plA_snoc _ _ _
theorem zSto_in : zSto.In := ⟨zH_ok, fun x hx => absurd hx (by simp [zSto]), fun x hx => absurd hx (by simp [zSto]), by simp [zSto], by simp [zSto]⟩
theorem jdg_in {t : Sto} (k : t.In) (m : Nat) : (∀ x ∈ (jdg t m).2, x < 18446744073709551616) ∧ (jdg t m).2.length ≤ 17592186044416 := by
  unfold jdg
  repeat' split
  all_goals first | exact ⟨k.s, k.sl⟩ | exact ⟨k.n, k.nl⟩ | exact ⟨fun x hx => absurd hx (by simp), by simp⟩
theorem ltA_in {t : Sto} {p : Upd} {V : List Vt} (k : t.In) (ku : p.Ok) : (ltA t p V).2.In := by
  unfold ltA
  have hj := jdg_in k p.hd.num
  repeat' split
  all_goals first | exact zSto_in | skip
  all_goals first
    | exact ⟨ku.hd, hj.1, k.n, hj.2, k.nl⟩
    | exact ⟨ku.hd, hj.1, ku.n, hj.2, ku.nl⟩
theorem goOn_in {V : List Vt} {t : Sto} {u : Upd} (k : t.In) (ku : u.Ok) : (goOn V t u).In := by
  unfold goOn
  split
  · exact ltA_in k ku
  · exact k
theorem plA_in {V : List Vt} : ∀ {us : List Upd} {t : Sto}, t.In → (∀ u ∈ us, u.Ok) → (plA V t us).1.In
  | [], _, k, _ => k
  | x :: us, t, k, h => by
    rw [plA]
    exact plA_in (goOn_in k (h x List.mem_cons_self)) (fun u hu => h u (List.mem_cons_of_mem _ hu))
end Go.Proofs.Ytgjgokcpampljaa
