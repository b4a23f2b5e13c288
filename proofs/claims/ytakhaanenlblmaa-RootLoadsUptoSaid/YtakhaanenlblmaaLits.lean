/- Numbers and bytes as cells; what a key's cells read as; how arrays and numbers that come in are read. -/
import Derived.Test.YtakhaanenlblmaaBase
import Derived.Test.YtakhaanenlblmaaOpenA
import Derived.MapViews
import Derived.DeepKeys2
set_option linter.unusedSimpArgs false
set_option linter.unusedVariables false
namespace Go.Proofs.Ytakhaanenlblmaa
open Go.ChangeShapes Go.WideShapes Go.ChangeAt Go.RowKit
def by8 (l:List UInt8):List Value:=l.map u8v
theorem by8_len (l:List UInt8):(by8 l).length=l.length:=by unfold by8;simp
def lit8 (l:List UInt8):List Lit:=l.map fun b=>Lit.int .u8 (b.toNat:Int)
theorem mapM_some {α β:Type} (f:α→Option β) (g:α→β):∀ (l:List α),(∀ x∈l,f x=some (g x))→l.mapM f=some (l.map g)
 | [],_=>rfl
 | x::l,h=>by
  rw [List.mapM_cons,h x List.mem_cons_self,mapM_some f g l (fun y hy=>h y (List.mem_cons_of_mem _ hy))]
  rfl
theorem wf8 (b:UInt8):(Lit.int .u8 (b.toNat:Int)).wf=true:=by
 have:=b.toNat_lt
 simp only [Lit.wf,show IntKind.u8.min=0 from rfl,show IntKind.u8.max=255 from rfl,Bool.and_eq_true,decide_eq_true_eq]
 omega
theorem keyL8 (d:Nat) (b:UInt8):Try.prog.keyLits (d+1) 5 [u8v b]=some [.int .u8 (b.toNat:Int)]:=by
 unfold Program.keyLits
 simp only [show Try.prog.underlying 5=some (.int .u8) from Try.underlying5,u8v,wf8,and_self,if_true]
theorem keyA {t:TypeId} {n:Nat} (ht:Try.prog.underlying t=some (.array n 5)) (hc:Try.prog.cellsOf t=n) (d:Nat) (l:List UInt8) (hl:l.length=n):Try.prog.keyLits (d+2) t (by8 l)=some (lit8 l):=by
 have hc8:Try.prog.cellsOf 5=1:=by kernel_rfl
 unfold Program.keyLits
 simp only [ht]
 rw [if_pos (by rw [by8_len,hl,hc]),mapM_some _ (fun i=>lit8 ((l.drop i).take 1))]
 ·simp only [Option.map_some,Option.some.injEq]
  unfold lit8
  have:∀ (m:Nat) (l:List UInt8),l.length=m→((List.range m).map fun i=>((l.drop i).take 1).map fun b=>Lit.int .u8 (b.toNat:Int)).flatten=l.map fun b=>Lit.int .u8 (b.toNat:Int):=by
   intro m
   induction m with
   | zero=>intro l h;rw [List.eq_nil_of_length_eq_zero h];rfl
   | succ m ih =>
    intro l h
    cases l with
    | nil=>simp at h
    | cons x l =>
     rw [List.range_succ_eq_map,List.map_cons,List.flatten_cons,List.map_map]
     have:=ih l (by simpa using h)
     rw [List.map_cons,← this]
     rfl
  exact this n l hl
 ·intro i hi
  rw [List.mem_range] at hi
  rw [hc8,Nat.mul_one]
  have:((by8 l).drop i).take 1=[u8v (l[i]'(by omega))]:=by
   rw [List.drop_eq_getElem_cons (by rw [by8_len];omega)]
   unfold by8
   simp
  rw [this,keyL8,List.drop_eq_getElem_cons (by omega)]
  rfl
section
variable {H:Type} {enc:TypeId × Value→H} {W:World}
end
end Go.Proofs.Ytakhaanenlblmaa
