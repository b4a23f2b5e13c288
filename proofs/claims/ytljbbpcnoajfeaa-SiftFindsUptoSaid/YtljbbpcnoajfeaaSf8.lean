/- Pages of receipts; the logs in them, in order. -/
import Derived.Test.YtljbbpcnoajfeaaSf7
import Derived.Test.YtljbbpcnoajfeaaFen
set_option linter.unusedSimpArgs false
set_option linter.unusedVariables false
namespace Go.Proofs.Ytljbbpcnoajfeaa
open Go.RowKit
/-- a receipt, with the value that its logs lie there as -/
structure Rcp where
  good : Bool
  used : Nat
  hu : used < 18446744073709551616
  bloom : List UInt8
  hb : bloom.length = 32
  lv : Value
  ls : List Lgv
def rpc (r : Rcp) : List Value := [.bool r.good, u64v r.used] ++ (by8 r.bloom ++ [r.lv])
theorem rpc_len (r : Rcp) : (rpc r).length = 35 := by unfold rpc; simp only [List.length_append, by8_len, r.hb, List.length_cons, List.length_nil]
theorem aggRp : Agg Try.prog 91 35 := ⟨_, Try.underlying91, rfl, by kernel_rfl⟩
theorem rpc_bloom (r : Rcp) : ((rpc r).drop 2).take 32 = by8 r.bloom := by
  show (by8 r.bloom ++ [r.lv]).take 32 = _
  exact List.take_left' (by rw [by8_len, r.hb])
theorem rpc_logs (r : Rcp) : (rpc r)[34]? = some r.lv := by
  show (by8 r.bloom ++ [r.lv])[32]? = _
  rw [List.getElem?_append_right (by rw [by8_len, r.hb]; omega), by8_len, r.hb]; rfl
theorem rpc_one (r : Rcp) (h : ∃ a n c, r.lv = .slice a n c) : ∀ u ∈ rpc r, u.oneCell' = true := by
  intro u hu
  unfold rpc at hu
  simp only [List.mem_append, List.mem_cons, List.not_mem_nil, or_false] at hu
  rcases hu with (rfl | rfl) | hu | rfl
  · rfl
  · rfl
  · obtain ⟨x, _, rfl⟩ := List.mem_map.1 hu; rfl
  · exact one_slice h
/-- a page -/
structure Pgv where
  num : Nat
  hn : num < 18446744073709551616
  rv : Value
  rs : List Rcp
def pgc (p : Pgv) : List Value := [u64v p.num, p.rv]
theorem pgc_len (p : Pgv) : (pgc p).length = 2 := rfl
theorem aggPg : Agg Try.prog 95 2 := ⟨_, Try.underlying95, rfl, by kernel_rfl⟩
theorem pgc_one (p : Pgv) (h : ∃ a n c, p.rv = .slice a n c) : ∀ u ∈ pgc p, u.oneCell' = true := by
  intro u hu
  unfold pgc at hu
  simp only [List.mem_cons, List.not_mem_nil, or_false] at hu
  rcases hu with rfl | rfl
  · rfl
  · exact one_slice h
/-- pages in a world -/
structure Pgs (w : World) (v : Value) (ps : List Pgv) : Prop where
  row : RowOf pgc 2 w v ps
  rs : ∀ p ∈ ps, RowOf rpc 35 w p.rv p.rs
  ls : ∀ p ∈ ps, ∀ r ∈ p.rs, RowOf lgc 10 w r.lv r.ls
  lg : ∀ p ∈ ps, ∀ r ∈ p.rs, ∀ l ∈ r.ls, l.In w ∧ l.Ok
theorem Pgs.below {w w' : World} {v : Value} {ps : List Pgv} (h : Pgs w v ps) (hb : Below w.heap.size w w') : Pgs w' v ps :=
  ⟨h.row.below hb, fun p hp => (h.rs p hp).below hb, fun p hp r hr => (h.ls p hp r hr).below hb, fun p hp r hr l hl => ⟨(h.lg p hp r hr l hl).1.kept hb, (h.lg p hp r hr l hl).2⟩⟩
structure PgOk (ps : List Pgv) : Prop where
  p : ps.length ≤ 1048576
  r : ∀ p ∈ ps, p.rs.length ≤ 1048576
  l : ∀ p ∈ ps, ∀ r ∈ p.rs, r.ls.length ≤ 1048576
/-- all logs of a receipt, of a page, of pages: of the receipts that are looked at -/
def lgF (p : Pgv) (i : Nat) (ls : List Lgv) : List Fdv := ls.zipIdx.map fun x => ⟨p.num, p.hn, i, x.2, x.1⟩
def rcF (lk : Rcp → Bool) (p : Pgv) (rs : List Rcp) : List Fdv := rs.zipIdx.flatMap fun x => if lk x.1 then lgF p x.2 x.1.ls else []
def pgF (lk : Rcp → Bool) (ps : List Pgv) : List Fdv := ps.flatMap fun p => rcF lk p p.rs
theorem lgF_step (p : Pgv) (i : Nat) (ls : List Lgv) (k : Nat) (hk : k < ls.length) : lgF p i (ls.take (k + 1)) = lgF p i (ls.take k) ++ [⟨p.num, p.hn, i, k, ls[k]⟩] := by
  unfold lgF
  rw [List.take_succ_eq_append_getElem hk, List.zipIdx_append, List.map_append, List.length_take, Nat.min_eq_left (by omega)]
  simp
theorem rcF_step (lk : Rcp → Bool) (p : Pgv) (rs : List Rcp) (k : Nat) (hk : k < rs.length) : rcF lk p (rs.take (k + 1)) = rcF lk p (rs.take k) ++ (if lk rs[k] then lgF p k rs[k].ls else []) := by
  unfold rcF
  rw [List.take_succ_eq_append_getElem hk, List.zipIdx_append, List.flatMap_append, List.length_take, Nat.min_eq_left (by omega)]
  simp
theorem pgF_step (lk : Rcp → Bool) (ps : List Pgv) (k : Nat) (hk : k < ps.length) : pgF lk (ps.take (k + 1)) = pgF lk (ps.take k) ++ rcF lk ps[k] ps[k].rs := by
  unfold pgF
  rw [List.take_succ_eq_append_getElem hk, List.flatMap_append]
  simp
theorem pre_app {α : Type} {a b c : List α} (h : a ++ b <+: c) : a <+: c := (List.prefix_append a b).trans h
theorem lgF_pre (p : Pgv) (i : Nat) (ls : List Lgv) (k : Nat) : lgF p i (ls.take k) <+: lgF p i ls := by
  unfold lgF
  have : ls.zipIdx = (ls.take k).zipIdx ++ (ls.drop k).zipIdx (0 + (ls.take k).length) := by rw [← List.zipIdx_append, List.take_append_drop]
  rw [this, List.map_append]
  exact List.prefix_append _ _
theorem rcF_pre (lk : Rcp → Bool) (p : Pgv) (rs : List Rcp) (k : Nat) : rcF lk p (rs.take k) <+: rcF lk p rs := by
  unfold rcF
  have : rs.zipIdx = (rs.take k).zipIdx ++ (rs.drop k).zipIdx (0 + (rs.take k).length) := by rw [← List.zipIdx_append, List.take_append_drop]
  rw [this, List.flatMap_append]
  exact List.prefix_append _ _
theorem pgF_pre (lk : Rcp → Bool) (ps : List Pgv) (k : Nat) : pgF lk (ps.take k) <+: pgF lk ps := by
  unfold pgF
  have : (ps.flatMap fun p => rcF lk p p.rs) = ((ps.take k).flatMap fun p => rcF lk p p.rs) ++ (ps.drop k).flatMap fun p => rcF lk p p.rs := by rw [← List.flatMap_append, List.take_append_drop]
  rw [this]
  exact List.prefix_append _ _
/-- what has come at a place is an early part of all -/
theorem place_pre (lk : Rcp → Bool) (ps : List Pgv) (a b c : Nat) (ha : a < ps.length) (hb : b < ps[a].rs.length) (hl : lk ps[a].rs[b] = true) :
    pgF lk (ps.take a) ++ rcF lk ps[a] (ps[a].rs.take b) ++ lgF ps[a] b (ps[a].rs[b].ls.take c) <+: pgF lk ps := by
  have h1 : rcF lk ps[a] (ps[a].rs.take b) ++ lgF ps[a] b (ps[a].rs[b].ls.take c) <+: rcF lk ps[a] ps[a].rs := by
    refine List.IsPrefix.trans ?_ (rcF_pre lk ps[a] ps[a].rs (b + 1))
    rw [rcF_step lk ps[a] ps[a].rs b hb, if_pos hl]
    exact (List.prefix_append_right_inj _).2 (lgF_pre _ _ _ _)
  rw [List.append_assoc]
  refine List.IsPrefix.trans ?_ (pgF_pre lk ps (a + 1))
  rw [pgF_step lk ps a ha]
  exact (List.prefix_append_right_inj _).2 h1
theorem mem_lgF {p : Pgv} {i : Nat} {ls : List Lgv} {x : Fdv} (h : x ∈ lgF p i ls) : x.l ∈ ls := by
  unfold lgF at h
  obtain ⟨y, hy, rfl⟩ := List.mem_map.1 h
  exact (List.mem_zipIdx' hy).2 ▸ List.getElem_mem _
/-- a log of the arguments -/
def FdA (w0 : World) : Type := { x : Fdv // x.l.In w0 ∧ x.l.Ok }
def FdA.v {w0 : World} (x : FdA w0) : Fdv := x.1
theorem FdA.ok {w0 : World} (x : FdA w0) : x.v.l.In w0 ∧ x.v.l.Ok := x.2
def FdA.of {w0 : World} (x : Fdv) (h : x.l.In w0 ∧ x.l.Ok) : FdA w0 := ⟨x, h⟩
theorem FdA.of_v {w0 : World} (x : Fdv) (h : x.l.In w0 ∧ x.l.Ok) : (FdA.of x h).v = x := rfl
end Go.Proofs.Ytljbbpcnoajfeaa
