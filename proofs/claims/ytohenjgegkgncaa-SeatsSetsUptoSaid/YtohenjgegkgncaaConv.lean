/- '[]byte(s)' of any string; '+' of strings: lemmas of my own with no program in sight. -/
import Derived.Test.YtohenjgegkgncaaApp
import Derived.Lib.ConvBytes
import Derived.Laws.Concat
set_option linter.unusedSimpArgs false
set_option linter.unusedVariables false
namespace Go.Proofs.Ytohenjgegkgncaa
open Go.RowKit
theorem bytes_of (w : World) (e : TypeId) (l : List UInt8) (hl : l.length ≤ maxLen) :
    Bytes (Lib.bytesWorld w e ⟨l.toArray⟩) (.slice (some ⟨w.heap.size, 0, none⟩) l.length (grownCap w l.length 0 e)) l ∧ Below w.heap.size w (Lib.bytesWorld w e ⟨l.toArray⟩) := by
  refine ⟨⟨flat_len (f := b8) (size := 1) (fun _ => rfl) l, _, _, rfl, grownCap_ge _ _ _ _, grownCap_le_maxLen _ _ _ _ hl, .inr ⟨_, 0, none, rfl, .inl rfl, fun j u hu => ?_⟩⟩, ?_⟩
  · rw [flat_b8, List.getElem?_map] at hu
    obtain ⟨x, hx, rfl⟩ := Option.map_eq_some_iff.1 hu
    have hj := (List.getElem?_eq_some_iff.1 hx).1
    rw [Nat.zero_add, Lib.bytesWorld_cell w e ⟨l.toArray⟩ j (by simpa [ByteArray.size] using hj)]
    simp [u8v, List.getD, hx]
  · refine ⟨?_, ?_, ?_, by rw [Lib.bytesWorld_size]; omega, fun k hk => Lib.bytesWorld_at_old w e _ k hk⟩ <;> rfl
theorem wpList_bytesOf {P : Program} {w : World} {ops : Array Oper} {rest : List Oper} {o : Oper} {a : Act} {Q : Exit → Act → World → Prop} (hgd : o.guard = none) (src dst : TypeId) (x : Operand)
    (ho : o.op = .convert src dst x) {e : TypeId} (hs : P.underlying src = some .string) (hd : P.underlying dst = some (.slice e)) (he : P.underlying e = some (.int .u8)) (l : List UInt8) (hx : a.eval x = str l) (hl : l.length ≤ maxLen)
    (h : ∀ v' w', Bytes w' v' l → Below w.heap.size w w' → wpList P ops Q rest (a.put o.dst v') w') : wpList P ops Q (o :: rest) a w := by
  refine wpList_plain hgd fun K hK => ?_
  have hr := Lib.run_convert_string_bytes (P := P) w src dst e ⟨l.toArray⟩ hs hd he
  have hb := bytes_of w e l hl
  unfold Oper.wp execOp
  unfold str at hx
  simp only [ho, hx, hr, Sem.run_bind, Result.andThen_ok, Sem.run_pure]
  exact hK _ _ (h _ _ hb.1 hb.2)
theorem run_str_add {P : Program} (w : World) (t : TypeId) (l m : List UInt8) (h : l.length + m.length ≤ 9223372036854775807) : (binOp .add t (str l) (str m)).run P w = .ok (str (l ++ m)) w := by
  unfold str
  simp only [binOp]
  rw [run_string_add_sum w _ _ (by simpa [ByteArray.size] using h), ByteArray.mk_append_mk]
end Go.Proofs.Ytohenjgegkgncaa
