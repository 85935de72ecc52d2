/- An entry that came in as an argument. -/
import Derived.Test.YthpilbooolgkiaaAct
set_option linter.unusedVariables false
set_option linter.unusedSimpArgs false
namespace Go.Proofs.Ythpilbooolgkiaa
open Go.RowKit Go.ChangeShapes Go.WideShapes

theorem open_ent {H : Type} {enc : TypeId × Value → H} {W : World} {cs : Array Value} {d : DataW H} {ps : List MemPlace} (hc : cs.size = Try.prog.cellsOf 34) (h : DataW.Trod enc Try.prog W 0 (fun _ => true) true 34 (.agg cs) d ps) (hw : ∀ m ∈ d.weights Try.prog 34, m ≤ reachBytes) :
    ∃ e : En, cs = #[.int .i64 e.id, .string e.dest, .int .i64 e.pri, .int .i64 e.at_] ∧ okE e := by
  obtain ⟨fuel, hf⟩ := h
  rw [cells34] at hc
  obtain ⟨e, he, ok⟩ := elem_ent fuel (Value.agg cs).cells.toList (d, ps) (by simpa [Value.cells] using hc) hf hw
  refine ⟨e, ?_, ok⟩
  have : cs.toList = e.vals := by simpa [Value.cells] using he
  rw [← Array.toArray_toList (xs := cs), this]
  rfl
end Go.Proofs.Ythpilbooolgkiaa
