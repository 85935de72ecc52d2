/- A path that came in as an argument, or as an element of a row. -/
import Derived.Test.YthfmjiafdfoajaaDoorJoi
set_option linter.unusedVariables false
set_option linter.unusedSimpArgs false
namespace Go.Proofs.YthfmjiafdfoajaaDoor
open Go.RowKit Go.ChangeShapes Go.WideShapes

def okP (p : Pt) : Prop := p.1.size ≤ maxLen ∧ p.2.size ≤ maxLen
theorem pt_struct : ∃ fs, Tryd.prog.underlying 23 = some (.struct fs) ∧ fs.toList.map (fun f => (f.type, f.offset)) = [(9, 0), (9, 1)] := ⟨_, Tryd.underlying23, rfl⟩
theorem cells9 : Tryd.prog.cellsOf 9 = 1 := by kernel_rfl
theorem cells23 : Tryd.prog.cellsOf 23 = 2 := by kernel_rfl
/-- The field of a struct by its number. -/
theorem field_at {fs : Array Field} {l : List (TypeId × Nat)} (h : fs.toList.map (fun f => (f.type, f.offset)) = l) (i : Nat) {t : TypeId} {o : Nat} (hl : l[i]? = some (t, o)) : ∃ f, fs[i]? = some f ∧ f.type = t ∧ f.offset = o := by
  rw [← h, List.getElem?_map] at hl
  cases hf : fs.toList[i]? with
  | none => rw [hf] at hl; cases hl
  | some f =>
    rw [hf] at hl
    simp only [Option.map_some, Option.some.injEq, Prod.mk.injEq] at hl
    exact ⟨f, by simpa using hf, hl.1, hl.2⟩
section
variable {H : Type} {enc : TypeId × Value → H} {W : World}
set_option maxRecDepth 100000 in
theorem elem_pt (n : Nat) (cs : List Value) (x : DataW H × List MemPlace) (hl : cs.length = 2) (h : DataW.trod enc Tryd.prog W 0 (fun _ => true) true n 23 cs = some x) (_ : ∀ m ∈ x.1.weights Tryd.prog 23, m ≤ reachBytes) :
    ∃ y : Pt, cs = Pc y ∧ okP y := by
  obtain ⟨fs, hs, hm⟩ := pt_struct
  obtain ⟨xs, n1, hxd, _, _, hxl, hf⟩ := DataW.trod_struct hs h
  have hfl : fs.size = 2 := by have := congrArg List.length hm; simpa using this
  match cs, hl with
  | [v0, v1], _ =>
    match xs, hxl.trans hfl with
    | [x0, x1], _ =>
      obtain ⟨f0, e0, t0, o0⟩ := field_at hm 0 rfl
      obtain ⟨f1, e1, t1, o1⟩ := field_at hm 1 rfl
      have g0 := hf 0 f0 e0
      have g1 := hf 1 f1 e1
      rw [t0, o0, cells9] at g0
      rw [t1, o1, cells9] at g1
      obtain ⟨a, rfl, ok0⟩ := elem_string Tryd.underlying9 n1 v0 x0 g0
      obtain ⟨b, rfl, ok1⟩ := elem_string Tryd.underlying9 n1 v1 x1 g1
      exact ⟨(a, b), rfl, ok0, ok1⟩
end
theorem open_pt {H : Type} {enc : TypeId × Value → H} {W : World} {cs : Array Value} {d : DataW H} {ps : List MemPlace} (hc : cs.size = Tryd.prog.cellsOf 23) (h : DataW.Trod enc Tryd.prog W 0 (fun _ => true) true 23 (.agg cs) d ps) (hw : ∀ m ∈ d.weights Tryd.prog 23, m ≤ reachBytes) :
    ∃ p : Pt, cs = #[.string p.1, .string p.2] ∧ okP p := by
  obtain ⟨fuel, hf⟩ := h
  rw [cells23] at hc
  obtain ⟨p, hp, ok⟩ := elem_pt fuel (Value.agg cs).cells.toList (d, ps) (by simpa [Value.cells] using hc) hf hw
  refine ⟨p, ?_, ok⟩
  have : cs.toList = Pc p := by simpa [Value.cells] using hp
  rw [← Array.toArray_toList (xs := cs), this]
  rfl
end Go.Proofs.YthfmjiafdfoajaaDoor
