/- An act, read out of a slice's element. -/
import Derived.Test.YtejelihioendnaaRows5
import Derived.Test.YtejelihioendnaaWpo
set_option linter.unusedVariables false
set_option linter.unusedSimpArgs false
namespace Go.Proofs.Ytejelihioendnaa
open Go.RowKit Go.ChangeShapes Go.WideShapes

/-- An act: its kind, its timer, its number, its batch. -/
structure Ac where
  k : Int
  id : Int
  n : Int
  b : Int
def Ac.cs (a : Ac) : List Value := [.int .i64 a.k, .int .i64 a.id, .int .i64 a.n, .int .i64 a.b]
def Ac.ok (a : Ac) : Prop := okI a.id ∧ okI a.n
abbrev RdA (w : World) (A : Option Addr) (l : List Ac) : Prop := RdS 4 Ac.cs w A l
theorem act_struct : ∃ fs, Try.prog.underlying 32 = some (.struct fs) ∧ fs.toList.map (fun f => (f.type, f.offset)) = [(3, 0), (3, 1), (3, 2), (3, 3)] := ⟨_, Try.underlying32, rfl⟩
theorem cells3 : Try.prog.cellsOf 3 = 1 := by kernel_rfl
theorem cells32 : Try.prog.cellsOf 32 = 4 := by kernel_rfl
/-- The field of a struct by its number. -/
theorem field_at {fs : Array Field} {l : List (TypeId × Nat)} (h : fs.toList.map (fun f => (f.type, f.offset)) = l) (i : Nat) {t : TypeId} {o : Nat} (hl : l[i]? = some (t, o)) : ∃ f, fs[i]? = some f ∧ f.type = t ∧ f.offset = o := by
  rw [← h, List.getElem?_map] at hl
  cases hf : fs.toList[i]? with
  | none => rw [hf] at hl; cases hl
  | some f =>
    rw [hf] at hl
    simp only [Option.map_some, Option.some.injEq, Prod.mk.injEq] at hl
    exact ⟨f, by simpa using hf, hl.1, hl.2⟩
section
variable {H : Type} {enc : TypeId × Value → H} {W : World}
set_option maxRecDepth 100000 in
theorem elem_act (n : Nat) (cs : List Value) (x : DataW H × List MemPlace) (hl : cs.length = 4) (h : DataW.trod enc Try.prog W 0 (fun _ => true) true n 32 cs = some x) (_ : ∀ m ∈ x.1.weights Try.prog 32, m ≤ reachBytes) :
    ∃ y : Ac, cs = y.cs ∧ y.ok := by
  obtain ⟨fs, hs, hm⟩ := act_struct
  obtain ⟨xs, n1, _, _, _, hxl, hf⟩ := DataW.trod_struct hs h
  have hfl : fs.size = 4 := by have := congrArg List.length hm; simpa using this
  match cs, hl with
  | [v0, v1, v2, v3], _ =>
    match xs, hxl.trans hfl with
    | [x0, x1, x2, x3], _ =>
      obtain ⟨f0, e0, t0, o0⟩ := field_at hm 0 rfl
      obtain ⟨f1, e1, t1, o1⟩ := field_at hm 1 rfl
      obtain ⟨f2, e2, t2, o2⟩ := field_at hm 2 rfl
      obtain ⟨f3, e3, t3, o3⟩ := field_at hm 3 rfl
      have g0 := hf 0 f0 e0
      have g1 := hf 1 f1 e1
      have g2 := hf 2 f2 e2
      have g3 := hf 3 f3 e3
      rw [t0, o0, cells3] at g0
      rw [t1, o1, cells3] at g1
      rw [t2, o2, cells3] at g2
      rw [t3, o3, cells3] at g3
      obtain ⟨k, rfl, _⟩ := elem_int Try.underlying3 n1 v0 x0 g0
      obtain ⟨i, rfl, hi⟩ := elem_int Try.underlying3 n1 v1 x1 g1
      obtain ⟨m, rfl, hm'⟩ := elem_int Try.underlying3 n1 v2 x2 g2
      obtain ⟨b, rfl, _⟩ := elem_int Try.underlying3 n1 v3 x3 g3
      have h1 : okI i := hi
      have h2 : okI m := hm'
      exact ⟨⟨k, i, m, b⟩, rfl, And.intro h1 h2⟩
end
end Go.Proofs.Ytejelihioendnaa
