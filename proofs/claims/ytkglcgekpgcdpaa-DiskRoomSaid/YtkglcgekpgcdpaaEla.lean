/- An act, read out of a slice's element. -/
import Derived.Test.YtkglcgekpgcdpaaScr
set_option linter.unusedVariables false
set_option linter.unusedSimpArgs false
namespace Go.Proofs.Ytkglcgekpgcdpaa
open Go.RowKit Go.ChangeShapes Go.WideShapes

theorem act_struct : ∃ fs, Try.prog.underlying 33 = some (.struct fs) ∧ fs.toList.map (fun f => (f.type, f.offset)) = [(3, 0), (9, 1), (9, 2), (31, 3)] := ⟨_, Try.underlying33, rfl⟩
theorem cut_struct : ∃ fs, Try.prog.underlying 31 = some (.struct fs) ∧ fs.toList.map (fun f => (f.type, f.offset)) = [(3, 0), (3, 1)] := ⟨_, Try.underlying31, rfl⟩
theorem cells3 : Try.prog.cellsOf 3 = 1 := by kernel_rfl
theorem cells9 : Try.prog.cellsOf 9 = 1 := by kernel_rfl
theorem cells31 : Try.prog.cellsOf 31 = 2 := by kernel_rfl
theorem cells33 : Try.prog.cellsOf 33 = 5 := by kernel_rfl
/-- The field of a struct by its number. -/
theorem field_at {fs : Array Field} {l : List (TypeId × Nat)} (h : fs.toList.map (fun f => (f.type, f.offset)) = l) (i : Nat) {t : TypeId} {o : Nat} (hl : l[i]? = some (t, o)) : ∃ f, fs[i]? = some f ∧ f.type = t ∧ f.offset = o := by
  rw [← h, List.getElem?_map] at hl
  cases hf : fs.toList[i]? with
  | none => rw [hf] at hl; cases hl
  | some f =>
    rw [hf] at hl
    simp only [Option.map_some, Option.some.injEq, Prod.mk.injEq] at hl
    exact ⟨f, by simpa using hf, hl.1, hl.2⟩
section
variable {H : Type} {enc : TypeId × Value → H} {W : World}
theorem elem_act (n : Nat) (cs : List Value) (x : DataW H × List MemPlace) (hl : cs.length = 5) (h : DataW.trod enc Try.prog W 0 (fun _ => true) true n 33 cs = some x) (_ : ∀ m ∈ x.1.weights Try.prog 33, m ≤ reachBytes) :
    ∃ y : Ac, cs = y.cs ∧ y.ok := by
  obtain ⟨fs, hs, hm⟩ := act_struct
  obtain ⟨gs, hg, hgm⟩ := cut_struct
  obtain ⟨xs, n1, _, _, _, hxl, hf⟩ := DataW.trod_struct hs h
  have hfl : fs.size = 4 := by have := congrArg List.length hm; simpa using this
  match cs, hl with
  | [v0, v1, v2, v3, v4], _ =>
    match xs, hxl.trans hfl with
    | [x0, x1, x2, x3], _ =>
      obtain ⟨f0, e0, t0, o0⟩ := field_at hm 0 rfl
      obtain ⟨f1, e1, t1, o1⟩ := field_at hm 1 rfl
      obtain ⟨f2, e2, t2, o2⟩ := field_at hm 2 rfl
      obtain ⟨f3, e3, t3, o3⟩ := field_at hm 3 rfl
      have g0 := hf 0 f0 e0
      have g1 := hf 1 f1 e1
      have g2 := hf 2 f2 e2
      have g3 := hf 3 f3 e3
      rw [t0, o0, cells3] at g0
      rw [t1, o1, cells9] at g1
      rw [t2, o2, cells9] at g2
      rw [t3, o3, cells31] at g3
      obtain ⟨k, rfl, _⟩ := elem_int Try.underlying3 n1 v0 x0 g0
      obtain ⟨nm, rfl, hn⟩ := elem_string Try.underlying9 n1 v1 x1 g1
      obtain ⟨s, rfl, hs2⟩ := elem_string Try.underlying9 n1 v2 x2 g2
      have g3' : DataW.trod enc Try.prog W 0 (fun _ => true) true n1 31 [v3, v4] = some x3 := g3
      obtain ⟨ys, n2, _, _, _, hyl, hq⟩ := DataW.trod_struct hg g3'
      have hgl : gs.size = 2 := by have := congrArg List.length hgm; simpa using this
      match ys, hyl.trans hgl with
      | [y0, y1], _ =>
        obtain ⟨q0, a0, b0, c0⟩ := field_at hgm 0 rfl
        obtain ⟨q1, a1, b1, c1⟩ := field_at hgm 1 rfl
        have d0 := hq 0 q0 a0
        have d1 := hq 1 q1 a1
        rw [b0, c0, cells3] at d0
        rw [b1, c1, cells3] at d1
        obtain ⟨ca, rfl, _⟩ := elem_int Try.underlying3 n2 v3 y0 d0
        obtain ⟨ck, rfl, hck⟩ := elem_int Try.underlying3 n2 v4 y1 d1
        exact ⟨⟨k, nm, s, ca, ck⟩, rfl, wf_i64 hck, hn, hs2⟩
end
end Go.Proofs.Ytkglcgekpgcdpaa
