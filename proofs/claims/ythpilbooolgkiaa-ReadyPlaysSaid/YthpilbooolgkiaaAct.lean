/- A script's acts, and entries, read out of a slice's elements; Few. -/
import Derived.Test.YthpilbooolgkiaaAwk
set_option linter.unusedVariables false
set_option linter.unusedSimpArgs false
namespace Go.Proofs.Ythpilbooolgkiaa
open Go.RowKit Go.ChangeShapes Go.WideShapes

/-- An act of a script. -/
structure Ac where
  k : Int
  id : Int
  now : Int
  x : En
def Ac.cs (a : Ac) : List Value := [.int .i64 a.k, .int .i64 a.id, .int .i64 a.now, .int .i64 a.x.id, .string a.x.dest, .int .i64 a.x.pri, .int .i64 a.x.at_]
def okE (x : En) : Prop := okI x.id ∧ okI x.pri ∧ okI x.at_ ∧ x.dest.size ≤ maxLen
def Ac.ok (a : Ac) : Prop := okI a.k ∧ okI a.id ∧ okI a.now ∧ okE a.x
abbrev RdA (w : World) (A : Option Addr) (l : List Ac) : Prop := RdS 7 Ac.cs w A l
theorem ent_struct : ∃ fs, Try.prog.underlying 34 = some (.struct fs) ∧ fs.toList.map (fun f => (f.type, f.offset)) = [(3, 0), (9, 1), (3, 2), (3, 3)] := ⟨_, Try.underlying34, rfl⟩
theorem act_struct : ∃ fs, Try.prog.underlying 36 = some (.struct fs) ∧ fs.toList.map (fun f => (f.type, f.offset)) = [(3, 0), (3, 1), (3, 2), (34, 3)] := ⟨_, Try.underlying36, rfl⟩
theorem cells3 : Try.prog.cellsOf 3 = 1 := by kernel_rfl
theorem cells9 : Try.prog.cellsOf 9 = 1 := by kernel_rfl
theorem cells34 : Try.prog.cellsOf 34 = 4 := by kernel_rfl
theorem cells36 : Try.prog.cellsOf 36 = 7 := by kernel_rfl
/-- The field of a struct by its number. -/
theorem field_at {fs : Array Field} {l : List (TypeId × Nat)} (h : fs.toList.map (fun f => (f.type, f.offset)) = l) (i : Nat) {t : TypeId} {o : Nat} (hl : l[i]? = some (t, o)) : ∃ f, fs[i]? = some f ∧ f.type = t ∧ f.offset = o := by
  rw [← h, List.getElem?_map] at hl
  cases hf : fs.toList[i]? with
  | none => rw [hf] at hl; cases hl
  | some f =>
    rw [hf] at hl
    simp only [Option.map_some, Option.some.injEq, Prod.mk.injEq] at hl
    exact ⟨f, by simpa using hf, hl.1, hl.2⟩
section
variable {H : Type} {enc : TypeId × Value → H} {W : World}
theorem elem_ent (n : Nat) (cs : List Value) (x : DataW H × List MemPlace) (hl : cs.length = 4) (h : DataW.trod enc Try.prog W 0 (fun _ => true) true n 34 cs = some x) (_ : ∀ m ∈ x.1.weights Try.prog 34, m ≤ reachBytes) :
    ∃ y : En, cs = y.vals ∧ okE y := by
  obtain ⟨fs, hs, hm⟩ := ent_struct
  obtain ⟨xs, n1, hxd, _, _, hxl, hf⟩ := DataW.trod_struct hs h
  have hfl : fs.size = 4 := by have := congrArg List.length hm; simpa using this
  match cs, hl with
  | [v0, v1, v2, v3], _ =>
    match xs, hxl.trans hfl with
    | [x0, x1, x2, x3], _ =>
      obtain ⟨f0, e0, t0, o0⟩ := field_at hm 0 rfl
      obtain ⟨f1, e1, t1, o1⟩ := field_at hm 1 rfl
      obtain ⟨f2, e2, t2, o2⟩ := field_at hm 2 rfl
      obtain ⟨f3, e3, t3, o3⟩ := field_at hm 3 rfl
      have g0 := hf 0 f0 e0
      have g1 := hf 1 f1 e1
      have g2 := hf 2 f2 e2
      have g3 := hf 3 f3 e3
      rw [t0, o0, cells3] at g0
      rw [t1, o1, cells9] at g1
      rw [t2, o2, cells3] at g2
      rw [t3, o3, cells3] at g3
      obtain ⟨k, rfl, ok0⟩ := elem_int Try.underlying3 n1 v0 x0 g0
      obtain ⟨p, rfl, ok2⟩ := elem_int Try.underlying3 n1 v2 x2 g2
      obtain ⟨a, rfl, ok3⟩ := elem_int Try.underlying3 n1 v3 x3 g3
      obtain ⟨d, rfl, ok1⟩ := elem_string Try.underlying9 n1 v1 x1 g1
      exact ⟨⟨k, d, p, a⟩, rfl, ok0, ok2, ok3, ok1⟩
theorem elem_act (n : Nat) (cs : List Value) (x : DataW H × List MemPlace) (hl : cs.length = 7) (h : DataW.trod enc Try.prog W 0 (fun _ => true) true n 36 cs = some x) (_ : ∀ m ∈ x.1.weights Try.prog 36, m ≤ reachBytes) :
    ∃ y : Ac, cs = y.cs ∧ y.ok := by
  obtain ⟨fs, hs, hm⟩ := act_struct
  obtain ⟨gs, hg, hgm⟩ := ent_struct
  obtain ⟨xs, n1, _, _, _, hxl, hf⟩ := DataW.trod_struct hs h
  have hfl : fs.size = 4 := by have := congrArg List.length hm; simpa using this
  match cs, hl with
  | [v0, v1, v2, v3, v4, v5, v6], _ =>
    match xs, hxl.trans hfl with
    | [x0, x1, x2, x3], _ =>
      obtain ⟨f0, e0, t0, o0⟩ := field_at hm 0 rfl
      obtain ⟨f1, e1, t1, o1⟩ := field_at hm 1 rfl
      obtain ⟨f2, e2, t2, o2⟩ := field_at hm 2 rfl
      obtain ⟨f3, e3, t3, o3⟩ := field_at hm 3 rfl
      have g0 := hf 0 f0 e0
      have g1 := hf 1 f1 e1
      have g2 := hf 2 f2 e2
      have g3 := hf 3 f3 e3
      rw [t0, o0, cells3] at g0
      rw [t1, o1, cells3] at g1
      rw [t2, o2, cells3] at g2
      rw [t3, o3, cells34] at g3
      obtain ⟨k, rfl, ok0⟩ := elem_int Try.underlying3 n1 v0 x0 g0
      obtain ⟨id, rfl, ok1⟩ := elem_int Try.underlying3 n1 v1 x1 g1
      obtain ⟨nw, rfl, ok2⟩ := elem_int Try.underlying3 n1 v2 x2 g2
      have g3' : DataW.trod enc Try.prog W 0 (fun _ => true) true n1 34 [v3, v4, v5, v6] = some x3 := g3
      obtain ⟨ys, n2, _, _, _, hyl, hq⟩ := DataW.trod_struct hg g3'
      have hgl : gs.size = 4 := by have := congrArg List.length hgm; simpa using this
      match ys, hyl.trans hgl with
      | [y0, y1, y2, y3], _ =>
        obtain ⟨q0, a0, b0, c0⟩ := field_at hgm 0 rfl
        obtain ⟨q1, a1, b1, c1⟩ := field_at hgm 1 rfl
        obtain ⟨q2, a2, b2, c2⟩ := field_at hgm 2 rfl
        obtain ⟨q3, a3, b3, c3⟩ := field_at hgm 3 rfl
        have d0 := hq 0 q0 a0
        have d1 := hq 1 q1 a1
        have d2 := hq 2 q2 a2
        have d3 := hq 3 q3 a3
        rw [b0, c0, cells3] at d0
        rw [b1, c1, cells9] at d1
        rw [b2, c2, cells3] at d2
        rw [b3, c3, cells3] at d3
        obtain ⟨ei, rfl, z0⟩ := elem_int Try.underlying3 n2 v3 y0 d0
        obtain ⟨ed, rfl, z1⟩ := elem_string Try.underlying9 n2 v4 y1 d1
        obtain ⟨ep, rfl, z2⟩ := elem_int Try.underlying3 n2 v5 y2 d2
        obtain ⟨ea, rfl, z3⟩ := elem_int Try.underlying3 n2 v6 y3 d3
        exact ⟨⟨k, id, nw, ⟨ei, ed, ep, ea⟩⟩, rfl, ok0, ok1, ok2, z0, z2, z3, z1⟩
end
/-- Are acts few, and their texts short? -/
def fewB (l : List Ac) : Bool := decide (l.length ≤ 60) && l.all fun a => decide (a.x.dest.size ≤ 300)
theorem fewB_of {l : List Ac} (h : fewB l = true) : l.length ≤ 60 ∧ ∀ a ∈ l, a.x.dest.size ≤ 300 := by
  simpa [fewB] using h
theorem fewB_bad {l : List Ac} {k : Nat} (hk : k < l.length) (h : 60 ≤ k ∨ 300 < l[k].x.dest.size) : fewB l = false := by
  rw [← Bool.not_eq_true]
  intro hf
  obtain ⟨h1, h2⟩ := fewB_of hf
  have := h2 l[k] (List.getElem_mem hk)
  omega
set_option maxHeartbeats 1000000 in
theorem few_any (w : World) (A : Option Addr) (cap : Nat) (l : List Ac) (rd : RdA w A l) (hm : l.length ≤ 9223372036854775807) (ok : ∀ a ∈ l, a.ok) :
    Calls Try.prog 9 #[.slice A l.length cap] w fun e w' => e = .returned (.bool (fewB l)) ∧ w' = w := by
  have HR := Lib.hid rd
  have HOK := Lib.hid ok
  clear rd ok
  go_enter Try.func9, Try.ntmps9
  go_wp2_with fail
  go_loop [3] (fun i => ∃ k : Nat, k ≤ l.length ∧ i = .int .i64 k ∧ k ≤ 60 ∧ ∀ j (h : j < l.length), j < k → l[j].x.dest.size ≤ 300) (fun i => l.length - (intOf i).toNat)
  case atStart => exact ⟨0, Nat.zero_le _, rfl, by omega, fun j _ h => by omega⟩
  case round =>
    obtain ⟨k, hk, rfl, hk60, hno⟩ := hrel
    have HN := Lib.hid hno
    clear hno
    by_cases hlt : k < l.length
    · obtain ⟨ad, rfl, _⟩ := HR.out k hlt
      have c4 := (HR.out.fs hlt 3 (v := .string l[k].x.dest) rfl)
      have hz := (HOK.out l[k] (List.getElem_mem hlt)).2.2.2.2.2.2
      have HB := Lib.hid (fewB_bad hlt)
      simp only [Nat.reduceAdd] at c4
      by_cases h60 : 60 ≤ k
      · have t0 : decide (60 ≤ (k : Int)) = true := decide_eq_true (by omega)
        have HF := Lib.hid (HB.out (.inl h60))
        clear HB
        go_wp2_with fail
        go_ret
        exact ⟨by rw [HF.out]; rfl, rfl⟩
      · have t0 : decide (60 ≤ (k : Int)) = false := decide_eq_false (by omega)
        by_cases h3 : 300 < l[k].x.dest.size
        · have t1 : decide (300 < (l[k].x.dest.size : Int)) = true := decide_eq_true (by omega)
          have HF := Lib.hid (HB.out (.inr h3))
          clear HB
          unfold maxLen at hz
          go_wp2_with fail
          go_ret
          exact ⟨by rw [HF.out]; rfl, rfl⟩
        · have t1 : decide (300 < (l[k].x.dest.size : Int)) = false := decide_eq_false (by omega)
          have HN1 := Lib.hid (show ∀ j, ∀ h : j < l.length, j < k + 1 → l[j].x.dest.size ≤ 300 from fun j hj hjk => by
            by_cases e : j = k
            · subst e; omega
            · exact HN.out j hj (by omega))
          clear HB
          unfold maxLen at hz
          go_wp2_with fail
          go_round
          case rel => exact ⟨k + 1, by omega, by go_num, by omega, HN1.out⟩
          case measure => simp [intOf]; omega
    · obtain rfl : k = l.length := by omega
      have HF := Lib.hid (show fewB l = true by
        simp only [fewB, Bool.and_eq_true, decide_eq_true_eq, List.all_eq_true]
        exact ⟨hk60, fun a ha => by
          obtain ⟨j, hj, rfl⟩ := List.mem_iff_getElem.1 ha
          exact HN.out j hj hj⟩)
      go_wp2_with fail
      go_ret
      exact ⟨by rw [HF.out]; rfl, rfl⟩
end Go.Proofs.Ythpilbooolgkiaa
