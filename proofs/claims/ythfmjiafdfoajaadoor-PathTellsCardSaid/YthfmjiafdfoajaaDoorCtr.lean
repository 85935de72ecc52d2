/- path: the contracts of Parse, Print, Right, Domain, told by lists. -/
import Derived.Test.YthfmjiafdfoajaaDoorAwk
set_option linter.unusedVariables false
set_option linter.unusedSimpArgs false
namespace Go.Proofs.YthfmjiafdfoajaaDoor
open Go.RowKit Go.Shelf

/-- What Print answers: a text and a number. -/
structure PrC (lo dom A : ByteArray) (E : Nat) : Prop where
  call : ∀ w, Calls Tryd.prog 9 #[.agg #[.string lo, .string dom]] w fun e w' => e = .returned (.tuple #[.string A, .int .i64 E]) ∧ Below w.heap.size w w'
  right : ∀ w, Calls Tryd.prog 15 #[.agg #[.string lo, .string dom]] w fun e w' => e = .returned (.int .i64 E) ∧ Below w.heap.size w w'
  eq : E = rightL lo.data.toList dom.data.toList
  ok : E = 0 → A.data.toList = printT lo.data.toList dom.data.toList
  no : E ≠ 0 → A = ⟨#[]⟩
theorem print_c (lo dom : ByteArray) (h1 : lo.size < 4294967281) (h2 : dom.size < 4294967281) : ∃ A E, PrC lo dom A E := by
  refine ⟨(printR lo dom).1, rightN lo dom, ?_, fun w => right_any lo dom w h1 h2, rightN_eq lo dom, ?_, ?_⟩
  · intro w
    refine (print_any lo dom w h1 h2).mono ?_
    rintro e w' ⟨rfl, hb⟩
    refine ⟨?_, hb⟩
    unfold printR
    split
    · rfl
    · rename_i h
      rw [show rightN lo dom = 0 from Decidable.byContradiction h]
  · intro h
    unfold printR
    rw [if_neg (by simp [h]), ← printL_eq]
  · intro h
    unfold printR
    rw [if_pos h]
/-- What Parse answers. -/
structure PaC (s lo dom rest : ByteArray) (e : Nat) : Prop where
  call : ∀ w, Calls Tryd.prog 11 #[.string s] w fun r w' => r = .returned (.tuple #[.agg #[.string lo, .string dom], .string rest, .int .i64 e]) ∧ Below w.heap.size w w'
  eq : parseL s.data.toList = ⟨lo.data.toList, dom.data.toList, rest.data.toList, e⟩
theorem parse_c (s : ByteArray) (h : s.size < 4294967281) : ∃ lo dom rest e, PaC s lo dom rest e :=
  ⟨bs (parseL s.data.toList).lo, bs (parseL s.data.toList).dom, bs (parseL s.data.toList).rest, (parseL s.data.toList).e, fun w => parse_any s w h, rfl⟩
/-- At a text whose answer is known. -/
theorem parse_at {s lo dom rest : ByteArray} {e : Nat} (h : s.size < 4294967281) (hp : parseL s.data.toList = ⟨lo.data.toList, dom.data.toList, rest.data.toList, e⟩) : PaC s lo dom rest e := by
  refine ⟨fun w => ?_, hp⟩
  have := parse_any s w h
  rw [hp] at this
  unfold prV at this
  simp only [bs_of] at this
  exact this
theorem PaC.sound {s lo dom rest : ByteArray} {e : Nat} (h : PaC s lo dom rest e) (he : e = 0) : rightL lo.data.toList dom.data.toList = 0 ∧ rest.size < s.size ∧ s.extract (s.size - rest.size) s.size = rest := by
  have := parse_sound (s := s.data.toList) (by rw [h.eq, he])
  rw [h.eq] at this
  obtain ⟨h1, pre, h2, h3⟩ := this
  dsimp only at h1 h3
  have hl := congrArg List.length h3
  rw [List.length_append, data_len, data_len] at hl
  have hp : 0 < pre.length := List.length_pos_iff.2 h2
  refine ⟨h1, by omega, ?_⟩
  rw [ext_drop, h3]
  apply bytes_eq
  show List.drop (s.size - rest.size) (pre ++ rest.data.toList) = _
  exact List.drop_left' (by omega)
theorem right_size {lo d : List UInt8} (h : rightL lo d = 0) : lo.length ≤ 64 ∧ d.length ≤ 255 := by
  unfold rightL at h
  by_cases h1 : 64 < lo.length ∨ 255 < d.length
  · rw [if_pos h1] at h; cases h
  · omega
theorem printT_len (lo d : List UInt8) : (printT lo d).length ≤ 2 * lo.length + d.length + 5 := by
  have h := esc_len lo
  unfold printT quoteL
  split
  · simp only [List.length_cons, List.length_append, List.length_nil]; omega
  · split
    · simp only [List.length_cons, List.length_append, List.length_nil]; omega
    · simp only [List.length_cons, List.length_append, List.length_nil]; omega
/-- A right path, printed, with what stands behind it. -/
theorem read_back {lo dom A c behind : ByteArray} {E : Nat} (h : PrC lo dom A E) (hE : E = 0) (hc : c.data.toList = A.data.toList ++ behind.data.toList) (hs : c.size < 4294967281) : PaC c lo dom behind 0 := by
  refine parse_at hs ?_
  rw [hc, h.ok hE]
  exact parse_print (by rw [← h.eq, hE]) _
theorem PrC.size {lo dom A : ByteArray} {E : Nat} (h : PrC lo dom A E) : A.size ≤ 500 := by
  by_cases hE : E = 0
  · have h1 := right_size (by rw [← h.eq, hE] : rightL lo.data.toList dom.data.toList = 0)
    have h2 := printT_len lo.data.toList dom.data.toList
    rw [← h.ok hE, data_len] at h2
    omega
  · rw [h.no hE]; decide
theorem toList_ne {a b : ByteArray} (h : a ≠ b) : (a.toList == b.toList) = false := by
  rw [beq_eq_false_iff_ne]
  intro e
  rw [ByteArray.toList_eq, ByteArray.toList_eq] at e
  exact h (bytes_eq e)
end Go.Proofs.YthfmjiafdfoajaaDoor
