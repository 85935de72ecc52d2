/- Stable sorting by a key: what the result is, and that it is one. Plain lists. -/
import Derived.WalkKit
set_option linter.unusedVariables false
set_option linter.unusedSimpArgs false
namespace Go.Proofs.Ythpilbooolgkiaa

section
variable {α : Type} (ky : α → Int)
/-- In the order of keys. -/
abbrev Sd (l : List α) : Prop := l.Pairwise (fun a b => ky a ≤ ky b)
/-- The same of each key, in the same order. -/
def SameBy (l m : List α) : Prop := ∀ k, l.filter (fun x => decide (ky x = k)) = m.filter (fun x => decide (ky x = k))
variable {ky}
theorem SameBy.refl (l : List α) : SameBy ky l l := fun _ => rfl
theorem SameBy.symm {l m : List α} (h : SameBy ky l m) : SameBy ky m l := fun k => (h k).symm
theorem SameBy.trans {l m n : List α} (h : SameBy ky l m) (h' : SameBy ky m n) : SameBy ky l n := fun k => (h k).trans (h' k)
theorem SameBy.append {l l' m m' : List α} (h : SameBy ky l l') (h' : SameBy ky m m') : SameBy ky (l ++ m) (l' ++ m') := fun k => by rw [List.filter_append, List.filter_append, h k, h' k]
theorem SameBy.mem {l m : List α} (h : SameBy ky l m) {x : α} (hx : x ∈ l) : x ∈ m := by
  have : x ∈ l.filter (fun y => decide (ky y = ky x)) := List.mem_filter.2 ⟨hx, by simp⟩
  rw [h] at this
  exact (List.mem_filter.1 this).1
theorem SameBy.mem_iff {l m : List α} (h : SameBy ky l m) {x : α} : x ∈ l ↔ x ∈ m := ⟨h.mem, h.symm.mem⟩
/-- Two neighbours that have unlike keys, exchanged. -/
theorem SameBy.comm {X Y : List α} (h : ∀ x ∈ X, ∀ y ∈ Y, ky x ≠ ky y) : SameBy ky (X ++ Y) (Y ++ X) := fun k => by
  rw [List.filter_append, List.filter_append]
  by_cases hx : ∃ x ∈ X, ky x = k
  · obtain ⟨x, hx, hk⟩ := hx
    have : Y.filter (fun y => decide (ky y = k)) = [] := List.filter_eq_nil_iff.2 fun y hy => by
      have := h x hx y hy
      simp
      omega
    rw [this]
    simp
  · have : X.filter (fun y => decide (ky y = k)) = [] := List.filter_eq_nil_iff.2 fun x hx' => by
      simp
      exact fun e => hx ⟨x, hx', e⟩
    rw [this]
    simp
theorem SameBy.tail {a : α} {l m : List α} (h : SameBy ky (a :: l) (a :: m)) : SameBy ky l m := fun k => by
  have := h k
  by_cases e : ky a = k
  · rw [List.filter_cons_of_pos (by simpa using e), List.filter_cons_of_pos (by simpa using e)] at this
    exact (List.cons.inj this).2
  · rw [List.filter_cons_of_neg (by simpa using e), List.filter_cons_of_neg (by simpa using e)] at this
    exact this
theorem same_uniq : ∀ {l m : List α}, Sd ky l → Sd ky m → SameBy ky l m → l = m
  | [], [], _, _, _ => rfl
  | [], b :: m, _, _, h => by have := h.symm.mem (x := b) List.mem_cons_self; cases this
  | a :: l, [], _, _, h => by have := h.mem (x := a) List.mem_cons_self; cases this
  | a :: l, b :: m, hl, hm, h => by
    have hl' := List.pairwise_cons.1 hl
    have hm' := List.pairwise_cons.1 hm
    have h1 : ky a ≤ ky b := by
      rcases List.mem_cons.1 (h.symm.mem (x := b) List.mem_cons_self) with e | e
      · rw [e]; exact Int.le_refl _
      · exact hl'.1 b e
    have h2 : ky b ≤ ky a := by
      rcases List.mem_cons.1 (h.mem (x := a) List.mem_cons_self) with e | e
      · rw [e]; exact Int.le_refl _
      · exact hm'.1 a e
    have hab : a = b := by
      have := h (ky a)
      rw [List.filter_cons_of_pos (by simp), List.filter_cons_of_pos (by simp; omega)] at this
      exact (List.cons.inj this).1
    subst hab
    rw [same_uniq hl'.2 hm'.2 h.tail]
theorem SameBy.filter {l m : List α} (h : SameBy ky l m) (p : α → Bool) : SameBy ky (l.filter p) (m.filter p) := fun k => by
  rw [List.filter_filter, List.filter_filter]
  have e : (fun a => decide (ky a = k) && p a) = (fun a => p a && decide (ky a = k)) := by funext a; rw [Bool.and_comm]
  rw [e]
  rw [← List.filter_filter, ← List.filter_filter, h k]
theorem SameBy.length {l m : List α} (hl : Sd ky l) (h : SameBy ky l m) : ∀ {n : List α}, Sd ky n → SameBy ky n m → n.length = l.length := fun hn h' => by rw [same_uniq hn hl (h'.trans h.symm)]
theorem sd_append {l m : List α} : Sd ky (l ++ m) ↔ Sd ky l ∧ Sd ky m ∧ ∀ a ∈ l, ∀ b ∈ m, ky a ≤ ky b := List.pairwise_append
/-- A stable order, by insertion. -/
def insK (ky : α → Int) (x : α) : List α → List α
  | [] => [x]
  | y :: l => if ky x ≤ ky y then x :: y :: l else y :: insK ky x l
def srtK (ky : α → Int) : List α → List α
  | [] => []
  | x :: l => insK ky x (srtK ky l)
theorem mem_insK {x y : α} {l : List α} : y ∈ insK ky x l ↔ y = x ∨ y ∈ l := by
  induction l with
  | nil => simp [insK]
  | cons a l ih =>
    unfold insK
    split
    · simp
    · simp [ih]
      constructor
      · rintro (h | h | h)
        · exact .inr (.inl h)
        · exact .inl h
        · exact .inr (.inr h)
      · rintro (h | h | h)
        · exact .inr (.inl h)
        · exact .inl h
        · exact .inr (.inr h)
theorem len_insK {x : α} {l : List α} : (insK ky x l).length = l.length + 1 := by
  induction l with
  | nil => rfl
  | cons a l ih =>
    unfold insK
    split
    · simp
    · simp [ih]
theorem sd_insK {x : α} {l : List α} (h : Sd ky l) : Sd ky (insK ky x l) := by
  induction l with
  | nil => simp [insK, Sd]
  | cons a l ih =>
    have h' := List.pairwise_cons.1 h
    unfold insK
    split
    · rename_i hxa
      refine List.pairwise_cons.2 ⟨fun y hy => ?_, h⟩
      rcases List.mem_cons.1 hy with rfl | hy
      · exact hxa
      · have := h'.1 y hy; omega
    · rename_i hxa
      refine List.pairwise_cons.2 ⟨fun y hy => ?_, ih h'.2⟩
      rcases mem_insK.1 hy with rfl | hy
      · omega
      · exact h'.1 y hy
theorem same_insK {x : α} {l : List α} : SameBy ky (insK ky x l) (x :: l) := by
  induction l with
  | nil => exact SameBy.refl _
  | cons a l ih =>
    unfold insK
    split
    · exact SameBy.refl _
    · rename_i hxa
      refine SameBy.trans (m := a :: x :: l) ?_ ?_
      · exact SameBy.append (l := [a]) (l' := [a]) (SameBy.refl _) ih
      · exact SameBy.append (l := [a, x]) (l' := [x, a]) (SameBy.comm (X := [a]) (Y := [x]) (by simp; omega)) (SameBy.refl l)
theorem sd_srtK (l : List α) : Sd ky (srtK ky l) := by
  induction l with
  | nil => exact List.Pairwise.nil
  | cons x l ih => exact sd_insK ih
theorem same_srtK (l : List α) : SameBy ky (srtK ky l) l := by
  induction l with
  | nil => exact SameBy.refl _
  | cons x l ih => exact same_insK.trans (SameBy.append (l := [x]) (l' := [x]) (SameBy.refl _) ih)
theorem len_srtK (l : List α) : (srtK ky l).length = l.length := by
  induction l with
  | nil => rfl
  | cons x l ih => simp [srtK, len_insK, ih]
theorem srtK_of {l m : List α} (h1 : Sd ky m) (h2 : SameBy ky m l) : m = srtK ky l := same_uniq h1 (sd_srtK l) (h2.trans (same_srtK l).symm)

/-! ### blocks -/
/-- Blocks of so many, each in order; the last may be shorter. -/
inductive Bk (ky : α → Int) (bs : Nat) : List α → Prop
  | nil : Bk ky bs []
  | last {l : List α} : Sd ky l → l.length ≤ bs → Bk ky bs l
  | more {l r : List α} : Sd ky l → l.length = bs → Bk ky bs r → Bk ky bs (l ++ r)
theorem Bk.two {bs : Nat} (hb : 0 < bs) {l : List α} (h : Bk ky bs l) (hl : bs < l.length) : ∃ A B r, l = A ++ B ++ r ∧ A.length = bs ∧ Sd ky A ∧ Sd ky B ∧ 0 < B.length ∧ B.length ≤ bs ∧ (2 * bs ≤ l.length → B.length = bs) ∧ (l.length < 2 * bs → r = []) ∧ Bk ky bs r := by
  cases h with
  | nil => simp at hl
  | last h1 h2 => omega
  | more h1 h2 h3 =>
    rename_i A R
    rw [List.length_append] at hl
    cases h3 with
    | nil => simp at hl; omega
    | last h4 h5 => exact ⟨A, R, [], by simp, h2, h1, h4, by omega, h5, fun h => by rw [List.length_append] at h; omega, fun _ => rfl, .nil⟩
    | more h4 h5 h6 =>
      rename_i B r
      refine ⟨A, B, r, by simp, h2, h1, h4, by omega, by omega, fun _ => h5, fun h => ?_, h6⟩
      simp only [List.length_append] at h
      have : r.length = 0 := by omega
      exact List.length_eq_zero_iff.1 this
theorem Bk.one {bs : Nat} {l : List α} (h : Bk ky bs l) (hl : l.length ≤ bs) : Sd ky l := by
  cases h with
  | nil => exact List.Pairwise.nil
  | last h1 h2 => exact h1
  | more h1 h2 h3 =>
    rename_i A R
    rw [List.length_append] at hl
    have : R = [] := List.length_eq_zero_iff.1 (by omega)
    rw [this, List.append_nil]
    exact h1
/-- What may stand ahead of blocks. -/
def BkPre (ky : α → Int) (bs : Nat) (D : List α) : Prop := ∀ r, Bk ky bs r → Bk ky bs (D ++ r)
theorem BkPre.nil (bs : Nat) : BkPre ky bs ([] : List α) := fun r h => h
theorem BkPre.snoc {bs : Nat} {D M : List α} (h : BkPre ky bs D) (hM : Sd ky M) (hl : M.length = bs) : BkPre ky bs (D ++ M) := fun r hr => by
  rw [List.append_assoc]
  exact h _ (.more hM hl hr)
end
end Go.Proofs.Ythpilbooolgkiaa
