/- The plain law of layer 1: lines that are cut out of bytes, texts as data, in plain Lean with no program in sight. -/
import Derived.Lib.IndexMore
set_option linter.unusedVariables false
set_option linter.unusedSimpArgs false
namespace Go.Proofs.Ytomfblnflobonaa
open Go.Lib

def plainL (s : List UInt8) : Bool := s.all fun b => !(b == 0 || b == 10 || b == 13)
def isEnd (cur : List UInt8) (b : UInt8) : Bool := cur.getLast? == some 13 && b == 10
/-- The lines, their ends among them, of bytes that come behind 'cur'; what is behind them. -/
def cuts : List UInt8 → List UInt8 → List (List UInt8) × List UInt8
  | cur, [] => ([], cur)
  | cur, b :: s => if isEnd cur b then ((cur ++ [b]) :: (cuts [] s).1, (cuts [] s).2) else cuts (cur ++ [b]) s
def body (x : List UInt8) : List UInt8 := x.take (x.length - 2)
def lineOf (most : Nat) (x : List UInt8) : List UInt8 × Nat := if most < x.length then ([], 3) else if plainL (body x) then (body x, 0) else ([], 2)

theorem cuts_append (s t : List UInt8) : ∀ cur, cuts cur (s ++ t) = ((cuts cur s).1 ++ (cuts (cuts cur s).2 t).1, (cuts (cuts cur s).2 t).2) := by
  induction s with
  | nil => intro cur; simp [cuts]
  | cons b s ih =>
    intro cur
    simp only [List.cons_append, cuts]
    split
    · rw [ih]; simp
    · rw [ih]
theorem cuts_flat (s : List UInt8) : ∀ cur, (cuts cur s).1.flatten ++ (cuts cur s).2 = cur ++ s := by
  induction s with
  | nil => intro cur; simp [cuts]
  | cons b s ih =>
    intro cur
    simp only [cuts]
    split
    · simp [ih []]
    · rw [ih]; simp
theorem cuts_len (s cur : List UInt8) : (cuts cur s).2.length ≤ cur.length + s.length := by
  have h := congrArg List.length (cuts_flat s cur)
  simp at h
  omega
theorem cuts_count (s : List UInt8) : ∀ cur, (cuts cur s).1.length ≤ s.length := by
  induction s with
  | nil => intro cur; simp [cuts]
  | cons b s ih =>
    intro cur
    simp only [cuts]
    split
    · have := ih []; simp; omega
    · have := ih (cur ++ [b]); simp; omega
theorem cuts_one_no {cur : List UInt8} {b : UInt8} (h : isEnd cur b = false) : cuts cur [b] = ([], cur ++ [b]) := by simp [cuts, h]
theorem cuts_one_yes {cur : List UInt8} {b : UInt8} (h : isEnd cur b = true) : cuts cur [b] = ([cur ++ [b]], []) := by simp [cuts, h]

/-- No end of a line stands in it. -/
def NoEnd (s : List UInt8) : Prop := ∀ j : Nat, ¬ (s[j]? = some 13 ∧ s[j + 1]? = some 10)
theorem NoEnd.nil : NoEnd [] := by intro j; simp
theorem NoEnd.snoc {s : List UInt8} {b : UInt8} (h : NoEnd s) (hb : isEnd s b = false) : NoEnd (s ++ [b]) := by
  intro j ⟨h1, h2⟩
  by_cases hj : j + 1 < s.length
  · rw [List.getElem?_append_left (by omega)] at h1
    rw [List.getElem?_append_left hj] at h2
    exact h j ⟨h1, h2⟩
  · have hlt : j + 1 < (s ++ [b]).length := (List.getElem?_eq_some_iff.1 h2).1
    simp at hlt
    have hj' : j + 1 = s.length := by omega
    rw [List.getElem?_append_left (by omega)] at h1
    have e : s.getLast? = some 13 := by rw [List.getLast?_eq_getElem?]; rw [show s.length - 1 = j by omega]; exact h1
    have e2 : b = 10 := by
      rw [List.getElem?_append_right (by omega), show j + 1 - s.length = 0 by omega] at h2
      simpa using h2
    simp [isEnd, e, e2] at hb
/-- What the first line is, and what is behind it. -/
theorem cuts_first (s : List UInt8) : ∀ cur, NoEnd cur → (match (cuts cur s).1 with
    | [] => NoEnd (cur ++ s) ∧ (cuts cur s).2 = cur ++ s
    | x :: more => ∃ t s', x = t ++ [13, 10] ∧ NoEnd (t ++ [13]) ∧ cur ++ s = x ++ s' ∧ cuts [] s' = (more, (cuts cur s).2)) := by
  induction s with
  | nil => intro cur h; simp [cuts, h]
  | cons b s ih =>
    intro cur h
    simp only [cuts]
    by_cases hb : isEnd cur b
    · simp only [hb, if_true]
      have hb' := hb
      simp only [isEnd, Bool.and_eq_true, beq_iff_eq] at hb'
      obtain ⟨h1, rfl⟩ := hb'
      obtain ⟨t, rfl⟩ := List.getLast?_eq_some_iff.1 h1
      exact ⟨t, s, by simp, h, by simp, rfl⟩
    · simp only [hb]
      have := ih (cur ++ [b]) (h.snoc (by simpa using hb))
      simpa using this

theorem occ_two (s : List UInt8) (j : Nat) : occAt s [13, 10] j = true ↔ (s[j]? = some 13 ∧ s[j + 1]? = some 10) := by
  unfold occAt
  have h1 : (s.drop j)[0]? = s[j]? := by rw [List.getElem?_drop]; simp
  have h2 : (s.drop j)[1]? = s[j + 1]? := by rw [List.getElem?_drop]
  rw [← h1, ← h2]
  cases hd : s.drop j with
  | nil => simp [List.isPrefixOf]
  | cons a l =>
    cases l with
    | nil => simp [List.isPrefixOf]
    | cons c l =>
      simp [List.isPrefixOf]
      constructor
      · rintro ⟨rfl, rfl⟩; exact ⟨rfl, rfl⟩
      · rintro ⟨rfl, rfl⟩; exact ⟨rfl, rfl⟩
theorem occ_false {s : List UInt8} {j : Nat} (h : ¬ (s[j]? = some 13 ∧ s[j + 1]? = some 10)) : occAt s [13, 10] j = false := by
  cases hc : occAt s [13, 10] j
  · rfl
  · exact absurd ((occ_two s j).1 hc) h
theorem index_noEnd {s : List UInt8} (h : NoEnd s) : index s [13, 10] = -1 := index_none fun j _ => occ_false (h j)
theorem cut_none {s : List UInt8} (h : NoEnd s) : cut s [13, 10] = (s, [], false) := by simp [cut, index_noEnd h]
theorem index_end {t r : List UInt8} (h : NoEnd (t ++ [13])) : index (t ++ [13, 10] ++ r) [13, 10] = t.length := by
  refine index_first (by simp) ((occ_two _ _).2 ⟨by simp, by simp⟩) (fun j hj => occ_false fun ⟨h1, h2⟩ => h j ⟨?_, ?_⟩)
  · rw [← h1]
    simp [List.getElem?_append]
    rw [if_pos hj, if_pos hj]
  · rw [← h2]
    simp [List.getElem?_append]
    by_cases hq : j + 1 < t.length
    · rw [if_pos hq, if_pos hq]
    · have hj' : j + 1 = t.length := by omega
      rw [hj']
      simp
theorem cut_some {t r : List UInt8} (h : NoEnd (t ++ [13])) : cut (t ++ [13, 10] ++ r) [13, 10] = (t, r, true) := by
  unfold cut
  rw [index_end h, if_pos (by omega)]
  simp

theorem body_end (t : List UInt8) : body (t ++ [13, 10]) = t := by simp [body]
/-- The first cut, as strings.Cut tells it. -/
theorem cut_of_nil {s : List UInt8} (h : (cuts [] s).1 = []) : cut s [13, 10] = (s, [], false) ∧ (cuts [] s).2 = s := by
  have := cuts_first s [] NoEnd.nil
  rw [h] at this
  exact ⟨cut_none (by simpa using this.1), by simpa using this.2⟩
theorem cut_of_cons {s x : List UInt8} {more : List (List UInt8)} (h : (cuts [] s).1 = x :: more) :
    x = body x ++ [13, 10] ∧ ∃ s', s = x ++ s' ∧ cut s [13, 10] = (body x, s', true) ∧ (cuts [] s').1 = more ∧ (cuts [] s').2 = (cuts [] s).2 := by
  have := cuts_first s [] NoEnd.nil
  rw [h] at this
  obtain ⟨t, s', rfl, h1, h2, h3⟩ := this
  rw [List.nil_append] at h2
  rw [body_end]
  exact ⟨rfl, s', h2, by rw [h2]; exact cut_some h1, by rw [h3], by rw [h3]⟩
theorem cuts_ends (s : List UInt8) : ∀ x ∈ (cuts [] s).1, x = body x ++ [13, 10] := by
  generalize hn : (cuts [] s).1.length = n
  induction n generalizing s with
  | zero =>
    intro x hx
    rw [List.length_eq_zero_iff.1 hn] at hx
    cases hx
  | succ n ih =>
    cases h : (cuts [] s).1 with
    | nil => simp
    | cons x more =>
      obtain ⟨h1, s', h2, h3, h4, h5⟩ := cut_of_cons h
      intro y hy
      rcases List.mem_cons.1 hy with rfl | hy
      · exact h1
      · exact ih s' (by rw [h4]; rw [h] at hn; simpa using hn) y (by rw [h4]; exact hy)

/-- What stands ahead of the line '.', of data. -/
def ahead : List (List UInt8) → Option (List (List UInt8))
  | [] => none
  | x :: m => if body x = [46] then some [] else (ahead m).map (x :: ·)
def undot (t : List UInt8) : List UInt8 := if t.head? = some 46 then t.tail else t
def dotted (t : List UInt8) : List UInt8 := if t.head? = some 46 then 46 :: t else t
/-- Undata: the texts, what is behind, the code. -/
def undata (s : List UInt8) : List (List UInt8) × List UInt8 × Nat :=
  match ahead (cuts [] s).1 with
  | none => ([], [], 12)
  | some h => if h.all (fun x => plainL (body x)) then (if h.any (fun x => decide (999 < (body x).length)) then ([], [], 3) else (h.map (fun x => undot (body x)), s.drop (h.flatten.length + 3), 0)) else ([], [], 2)
def dataL (l : List (List UInt8)) : List UInt8 := (l.map fun t => dotted t ++ [13, 10]).flatten
def data (l : List (List UInt8)) : List UInt8 × Nat :=
  if l.all plainL then (if l.any (fun t => decide (998 < t.length)) then ([], 3) else (dataL l ++ [46, 13, 10], 0)) else ([], 2)

theorem plain_not {t : List UInt8} (h : plainL t = true) (cur : List UInt8) : cuts cur t = ([], cur ++ t) := by
  induction t generalizing cur with
  | nil => simp [cuts]
  | cons b t ih =>
    simp only [plainL, List.all_cons, Bool.and_eq_true] at h
    have hb : isEnd cur b = false := by
      have := h.1
      simp only [isEnd]
      simp at this
      simp [this]
    simp only [cuts, hb]
    rw [show (if false = true then ((cur ++ [b]) :: (cuts [] t).1, (cuts [] t).2) else cuts (cur ++ [b]) t) = cuts (cur ++ [b]) t by simp]
    rw [ih (by simpa [plainL] using h.2)]
    simp
theorem cuts_crlf {cur : List UInt8} (h : isEnd cur 13 = false) : cuts cur [13, 10] = ([cur ++ [13, 10]], []) := by
  simp only [cuts, h]
  have : isEnd (cur ++ [13]) 10 = true := by simp [isEnd]
  simp [this]
theorem isEnd_cr (cur : List UInt8) : isEnd cur 13 = false := by simp [isEnd]
theorem cuts_plain {t : List UInt8} (h : plainL t = true) (r : List UInt8) : cuts [] (t ++ [13, 10] ++ r) = ((t ++ [13, 10]) :: (cuts [] r).1, (cuts [] r).2) := by
  rw [cuts_append, cuts_append, plain_not h]
  simp only [List.nil_append]
  rw [cuts_crlf (isEnd_cr t)]
  simp
theorem plain_dotted {t : List UInt8} (h : plainL t = true) : plainL (dotted t) = true := by
  unfold dotted
  split
  · simp only [plainL, List.all_cons] at h ⊢
    rw [h]
    decide
  · exact h
theorem dotted_ne (t : List UInt8) : dotted t ≠ [46] := by
  unfold dotted
  split
  · rename_i h
    intro e
    injection e with _ e
    subst e
    simp at h
  · rename_i h
    intro e
    subst e
    simp at h
theorem undot_dotted (t : List UInt8) : undot (dotted t) = t := by
  unfold dotted
  split
  · simp [undot]
  · rename_i h
    simp [undot, h]
theorem dotted_len (t : List UInt8) : (dotted t).length ≤ t.length + 1 := by unfold dotted; split <;> simp
theorem cuts_data {l : List (List UInt8)} (h : l.all plainL = true) (r : List UInt8) :
    cuts [] (dataL l ++ r) = ((l.map fun t => dotted t ++ [13, 10]) ++ (cuts [] r).1, (cuts [] r).2) := by
  induction l with
  | nil => simp [dataL]
  | cons t l ih =>
    simp only [List.all_cons, Bool.and_eq_true] at h
    have e : dataL (t :: l) ++ r = dotted t ++ [13, 10] ++ (dataL l ++ r) := by simp [dataL]
    rw [e, cuts_plain (plain_dotted h.1), ih h.2]
    simp
theorem cuts_dot (r : List UInt8) : cuts [] ([46, 13, 10] ++ r) = ([46, 13, 10] :: (cuts [] r).1, (cuts [] r).2) :=
  cuts_plain (t := [46]) (by decide) r
theorem ahead_data (l : List (List UInt8)) (m : List (List UInt8)) : ahead ((l.map fun t => dotted t ++ [13, 10]) ++ [46, 13, 10] :: m) = some (l.map fun t => dotted t ++ [13, 10]) := by
  induction l with
  | nil => simp [ahead, body]
  | cons t l ih =>
    simp only [List.map_cons, List.cons_append, ahead]
    rw [body_end, if_neg (dotted_ne t), ih]
    simp
/-- What was laid is read. -/
theorem data_back {l : List (List UInt8)} {s : List UInt8} (h : data l = (s, 0)) (r : List UInt8) :
    undata (s ++ r) = (l, r, 0) ∧ cuts [] s = ((l.map fun t => dotted t ++ [13, 10]) ++ [[46, 13, 10]], []) ∧ l.all plainL = true ∧ ∀ t ∈ l, t.length ≤ 998 := by
  unfold data at h
  split at h
  case isFalse => simp at h
  rename_i h1
  split at h
  case isTrue => simp at h
  rename_i h2
  injection h with h _
  subst h
  have h3 : ∀ t ∈ l, t.length ≤ 998 := by
    intro t ht
    simp only [List.any_eq_true, not_exists, not_and, decide_eq_true_eq] at h2
    have := h2 t ht
    omega
  have hc : ∀ r, cuts [] (dataL l ++ [46, 13, 10] ++ r) = ((l.map fun t => dotted t ++ [13, 10]) ++ ([46, 13, 10] :: (cuts [] r).1), (cuts [] r).2) := by
    intro r
    rw [List.append_assoc, cuts_data h1, cuts_dot]
  refine ⟨?_, ?_, h1, h3⟩
  · unfold undata
    rw [hc]
    simp only [ahead_data]
    rw [if_pos, if_neg]
    · have e : (l.map fun t => dotted t ++ [13, 10]).flatten = dataL l := rfl
      rw [e]
      simp only [List.map_map]
      have e2 : (l.map ((fun x => undot (body x)) ∘ fun t => dotted t ++ [13, 10])) = l := by
        conv => rhs; rw [← List.map_id l]
        apply List.map_congr_left
        intro t _
        simp only [Function.comp, body_end, undot_dotted, id]
      rw [e2]
      simp [List.drop_append]
    · simp only [List.any_eq_true, not_exists, not_and, decide_eq_true_eq, List.mem_map]
      rintro x ⟨t, ht, rfl⟩
      rw [body_end]
      have := h3 t ht
      have := dotted_len t
      omega
    · rw [List.all_eq_true]
      intro x hx
      obtain ⟨t, ht, rfl⟩ := List.mem_map.1 hx
      rw [body_end]
      exact plain_dotted (List.all_eq_true.1 h1 t ht)
  · have := hc []
    rw [List.append_nil] at this
    rw [this]
    simp [cuts]
end Go.Proofs.Ytomfblnflobonaa
