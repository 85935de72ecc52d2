/- The reference: Parse. -/
import Derived.Test.YthfmjiafdfoajaaDoorRf5
set_option linter.unusedVariables false
set_option linter.unusedSimpArgs false
namespace Go.Proofs.YthfmjiafdfoajaaDoor
open Go.RowKit Go.Shelf

theorem fin25 {w W : World} {g : Nat} {a b : Value} (hb : Blk W g #[a, b] 25) (hg : w.heap.size ≤ g) (hu : Upd w W Nope) (x y : Value) :
    ∃ W4, (W.setCell ⟨g, 0, none⟩ x).setCell ⟨g, 1, none⟩ y = W4 ∧ W4.cell? ⟨g, 0, none⟩ = some x ∧ W4.cell? ⟨g, 1, none⟩ = some y ∧ Upd w W4 Nope := by
  have h := (hb.set 0 x).set 1 y
  exact ⟨_, rfl, by rw [h.cell 0]; rfl, by rw [h.cell 1]; rfl, (hu.set ⟨g, 0, none⟩ x (.inr hg)).set ⟨g, 1, none⟩ y (.inr hg)⟩
theorem spl_nodot {l p : List UInt8} (h : p ∈ spl l) : ∀ b ∈ p, b ≠ 46 := by
  induction l generalizing p with
  | nil => simp [spl] at h; subst h; simp
  | cons c r ih =>
    by_cases hc : c = 46
    · subst hc
      rw [spl_dot] at h
      rcases List.mem_cons.1 h with rfl | h
      · simp
      · exact ih h
    · rw [spl_cons hc] at h
      cases hs : spl r with
      | nil => exact absurd hs (spl_ne r)
      | cons q ps =>
        rw [hs] at h
        simp only [hd1] at h
        rcases List.mem_cons.1 h with rfl | h
        · intro b hb
          rcases List.mem_cons.1 hb with rfl | hb
          · exact hc
          · exact ih (p := q) (by rw [hs]; simp) b hb
        · exact ih (p := p) (by rw [hs]; simp [h])
theorem shaped_labels (d : List UInt8) : shapedL d = labelsL d := by
  unfold shapedL labelsL
  rw [Bool.eq_iff_iff, List.all_eq_true, List.all_eq_true]
  have e : ∀ p ∈ spl d, ((domL p).2 == 0) = !badLL p := by
    intro p hp
    have hs := spl_none (spl_nodot hp)
    have hl : labelsL p = !badLL p := by unfold labelsL; rw [hs]; simp
    cases hb : badLL p with
    | true =>
      rw [hb] at hl
      unfold domL
      split
      · rfl
      · rw [hl]; rfl
    | false =>
      rw [hb] at hl
      have h63 : ¬ 255 < p.length := by
        intro h
        have : badLL p = true := by
          unfold badLL
          have : decide (63 < p.length) = true := decide_eq_true (by omega)
          rw [this]; simp
        rw [hb] at this; cases this
      unfold domL
      rw [if_neg h63, hl]
      rfl
  constructor
  · intro h p hp; rw [← e p hp]; exact h p hp
  · intro h p hp; rw [e p hp]; exact h p hp
theorem tailD_ref (lo d r : List UInt8) : tailD lo d r = if labelsL d = true then (if 64 < lo.length ∨ 255 < d.length then ⟨[], [], [], 3⟩ else ⟨lo, Lib.toLowerA d, r, 0⟩) else .no := by
  unfold tailD
  rw [shaped_labels]
  by_cases hbig : 255 < d.length
  · have e : domL d = ([], 3) := by unfold domL; rw [if_pos hbig]
    rw [e]
    cases hl : labelsL d with
    | true => rw [if_pos (.inl ⟨rfl, rfl⟩), if_pos rfl, if_pos (.inr hbig)]
    | false => rw [if_neg (by simp), if_pos (by simp), if_neg (by simp)]
  · cases hl : labelsL d with
    | true =>
      have e : domL d = (Lib.toLowerA d, 0) := by unfold domL; rw [if_neg hbig, if_pos hl]
      rw [e, if_pos rfl]
      by_cases h64 : 64 < lo.length
      · rw [if_pos (.inr ⟨rfl, h64⟩), if_pos (.inl h64)]
      · rw [if_neg (by simp [h64]), if_neg (by simp), if_neg (by omega)]
    | false =>
      have e : domL d = ([], 2) := by unfold domL; rw [if_neg hbig, hl]; rfl
      rw [e, if_neg (by simp), if_pos (by simp), if_neg (by simp)]
/- Bytes behind a place. -/
theorem drop_at {s : ByteArray} {k j : Nat} (h : j < s.size) (hj : k ≤ j) : (s.data.toList.drop k)[j - k]? = some s[j] := by
  rw [List.getElem?_drop, show k + (j - k) = j by omega, idx_eq s j h]
theorem drop_no {s : ByteArray} {k : Nat} {c : UInt8} (hno : ∀ b ∈ s.data.toList.drop k, b ≠ c) {j : Nat} (h : j < s.size) (hj : k ≤ j) : s[j] ≠ c :=
  hno _ (List.mem_of_getElem? (drop_at h hj))
theorem drop_mid {s : ByteArray} {k : Nat} {a r : List UInt8} {c : UInt8} (hl : s.data.toList.drop k = a ++ c :: r) : s.data.toList.getD (k + a.length) 0 = c := by
  have : (s.data.toList.drop k)[a.length]? = some c := by rw [hl]; simp
  rw [List.getElem?_drop] at this
  rw [List.getD, this]
  rfl
theorem drop_pre {s : ByteArray} {k : Nat} {a r : List UInt8} {c c' : UInt8} (hl : s.data.toList.drop k = a ++ c :: r) (hna : ∀ b ∈ a, b ≠ c') {j : Nat} (h : j < s.size) (hj : k ≤ j) (hj2 : j < k + a.length) : s[j] ≠ c' := by
  have := drop_at h hj
  rw [hl, List.getElem?_append_left (by omega)] at this
  exact hna _ (List.mem_of_getElem? this)
theorem drop_head {s : ByteArray} {k : Nat} {r : List UInt8} {c : UInt8} (hl : s.data.toList.drop k = c :: r) : s.data.toList.getD k 0 = c := by
  have := drop_mid (a := []) (c := c) (r := r) hl
  simpa using this
theorem drop_next {s : ByteArray} {k : Nat} {r : List UInt8} {c : UInt8} (hl : s.data.toList.drop k = c :: r) : s.data.toList.drop (k + 1) = r := by
  have : (s.data.toList.drop k).drop 1 = r := by rw [hl]; rfl
  rwa [List.drop_drop] at this
theorem drop_behind {s : ByteArray} {k : Nat} {a r : List UInt8} {c : UInt8} (hl : s.data.toList.drop k = a ++ c :: r) : s.data.toList.drop (k + a.length + 1) = r := by
  have : (s.data.toList.drop k).drop (a.length + 1) = r := by
    rw [hl, show a ++ c :: r = (a ++ [c]) ++ r by simp]
    exact List.drop_left' (by simp)
  rwa [List.drop_drop] at this
end Go.Proofs.YthfmjiafdfoajaaDoor
