/- The frames' plain laws: what scanning tells of printed, cut and turned bytes. -/
import Derived.Test.YtaipepioomkgpaaScan
import Derived.Test.YtaipepioomkgpaaCrc
set_option linter.unusedVariables false
set_option linter.unusedSimpArgs false
namespace Go.Proofs.Ytaipepioomkgpaa

theorem le2_lenOf (t : List UInt8) (h : 2 ≤ t.length) : le2 (lenOf t) = t.take 2 := by
  match t, h with
  | a :: b :: t, _ =>
    have b0 := a.toNat_lt
    have b1 := b.toNat_lt
    simp only [le2, lenOf, List.getD_cons_zero, List.getD_cons_succ, List.take_succ_cons, List.take_zero]
    congr 1
    · apply UInt8.toNat.inj; simp
    · congr 1; apply UInt8.toNat.inj; simp; omega
theorem lenOf_le2 (n : Nat) (h : n < 65536) (x : List UInt8) : lenOf (le2 n ++ x) = n := by
  simp [le2, lenOf]
  omega
theorem le4_inj {a b : Nat} (ha : a < 4294967296) (hb : b < 4294967296) (h : le4 a = le4 b) : a = b := by
  simp only [le4, List.cons.injEq, and_true] at h
  have h0 := congrArg UInt8.toNat h.1
  have h1 := congrArg UInt8.toNat h.2.1
  have h2 := congrArg UInt8.toNat h.2.2.1
  have h3 := congrArg UInt8.toNat h.2.2.2
  simp at h0 h1 h2 h3
  omega

/-- A record that the two bytes can tell. -/
theorem front_frame (r t : List UInt8) (h : r.length ≤ 65535) : frontOf (frameOf r ++ t) = some r.length := by
  have hl : lenOf (frameOf r ++ t) = r.length := by
    unfold frameOf
    simp only [List.append_assoc]
    exact lenOf_le2 _ (by omega) _
  have hlen := frameOf_length r
  unfold frontOf
  rw [if_neg (by simp; omega), hl]
  have e1 : (frameOf r ++ t).take 2 = le2 r.length := by
    rw [← le2_lenOf _ (by simp; omega), hl]
  have hh : headOk (frameOf r ++ t) = true := by
    unfold headOk
    rw [e1]
    simp [frameOf, le2, le4]
  have e6 : (frameOf r ++ t).drop 6 = r ++ le4 (crcOf r) ++ t := by simp [frameOf, le2, le4]
  have hb : bodyOk (frameOf r ++ t) = true := by
    unfold bodyOk
    rw [hl, ← List.drop_drop, e6]
    simp [le4]
  rw [if_neg (by simp [hh]), if_neg (by simp; omega), if_neg (by simp [hb])]
theorem scan_frame (r t : List UInt8) (h : r.length ≤ 65535) : scanL (frameOf r ++ t) = (r :: (scanL t).1, r.length + 10 + (scanL t).2) := by
  have hlen := frameOf_length r
  rw [scanL_some (front_frame r t h)]
  have e6 : ((frameOf r ++ t).drop 6).take r.length = r := by simp [frameOf, le2, le4]
  have e10 : (frameOf r ++ t).drop (r.length + 10) = t := by rw [← hlen]; simp
  rw [e6, e10]
theorem scan_frames (l : List ByteArray) (t : List UInt8) (h : fitsAll l) : strs (scanL (framesOf l ++ t)).1 = l ++ strs (scanL t).1 ∧ (scanL (framesOf l ++ t)).2 = (framesOf l).length + (scanL t).2 := by
  induction l with
  | nil => simp [framesOf]
  | cons x l ih =>
    have hx : x.size ≤ 65535 := h x (by simp)
    obtain ⟨i1, i2⟩ := ih (fun y hy => h y (by simp [hy]))
    have e : framesOf (x :: l) ++ t = frameOf x.data.toList ++ (framesOf l ++ t) := by simp [framesOf]
    have hl : (framesOf (x :: l)).length = (frameOf x.data.toList).length + (framesOf l).length := by simp [framesOf]
    rw [e, scan_frame _ _ (by simpa using hx), hl, frameOf_length]
    refine ⟨?_, by omega⟩
    show (⟨x.data.toList.toArray⟩ : ByteArray) :: strs (scanL (framesOf l ++ t)).1 = _
    rw [i1]
    simp

/-- What stands at the front as a frame is the frame of its record. -/
theorem front_take {t : List UInt8} {n : Nat} (h : frontOf t = some n) : t.take (n + 10) = frameOf ((t.drop 6).take n) ∧ n < 65536 := by
  obtain ⟨h1, h2, rfl, h4, h5⟩ := frontOf_some h
  refine ⟨?_, lenOf_lt t⟩
  have hn : ((t.drop 6).take (lenOf t)).length = lenOf t := by simp; omega
  unfold frameOf
  rw [hn, le2_lenOf t (by omega)]
  unfold headOk at h2
  unfold bodyOk at h5
  rw [eq_of_beq h2, eq_of_beq h5]
  generalize lenOf t = n
  have a1 : t.take (n + 10) = t.take (6 + n) ++ (t.drop (6 + n)).take 4 := by rw [← List.take_add]; congr 1; omega
  have a2 : t.take (6 + n) = t.take 6 ++ (t.drop 6).take n := by rw [← List.take_add]
  have a3 : t.take 6 = t.take 2 ++ (t.drop 2).take 4 := by rw [← List.take_add]
  rw [a1, a2, a3]
theorem front_of_take {t : List UInt8} (h1 : 10 ≤ t.length) (h2 : lenOf t + 10 ≤ t.length) (h : t.take (lenOf t + 10) = frameOf ((t.drop 6).take (lenOf t))) : frontOf t = some (lenOf t) := by
  have e : t = frameOf ((t.drop 6).take (lenOf t)) ++ t.drop (lenOf t + 10) := by rw [← h, List.take_append_drop]
  have hl : ((t.drop 6).take (lenOf t)).length = lenOf t := by simp; omega
  have := front_frame ((t.drop 6).take (lenOf t)) (t.drop (lenOf t + 10)) (by have := lenOf_lt t; omega)
  rw [← e, hl] at this
  exact this

/-- What is scanned, printed, is the front of what was scanned. -/
theorem scan_back (t : List UInt8) : framesOf (strs (scanL t).1) = t.take (scanL t).2 ∧ fitsAll (strs (scanL t).1) ∧ (scanL t).2 ≤ t.length := by
  induction hn : t.length using Nat.strongRecOn generalizing t with
  | _ n ih =>
    cases hf : frontOf t with
    | none => rw [scanL_none hf]; simp [strs, framesOf, fitsAll]
    | some k =>
      obtain ⟨f1, f2, f3, f4, f5⟩ := frontOf_some hf
      obtain ⟨e1, e2⟩ := front_take hf
      rw [scanL_some hf]
      obtain ⟨i1, i2, i3⟩ := ih (t.drop (k + 10)).length (by simp; omega) (t.drop (k + 10)) rfl
      have hl : ((t.drop 6).take k).length = k := by simp; omega
      refine ⟨?_, ?_, by simp at i3 ⊢; omega⟩
      · show frameOf ((t.drop 6).take k) ++ framesOf (strs (scanL (t.drop (k + 10))).1) = _
        rw [i1, ← e1, ← List.take_add]
      · intro x hx
        simp only [strs, List.map_cons, List.mem_cons] at hx
        rcases hx with rfl | hx
        · show ((t.drop 6).take k).toArray.size ≤ 65535
          rw [List.size_toArray, hl]; omega
        · exact i2 x hx
theorem scan_len (t : List UInt8) : total (strs (scanL t).1) + 10 * (scanL t).1.length = (scanL t).2 := by
  obtain ⟨h1, h2, h3⟩ := scan_back t
  have := framesOf_length (strs (scanL t).1)
  rw [h1, List.length_take] at this
  have e : (strs (scanL t).1).length = (scanL t).1.length := by simp [strs]
  rw [e] at this
  omega

/-- A front of a frame that is not whole is none. -/
theorem front_cut (r : List UInt8) (c : Nat) (h : r.length ≤ 65535) (hc : c < r.length + 10) : frontOf ((frameOf r).take c) = none := by
  have hlen := frameOf_length r
  unfold frontOf
  split
  · rfl
  · rename_i h10
    simp at h10
    have hl : lenOf ((frameOf r).take c) = r.length := by
      unfold frameOf
      rw [List.append_assoc, List.append_assoc, List.take_append]
      have : (le2 r.length).take c = le2 r.length := List.take_of_length_le (by rw [le2_length]; omega)
      rw [this]
      exact lenOf_le2 _ (by omega) _
    split
    · rfl
    · rw [hl, if_pos (by simp; omega)]

/-- One byte of a list, turned. -/
def turnAt (l : List UInt8) (i : Nat) (t : UInt8) : List UInt8 := l.modify i (· ^^^ t)
theorem turn_ne {b t : UInt8} (h : t ≠ 0) : b ≠ b ^^^ t := by
  intro e
  apply h
  have h2 : b.toNat = b.toNat ^^^ t.toNat := by rw [← UInt8.toNat_xor, ← e]
  have h3 : b.toNat ^^^ t.toNat = b.toNat ^^^ 0 := by rw [← h2, Nat.xor_zero]
  have h4 : t.toNat ^^^ b.toNat = 0 ^^^ b.toNat := by rw [Nat.xor_comm, h3, Nat.xor_comm]
  exact UInt8.toNat.inj (xor_cancel_right h4)
theorem turnAt_length (l : List UInt8) (i : Nat) (t : UInt8) : (turnAt l i t).length = l.length := by simp [turnAt]
theorem turnAt_left (a c : List UInt8) (i : Nat) (t : UInt8) (h : i < a.length) : turnAt (a ++ c) i t = turnAt a i t ++ c := by
  unfold turnAt
  induction a generalizing i with
  | nil => simp at h
  | cons x a ih =>
    cases i with
    | zero => simp
    | succ i => simp at h ⊢; exact ih i h
theorem turnAt_right (a c : List UInt8) (i : Nat) (t : UInt8) (h : a.length ≤ i) : turnAt (a ++ c) i t = a ++ turnAt c (i - a.length) t := by
  unfold turnAt
  induction a generalizing i with
  | nil => simp
  | cons x a ih =>
    cases i with
    | zero => simp at h
    | succ i => simp at h ⊢; exact ih i h
theorem turnAt_cat (a c : List UInt8) (b t : UInt8) : turnAt (a ++ b :: c) a.length t = a ++ (b ^^^ t) :: c := by
  rw [turnAt_right _ _ _ _ (Nat.le_refl _), Nat.sub_self]
  simp [turnAt]
theorem turnAt_ne (l : List UInt8) (i : Nat) (t : UInt8) (h : i < l.length) (ht : t ≠ 0) : turnAt l i t ≠ l := by
  intro e
  have : (turnAt l i t)[i]? = l[i]? := by rw [e]
  simp [turnAt, List.getElem?_modify, h] at this
  exact turn_ne ht this.symm
theorem crc_turn (l : List UInt8) (i : Nat) (t : UInt8) (h : i < l.length) (ht : t ≠ 0) : crcOf (turnAt l i t) ≠ crcOf l := by
  have e : l = l.take i ++ l[i] :: l.drop (i + 1) := by simp
  have hl : (l.take i).length = i := by simp; omega
  have e2 : turnAt l i t = l.take i ++ (l[i] ^^^ t) :: l.drop (i + 1) := by
    conv => lhs; rw [e]
    have := turnAt_cat (l.take i) (l.drop (i + 1)) l[i] t
    rw [hl] at this
    exact this
  rw [e2]
  conv => rhs; rw [e]
  exact (crc_byte _ _ (turn_ne ht)).symm
/-- With one byte turned, what stands at the front is no frame. -/
theorem front_turn (r c : List UInt8) (i : Nat) (t : UInt8) (h : r.length ≤ 65535) (hi : i < r.length + 10) (ht : t ≠ 0) : frontOf (turnAt (frameOf r) i t ++ c) = none := by
  have hlen := frameOf_length r
  unfold frontOf
  rw [if_neg (by simp [turnAt_length]; omega)]
  have hcl : ∀ x, le4 x = le4 (crcOf r) ∨ True := fun _ => .inr trivial
  by_cases h2 : i < 2
  · have e : turnAt (frameOf r) i t ++ c = turnAt (le2 r.length) i t ++ (le4 (crcOf (le2 r.length)) ++ (r ++ (le4 (crcOf r) ++ c))) := by
      unfold frameOf
      rw [List.append_assoc, List.append_assoc, turnAt_left _ _ _ _ (by rw [le2_length]; omega)]
      simp
    rw [if_pos]
    rw [e]
    unfold headOk
    have hk : (turnAt (le2 r.length) i t).length = 2 := by rw [turnAt_length]; rfl
    rw [List.take_append_of_le_length (by omega), List.take_of_length_le (by omega), List.drop_append_of_le_length (by omega), List.drop_of_length_le (by omega)]
    have hne := crc_turn (le2 r.length) i t (by rw [le2_length]; omega) ht
    simp only [List.nil_append, beq_eq_false_iff_ne, ne_eq]
    intro e2
    exact hne (le4_inj (crcOf_lt _) (crcOf_lt _) (e2.trans (by simp [le4])))
  · by_cases h6 : i < 6
    · have e : turnAt (frameOf r) i t ++ c = le2 r.length ++ (turnAt (le4 (crcOf (le2 r.length))) (i - 2) t ++ (r ++ (le4 (crcOf r) ++ c))) := by
        unfold frameOf
        rw [List.append_assoc, List.append_assoc, turnAt_right _ _ _ _ (by rw [le2_length]; omega), turnAt_left _ _ _ _ (by rw [le2_length, le4_length]; omega)]
        simp [le2_length]
      rw [if_pos]
      rw [e]
      unfold headOk
      have hk : (turnAt (le4 (crcOf (le2 r.length))) (i - 2) t).length = 4 := by rw [turnAt_length]; rfl
      have e1 : (le2 r.length ++ (turnAt (le4 (crcOf (le2 r.length))) (i - 2) t ++ (r ++ (le4 (crcOf r) ++ c)))).take 2 = le2 r.length := by simp [le2]
      have e3 : ((le2 r.length ++ (turnAt (le4 (crcOf (le2 r.length))) (i - 2) t ++ (r ++ (le4 (crcOf r) ++ c)))).drop 2).take 4 = turnAt (le4 (crcOf (le2 r.length))) (i - 2) t := by
        have : ∀ x, (le2 r.length ++ x).drop 2 = x := fun x => by simp [le2]
        rw [this, List.take_append_of_le_length (by omega), List.take_of_length_le (by omega)]
      rw [e1, e3]
      simp only [beq_eq_false_iff_ne, ne_eq]
      intro e2
      exact turnAt_ne (le4 (crcOf (le2 r.length))) (i - 2) t (by rw [le4_length]; omega) ht e2.symm
    · skip
      have e : turnAt (frameOf r) i t ++ c = le2 r.length ++ le4 (crcOf (le2 r.length)) ++ (turnAt (r ++ le4 (crcOf r)) (i - 6) t ++ c) := by
        unfold frameOf
        rw [List.append_assoc (le2 r.length ++ le4 (crcOf (le2 r.length))), turnAt_right _ _ _ _ (by rw [List.length_append, le2_length, le4_length]; omega), List.length_append, le2_length, le4_length]
        simp
      have hl : lenOf (turnAt (frameOf r) i t ++ c) = r.length := by rw [e, List.append_assoc]; exact lenOf_le2 _ (by omega) _
      split
      · rfl
      · rw [hl]
        split
        · rfl
        · rw [if_pos]
          unfold bodyOk
          rw [hl, ← List.drop_drop, e]
          have e6 : ∀ x, (le2 r.length ++ le4 (crcOf (le2 r.length)) ++ x).drop 6 = x := fun x => by simp [le2, le4]
          rw [e6]
          simp only [beq_eq_false_iff_ne, ne_eq]
          intro e2
          by_cases hr : i - 6 < r.length
          · rw [turnAt_left _ _ _ _ hr, List.append_assoc] at e2
            have hk : (turnAt r (i - 6) t).length = r.length := turnAt_length ..
            rw [List.take_append_of_le_length (by omega), List.take_of_length_le (by omega), List.drop_append_of_le_length (by omega), List.drop_of_length_le (by omega)] at e2
            exact crc_turn r (i - 6) t hr ht (le4_inj (crcOf_lt _) (crcOf_lt _) (e2.trans (by simp [le4])))
          · rw [turnAt_right _ _ _ _ (by omega), List.append_assoc] at e2
            have hk : (turnAt (le4 (crcOf r)) (i - 6 - r.length) t).length = 4 := by rw [turnAt_length]; rfl
            rw [List.take_append_of_le_length (by omega), List.take_of_length_le (by omega), List.drop_append_of_le_length (by omega), List.drop_of_length_le (by omega), List.nil_append, List.take_append_of_le_length (by omega), List.take_of_length_le (by omega)] at e2
            exact turnAt_ne (le4 (crcOf r)) (i - 6 - r.length) t (by rw [le4_length]; omega) ht e2.symm
end Go.Proofs.Ytaipepioomkgpaa
