/- path.Right. -/
import Derived.Test.YthfmjiafdfoajaaDoorShp
set_option linter.unusedVariables false
set_option linter.unusedSimpArgs false
namespace Go.Proofs.YthfmjiafdfoajaaDoor
open Go.RowKit Go.Shelf

def outP (b : UInt8) : Bool := decide (b.toNat < 32) || decide (126 < b.toNat)
def rightD (lo dom dd : ByteArray) (de : Nat) : Nat :=
  if 64 < lo.size ∨ 255 < dom.size then 3
  else if dom.toList = [] ∧ (lo.toList = [] ∨ lo.toList = [112, 111, 115, 116, 109, 97, 115, 116, 101, 114]) then 0
  else if de ≠ 0 ∨ dd.toList ≠ dom.toList ∨ lo.toList = [] then 2
  else if lo.data.toList.any outP then 2 else 0
theorem rightD_2 {lo dom dd : ByteArray} {de : Nat} (h : lo.size ≤ 64 ∧ dom.size ≤ 255) (h1 : ¬ (dom.toList = [] ∧ (lo.toList = [] ∨ lo.toList = [112, 111, 115, 116, 109, 97, 115, 116, 101, 114]))) (h2 : de ≠ 0 ∨ dd.toList ≠ dom.toList ∨ lo.toList = []) : rightD lo dom dd de = 2 := by
  unfold rightD; rw [if_neg (by omega), if_neg h1, if_pos h2]
theorem rightD_0 {lo dom dd : ByteArray} {de : Nat} (h : lo.size ≤ 64 ∧ dom.size ≤ 255) (h1 : (dom.toList = [] ∧ (lo.toList = [] ∨ lo.toList = [112, 111, 115, 116, 109, 97, 115, 116, 101, 114]))) : rightD lo dom dd de = 0 := by
  unfold rightD; rw [if_neg (by omega), if_pos h1]
theorem rightD_3 {lo dom dd : ByteArray} {de : Nat} (h : 64 < lo.size ∨ 255 < dom.size) : rightD lo dom dd de = 3 := by
  unfold rightD; rw [if_pos h]
theorem rightD_p {lo dom dd : ByteArray} {de : Nat} (h : lo.size ≤ 64 ∧ dom.size ≤ 255) (h1 : ¬ (dom.toList = [] ∧ (lo.toList = [] ∨ lo.toList = [112, 111, 115, 116, 109, 97, 115, 116, 101, 114]))) (h2 : de = 0 ∧ dd.toList = dom.toList ∧ lo.toList ≠ []) : rightD lo dom dd de = if lo.data.toList.any outP then 2 else 0 := by
  unfold rightD; rw [if_neg (by omega), if_neg h1, if_neg (by simp [h2])]
def rightN (lo dom : ByteArray) : Nat := rightD lo dom (domR dom).1 (domR dom).2

set_option maxRecDepth 100000 in
set_option maxHeartbeats 8000000 in
theorem right_any (lo dom : ByteArray) (w : World) (h1 : lo.size < 4294967281) (h2 : dom.size < 4294967281) : Calls Tryd.prog 15 #[.agg #[.string lo, .string dom]] w fun e w' =>
    e = .returned (.int .i64 (rightN lo dom)) ∧ Below w.heap.size w w' := by
  go_enter Tryd.func15, Tryd.ntmps15
  go_wp2_with fail
  have hh := World.alloc_heap_new w (.cells #[.string lo, .string dom] 23)
  have hb1 : Below w.heap.size w (w.alloc (.cells #[.string lo, .string dom] 23)) := (Below.refl _ w).alloc (Nat.le_refl _) _
  have hz1 : (w.alloc (.cells #[.string lo, .string dom] 23)).heap.size = w.heap.size + 1 := by simp
  generalize w.alloc (.cells #[.string lo, .string dom] 23) = W1 at hh hb1 hz1 ⊢
  refine (domain_any dom W1 h2).mono ?_
  rintro e W2 ⟨rfl, hb2⟩
  have hh2 := (hb2.block w.heap.size (by omega)).trans hh
  have hbl : Below w.heap.size w W2 := hb1.trans (hb2.mono (by omega))
  have hz2 : w.heap.size < W2.heap.size := by have := hb2.size; omega
  have c0 : W2.cell? ⟨w.heap.size, 0, none⟩ = some (.string lo) := by simp [World.cell?, hh2]
  have c1 : W2.cell? ⟨w.heap.size, 1, none⟩ = some (.string dom) := by simp [World.cell?, hh2]
  clear hh hh2 hb1 hz1 hb2
  have kc := Lib.run_convert_string_bytes (P := Tryd.prog) W2 9 42 5 lo Tryd.underlying9 Tryd.underlying42 Tryd.underlying5
  have hR : rightN lo dom = rightD lo dom (domR dom).1 (domR dom).2 := rfl
  have hlo := toList_empty lo
  have hdm := toList_empty dom
  generalize (domR dom).1 = dd at hR ⊢
  generalize (domR dom).2 = de at hR ⊢
  have HR := Lib.hid hR
  have HLO := Lib.hid hlo
  have HDM := Lib.hid hdm
  clear hR hlo hdm
  go_wp2_with fail
  case' _ => skip
  · rename_i a1 a2
    go_ret
    exact ⟨by rw [show rightN lo dom = _ from HR, rightD_3 (by omega)]; rfl, hbl⟩
  · rename_i a1 a2 a3 a4
    go_ret
    exact ⟨by rw [show rightN lo dom = _ from HR, rightD_0 (by omega) ⟨a3, .inl a4⟩]; rfl, hbl⟩
  · rename_i a1 a2 a3 a4 a5
    go_ret
    exact ⟨by rw [show rightN lo dom = _ from HR, rightD_0 (by omega) ⟨a3, by simpa using a5⟩]; rfl, hbl⟩
  case' _ => skip
  · rename_i a1 a2 a3 a4 a5 a6 a7 k1 k2
    have hne : ¬ (dom.toList = [] ∧ (lo.toList = [] ∨ lo.toList = [112, 111, 115, 116, 109, 97, 115, 116, 101, 114])) := by
      rintro ⟨_, h | h⟩
      · exact a4 h
      · have := a5.2; rw [h] at this; exact absurd this (by decide)
    have hfin := rightD_p (lo := lo) (dom := dom) (dd := dd) (de := de) (by omega) hne ⟨a6, by rw [a7, a3], a4⟩
    have HF := Lib.hid hfin
    have hlz : lo.size ≤ 64 := by omega
    clear hfin hne a1 a2 a3 a4 a5 a6 a7
    have hby := Byt.new W2 lo
    have hub := Byt.newUpd W2 lo Nope
    generalize Lib.bytesWorld W2 5 lo = W3 at hby hub ⊢
    have hb3 : Below w.heap.size w W3 := hbl.trans (Upd.onto (Below.refl _ W2) hub (by omega) (fun i e => e.elim))
    go_loopw [56] (fun i wr => ∃ k : Nat, k ≤ lo.size ∧ i = .int .i64 k ∧ wr = W3 ∧ (lo.data.toList.take k).any outP = false) (fun i _ => lo.size - (intOf i).toNat)
    case atStart => exact ⟨0, Nat.zero_le _, rfl, rfl, by simp⟩
    case round =>
      obtain ⟨k, hk, rfl, hwr, hall⟩ := hrel
      obtain rfl : wr = W3 := hwr
      by_cases hlt : k < lo.size
      · have hcell := hby.cell k (by rw [data_len]; exact hlt)
        have hst : (lo.data.toList.take (k + 1)).any outP = outP (lo.data.toList.getD k 0) := by
          rw [take_snoc _ _ (by rw [data_len]; exact hlt), List.any_append, hall]; simp
        have hin : lo.data.toList.getD k 0 ∈ lo.data.toList := by
          rw [List.getD, List.getElem?_eq_getElem (by rw [data_len]; exact hlt)]; exact List.getElem_mem _
        generalize lo.data.toList.getD k 0 = c at hcell hst hin
        by_cases hoc : (c.toNat < 32 ∨ 126 < c.toNat)
        · have hany : lo.data.toList.any outP = true := List.any_eq_true.2 ⟨c, hin, by simpa [outP] using hoc⟩
          go_wp2_with fail
          all_goals
            go_ret
            exact ⟨by rw [show rightN lo dom = _ from HR, show rightD lo dom dd de = _ from HF, hany]; rfl, hb3⟩
        · have hno : outP c = false := by simp [outP]; omega
          go_wp2_with fail
          go_roundw
          case rel => exact ⟨k + 1, by omega, by go_num, trivial, by rw [hst]; exact hno⟩
          case measure => simp [intOf]; omega
      · obtain rfl : k = lo.size := by omega
        rw [List.take_of_length_le (by rw [data_len]; exact Nat.le_refl _)] at hall
        go_wp2_with fail
        go_ret
        exact ⟨by rw [show rightN lo dom = _ from HR, show rightD lo dom dd de = _ from HF, hall]; rfl, hb3⟩
  · rename_i a1 a2 a3 a4 a5 a6 a7
    have hne : ¬ (dom.toList = [] ∧ (lo.toList = [] ∨ lo.toList = [112, 111, 115, 116, 109, 97, 115, 116, 101, 114])) := by
      rintro ⟨_, h | h⟩
      · exact a4 h
      · have := a5.2; rw [h] at this; exact absurd this (by decide)
    go_ret
    exact ⟨by rw [show rightN lo dom = _ from HR, rightD_2 (by omega) hne (.inr (.inl (by rw [a3]; exact a7)))]; rfl, hbl⟩
  · rename_i a1 a2 a3 a4 a5 a6
    have hne : ¬ (dom.toList = [] ∧ (lo.toList = [] ∨ lo.toList = [112, 111, 115, 116, 109, 97, 115, 116, 101, 114])) := by
      rintro ⟨_, h | h⟩
      · exact a4 h
      · have := a5.2; rw [h] at this; exact absurd this (by decide)
    go_ret
    exact ⟨by rw [show rightN lo dom = _ from HR, rightD_2 (by omega) hne (.inl a6)]; rfl, hbl⟩
  · rename_i a1 a2 a3 a4 a5 a6
    go_ret
    exact ⟨by rw [show rightN lo dom = _ from HR, rightD_2 (by omega) (fun h => a3 h.1) (.inr (.inr (by simpa using a6)))]; rfl, hbl⟩
  · rename_i a1 a2 a3 a4 a5 a6 k1 k2
    have hfin := rightD_p (lo := lo) (dom := dom) (dd := dd) (de := de) (by omega) (fun h => a3 h.1) ⟨a4, a5, by simpa using a6⟩
    have HF := Lib.hid hfin
    have hlz : lo.size ≤ 64 := by omega
    clear hfin a1 a2 a3 a4 a5 a6
    have hby := Byt.new W2 lo
    have hub := Byt.newUpd W2 lo Nope
    generalize Lib.bytesWorld W2 5 lo = W3 at hby hub ⊢
    have hb3 : Below w.heap.size w W3 := hbl.trans (Upd.onto (Below.refl _ W2) hub (by omega) (fun i e => e.elim))
    go_loopw [56] (fun i wr => ∃ k : Nat, k ≤ lo.size ∧ i = .int .i64 k ∧ wr = W3 ∧ (lo.data.toList.take k).any outP = false) (fun i _ => lo.size - (intOf i).toNat)
    case atStart => exact ⟨0, Nat.zero_le _, rfl, rfl, by simp⟩
    case round =>
      obtain ⟨k, hk, rfl, hwr, hall⟩ := hrel
      obtain rfl : wr = W3 := hwr
      by_cases hlt : k < lo.size
      · have hcell := hby.cell k (by rw [data_len]; exact hlt)
        have hst : (lo.data.toList.take (k + 1)).any outP = outP (lo.data.toList.getD k 0) := by
          rw [take_snoc _ _ (by rw [data_len]; exact hlt), List.any_append, hall]; simp
        have hin : lo.data.toList.getD k 0 ∈ lo.data.toList := by
          rw [List.getD, List.getElem?_eq_getElem (by rw [data_len]; exact hlt)]; exact List.getElem_mem _
        generalize lo.data.toList.getD k 0 = c at hcell hst hin
        by_cases hoc : (c.toNat < 32 ∨ 126 < c.toNat)
        · have hany : lo.data.toList.any outP = true := List.any_eq_true.2 ⟨c, hin, by simpa [outP] using hoc⟩
          go_wp2_with fail
          all_goals
            go_ret
            exact ⟨by rw [show rightN lo dom = _ from HR, show rightD lo dom dd de = _ from HF, hany]; rfl, hb3⟩
        · have hno : outP c = false := by simp [outP]; omega
          go_wp2_with fail
          go_roundw
          case rel => exact ⟨k + 1, by omega, by go_num, trivial, by rw [hst]; exact hno⟩
          case measure => simp [intOf]; omega
      · obtain rfl : k = lo.size := by omega
        rw [List.take_of_length_le (by rw [data_len]; exact Nat.le_refl _)] at hall
        go_wp2_with fail
        go_ret
        exact ⟨by rw [show rightN lo dom = _ from HR, show rightD lo dom dd de = _ from HF, hall]; rfl, hb3⟩
  · rename_i a1 a2 a3 a4 a5
    go_ret
    exact ⟨by rw [show rightN lo dom = _ from HR, rightD_2 (by omega) (fun h => a3 h.1) (.inr (.inl a5))]; rfl, hbl⟩
  · rename_i a1 a2 a3 a4
    go_ret
    exact ⟨by rw [show rightN lo dom = _ from HR, rightD_2 (by omega) (fun h => a3 h.1) (.inl a4)]; rfl, hbl⟩
  · rename_i a1
    go_ret
    exact ⟨by rw [show rightN lo dom = _ from HR, rightD_3 (by omega)]; rfl, hbl⟩
end Go.Proofs.YthfmjiafdfoajaaDoor
