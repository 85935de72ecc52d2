/- Two neighbouring rows of entries, exchanged by rotation. -/
import Derived.Test.YthpilbooolgkiaaSwr
set_option linter.unusedVariables false
set_option linter.unusedSimpArgs false
namespace Go.Proofs.Ythpilbooolgkiaa
open Go.RowKit

/-- What a rotation has still to do. -/
def Rotd (R : List En) (m i j : Nat) (arr : List En) : Prop := ∃ P X Y S : List En, arr = P ++ X ++ Y ++ S ∧ X.length = i ∧ Y.length = j ∧ P.length + i = m ∧ P ++ Y ++ X ++ S = R
theorem Rotd.left {R : List En} {m i j : Nat} {arr : List En} (h : Rotd R m i j arr) (hij : j < i) : ∃ P U Q V S : List En, arr = P ++ U ++ Q ++ V ++ S ∧ U.length = V.length ∧ m - i = P.length ∧ m = P.length + U.length + Q.length ∧ j = U.length ∧ Rotd R m (i - j) j (P ++ V ++ Q ++ U ++ S) := by
  obtain ⟨P, X, Y, S, rfl, hX, hY, hm, hR⟩ := h
  have hl1 : (X.take j).length = j := by rw [List.length_take]; omega
  have hl2 : (X.drop j).length = i - j := by rw [List.length_drop]; omega
  refine ⟨P, X.take j, X.drop j, Y, S, ?_, by omega, by omega, by omega, by omega, P ++ Y, X.drop j, X.take j, S, ?_, hl2, hl1, ?_, ?_⟩
  · conv => lhs; rw [← List.take_append_drop j X]
    simp only [List.append_assoc]
  · simp
  · simp; omega
  · rw [← hR, List.append_assoc (P ++ Y), List.take_append_drop]
theorem Rotd.right {R : List En} {m i j : Nat} {arr : List En} (h : Rotd R m i j arr) (hij : i < j) : ∃ P U Q V S : List En, arr = P ++ U ++ Q ++ V ++ S ∧ U.length = V.length ∧ m - i = P.length ∧ m + j - i = P.length + U.length + Q.length ∧ i = U.length ∧ Rotd R m i (j - i) (P ++ V ++ Q ++ U ++ S) := by
  obtain ⟨P, X, Y, S, rfl, hX, hY, hm, hR⟩ := h
  have hl1 : (Y.take (j - i)).length = j - i := by rw [List.length_take]; omega
  have hl2 : (Y.drop (j - i)).length = i := by rw [List.length_drop]; omega
  refine ⟨P, X, Y.take (j - i), Y.drop (j - i), S, ?_, by omega, by omega, by omega, by omega, P, Y.drop (j - i), Y.take (j - i), X ++ S, ?_, hl2, hl1, hm, ?_⟩
  · conv => lhs; rw [← List.take_append_drop (j - i) Y]
    simp only [List.append_assoc]
  · simp
  · rw [← hR]
    rw [List.append_assoc P, List.take_append_drop]
    simp
theorem Rotd.last {R : List En} {m i : Nat} {arr : List En} (h : Rotd R m i i arr) : ∃ P U V S : List En, arr = P ++ U ++ [] ++ V ++ S ∧ U.length = V.length ∧ m - i = P.length ∧ m = P.length + U.length + ([] : List En).length ∧ i = U.length ∧ P ++ V ++ [] ++ U ++ S = R := by
  obtain ⟨P, X, Y, S, rfl, hX, hY, hm, hR⟩ := h
  exact ⟨P, X, Y, S, by simp, by omega, by omega, by simp; omega, by omega, by simpa using hR⟩
theorem Rotd.len {R : List En} {m i j : Nat} {arr : List En} (h : Rotd R m i j arr) : m + j ≤ arr.length ∧ i ≤ m := by
  obtain ⟨P, X, Y, S, rfl, hX, hY, hm, hR⟩ := h
  simp only [List.length_append]
  omega
set_option maxHeartbeats 4000000 in
theorem rotate_any (w : World) (q cap : Nat) (arr R : List En) (a m b n : Nat) (hA : Arr w q cap arr) (hR : Rotd R m (m - a) (b - m) arr) (h1 : a < m) (h2 : m < b) (hn : n = arr.length) (hn1 : n ≤ 1000) (f : Value) :
    Calls Try.prog 45 #[.slice (some ⟨q, 0, none⟩) n cap, .int .i64 a, .int .i64 m, .int .i64 b, f] w
      fun e w' => e = .returned (.tuple #[]) ∧ Arr w' q cap R ∧ Upd w w' (fun i => i = q) := by
  have hl := hR.len
  have HA := Lib.hid hA
  have HR := Lib.hid hR
  have HN := Lib.hid hn
  have hmn : m + (b - m) ≤ n := by omega
  clear hA hR hn hl
  go_enter Try.func45, Try.ntmps45
  go_wp2
  go_loopw [10, 11] (fun i j wr => ∃ (s t : Nat) (cur : List En), i = .int .i64 s ∧ j = .int .i64 t ∧ 1 ≤ s ∧ 1 ≤ t ∧ n = cur.length ∧ Arr wr q cap cur ∧ Upd w wr (fun i => i = q) ∧ Rotd R m s t cur) (fun i j _ => (intOf i).toNat + (intOf j).toNat)
  case atStart => exact ⟨m - a, b - m, arr, by go_num, by go_num, by omega, by omega, HN.out, HA.out, Upd.refl _ _, HR.out⟩
  case round =>
    obtain ⟨s, t, cur, rfl, rfl, hs, ht, hn, hA, hU, hR⟩ := hrel
    have hl := hR.len
    have hb1 : s ≤ m := hl.2
    have hb2 : m + t ≤ n := by omega
    have HUR := Lib.hid hU
    clear hl
    rcases (by omega : t < s ∨ s < t ∨ s = t) with hlt | hlt | rfl
    · obtain ⟨P, U, Q, V, S, rfl, e1, e2, e3, e4, hr⟩ := hR.left hlt
      have hC := swapRange_any wr q cap P U Q V S hA e1 (m - s) m n t e2 e3 e4 hn hn1 f
      rw [show ((m - s : Nat) : Int) = (m : Int) - s by omega] at hC
      have HC := Lib.hid hC
      have HRR := Lib.hid hr
      have HL := Lib.hid (show n = (P ++ V ++ Q ++ U ++ S).length by rw [hn]; simp; omega)
      clear hC hR hA hU hn hr e1 e2 e3 e4
      have d1 : ((s : Int) != (t : Int)) = true := by simp; omega
      have d2 : decide ((t : Int) < (s : Int)) = true := by simp; omega
      have d3 : t < s := hlt
      go_wp2_with fail
      refine HC.out.mono ?_
      rintro e w2 ⟨rfl, hA2, hU2⟩
      have HA2 := Lib.hid hA2
      have HU2 := Lib.hid (HUR.out.then_ hU2)
      clear hA2 hU2
      go_wp2
      go_roundw
      case rel => exact ⟨s - t, t, _, by go_num, by go_num, by omega, by omega, HL.out, HA2.out, HU2.out, HRR.out⟩
      case measure => simp [intOf]; omega
    · obtain ⟨P, U, Q, V, S, rfl, e1, e2, e3, e4, hr⟩ := hR.right hlt
      have hC := swapRange_any wr q cap P U Q V S hA e1 (m - s) (m + t - s) n s e2 e3 e4 hn hn1 f
      rw [show ((m - s : Nat) : Int) = (m : Int) - s by omega, show ((m + t - s : Nat) : Int) = (m : Int) + t - s by omega] at hC
      have HC := Lib.hid hC
      have HRR := Lib.hid hr
      have HL := Lib.hid (show n = (P ++ V ++ Q ++ U ++ S).length by rw [hn]; simp; omega)
      clear hC hR hA hU hn hr e1 e2 e3 e4
      have d1 : ((s : Int) != (t : Int)) = true := by simp; omega
      have d2 : decide ((t : Int) < (s : Int)) = false := by simp; omega
      have d3 : ¬ t < s := by omega
      go_wp2_with fail
      refine HC.out.mono ?_
      rintro e w2 ⟨rfl, hA2, hU2⟩
      have HA2 := Lib.hid hA2
      have HU2 := Lib.hid (HUR.out.then_ hU2)
      clear hA2 hU2
      go_wp2
      go_roundw
      case rel => exact ⟨s, t - s, _, by go_num, by go_num, by omega, by omega, HL.out, HA2.out, HU2.out, HRR.out⟩
      case measure => simp [intOf]; omega
    · obtain ⟨P, U, V, S, rfl, e1, e2, e3, e4, hr⟩ := hR.last
      have hC := swapRange_any wr q cap P U [] V S hA e1 (m - s) m n s e2 e3 e4 hn hn1 f
      rw [show ((m - s : Nat) : Int) = (m : Int) - s by omega, hr] at hC
      have HC := Lib.hid hC
      clear hC hR hA hU hn hr e1 e2 e3 e4
      have d1 : ((s : Int) != (s : Int)) = false := by simp
      go_wp2_with fail
      refine HC.out.mono ?_
      rintro e w2 ⟨rfl, hA2, hU2⟩
      have HF := Lib.hid (And.intro hA2 (HUR.out.then_ hU2))
      clear hA2 hU2
      go_wp2
      go_end0
      exact ⟨rfl, HF.out⟩
end Go.Proofs.Ythpilbooolgkiaa
