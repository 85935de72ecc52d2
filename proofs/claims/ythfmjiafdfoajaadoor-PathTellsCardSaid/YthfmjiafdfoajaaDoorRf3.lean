/- The reference: Domain, until, Right. -/
import Derived.Test.YthfmjiafdfoajaaDoorRf2
set_option linter.unusedVariables false
set_option linter.unusedSimpArgs false
namespace Go.Proofs.YthfmjiafdfoajaaDoor
open Go.RowKit Go.Shelf

set_option maxRecDepth 100000 in
set_option maxHeartbeats 8000000 in
theorem rdomain_any (s : ByteArray) (hs : s.size ≤ 5000) (w : World) : Calls Tryd.prog 14 #[.string s] w fun e w' => e = .returned (.tuple #[.string (bs (domL s.data.toList).1), .int .i64 (domL s.data.toList).2]) ∧ Upd w w' Nope := by
  have hL := fun W => rlabels_any s hs W
  have hW := fun W => rlower_any s hs W
  have hd : domL s.data.toList = if 255 < s.size then ([], 3) else if labelsL s.data.toList then (Lib.toLowerA s.data.toList, 0) else ([], 2) := rfl
  obtain ⟨X, hX⟩ : ∃ X, bs (Lib.toLowerA s.data.toList) = X := ⟨_, rfl⟩
  rw [hX] at hW
  generalize labelsL s.data.toList = b at hL hd
  by_cases hbig : 255 < s.size
  · rw [if_pos hbig] at hd
    have HD := Lib.hid hd
    clear hd hL hW hX
    go_enter Tryd.func14, Tryd.ntmps14
    go_wp2_with fail
    go_ret2
    exact ⟨by rw [HD.out]; rfl, Upd.refl _ _⟩
  · rw [if_neg hbig] at hd
    have HL := Lib.hid hL
    have HW := Lib.hid hW
    have HX := Lib.hid hX
    cases b with
    | true =>
      rw [if_pos rfl] at hd
      have HD := Lib.hid hd
      clear hd hL hW hX
      go_enter Tryd.func14, Tryd.ntmps14
      go_wp2_with fail
      refine (HL.out _).mono ?_
      rintro e w2 ⟨rfl, hu⟩
      go_wp2_with fail
      refine (HW.out _).mono ?_
      rintro e w3 ⟨rfl, hu3⟩
      go_wp2_with fail
      go_ret2
      exact ⟨by rw [HD.out, ← HX.out]; rfl, hu.nn hu3⟩
    | false =>
      rw [if_neg (by decide)] at hd
      have HD := Lib.hid hd
      clear hd hL hW hX
      go_enter Tryd.func14, Tryd.ntmps14
      go_wp2_with fail
      refine (HL.out _).mono ?_
      rintro e w2 ⟨rfl, hu⟩
      go_wp2_with fail
      go_ret2
      exact ⟨by rw [HD.out]; rfl, hu⟩

set_option maxRecDepth 100000 in
theorem until_yes (s : ByteArray) (hs : s.size ≤ 5000) (c : UInt8) (f n : Nat) (hn : n < s.size) (hf : f ≤ n) (hno : ∀ j (h : j < s.size), f ≤ j → j < n → s[j] ≠ c) (hc : s[n] = c) (w : World) :
    Calls Tryd.prog 32 #[.string s, .int .i64 f, .int .u8 c.toNat] w fun e w' => e = .returned (.int .i64 n) ∧ w' = w := by
  have HN := Lib.hid hno
  have HCC := Lib.hid hc
  clear hno hc
  go_enter Tryd.func32, Tryd.ntmps32
  go_wp2_with fail
  go_loop [7] (fun i => ∃ k : Nat, f ≤ k ∧ k ≤ n ∧ i = .int .i64 k) (fun i => s.size - (intOf i).toNat)
  case atStart => exact ⟨f, Nat.le_refl _, hf, rfl⟩
  case round =>
    obtain ⟨k, hfk, hkn, rfl⟩ := hrel
    have hlt : k < s.size := by omega
    by_cases he : k = n
    · subst he
      have hx : ((s[k].toNat : Int) == (c.toNat : Int)) = true := by rw [HCC.out]; simp
      go_wp2_with fail
      go_ret
      exact ⟨rfl, rfl⟩
    · have hne : s[k] ≠ c := HN.out k hlt hfk (by omega)
      have hx : ((s[k].toNat : Int) == (c.toNat : Int)) = false := by
        rw [beq_eq_false_iff_ne]; intro e; exact hne (UInt8.toNat_inj.1 (by omega))
      clear hne
      go_wp2_with fail
      go_round
      case rel => exact ⟨k + 1, by omega, by omega, by go_num⟩
      case measure => simp [intOf]; omega
set_option maxRecDepth 100000 in
theorem until_no (s : ByteArray) (hs : s.size ≤ 5000) (c : UInt8) (f : Nat) (hf : f ≤ s.size) (hno : ∀ j (h : j < s.size), f ≤ j → s[j] ≠ c) (w : World) :
    Calls Tryd.prog 32 #[.string s, .int .i64 f, .int .u8 c.toNat] w fun e w' => e = .returned (.int .i64 (-1)) ∧ w' = w := by
  have HN := Lib.hid hno
  clear hno
  go_enter Tryd.func32, Tryd.ntmps32
  go_wp2_with fail
  go_loop [7] (fun i => ∃ k : Nat, f ≤ k ∧ k ≤ s.size ∧ i = .int .i64 k) (fun i => s.size - (intOf i).toNat)
  case atStart => exact ⟨f, Nat.le_refl _, hf, rfl⟩
  case round =>
    obtain ⟨k, hfk, hkn, rfl⟩ := hrel
    by_cases hlt : k < s.size
    · have hne : s[k] ≠ c := HN.out k hlt hfk
      have hx : ((s[k].toNat : Int) == (c.toNat : Int)) = false := by
        rw [beq_eq_false_iff_ne]; intro e; exact hne (UInt8.toNat_inj.1 (by omega))
      clear hne
      go_wp2_with fail
      go_round
      case rel => exact ⟨k + 1, by omega, by omega, by go_num⟩
      case measure => simp [intOf]; omega
    · go_wp2_with fail
      go_ret
      exact ⟨rfl, rfl⟩
theorem right_ref {lo d : List UInt8} (h : lo.length ≤ 64 ∧ d.length ≤ 255) (hn : ¬ (d = [] ∧ (lo = [] ∨ lo = postL))) : rightL lo d = if lo = [] ∨ labelsL d = false ∨ Lib.toLowerA d ≠ d then 2 else if lo.any outP then 2 else 0 := by
  unfold rightL
  rw [if_neg (by omega), if_neg hn]
  have e : domL d = if labelsL d then (Lib.toLowerA d, 0) else ([], 2) := by unfold domL; rw [if_neg (by omega)]
  rw [e]
  cases hl : labelsL d with
  | false => simp
  | true =>
    simp only [if_true]
    by_cases h1 : lo = []
    · simp [h1]
    · by_cases h2 : Lib.toLowerA d = d
      · simp [h1, h2]
      · simp [h1, h2]
end Go.Proofs.YthfmjiafdfoajaaDoor
