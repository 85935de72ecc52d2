/- The xtext of bytes, as lists; and the contracts of the functions of one byte. -/
import Derived.Test.YtpcfigijjhoffaaBldB
import Derived.Test.YtpcfigijjhoffaaByt
set_option linter.unusedVariables false
set_option linter.unusedSimpArgs false
namespace Go.Proofs.Ytpcfigijjhoffaa
open Go.RowKit

def plainN (n : Nat) : Bool := decide (32 < n) && decide (n < 127) && decide (n ≠ 43) && decide (n ≠ 61)
def plainB (b : UInt8) : Bool := plainN b.toNat
def digN (n : Nat) : Nat := if n < 10 then 48 + n else 55 + n
def encB (b : UInt8) : List UInt8 := if plainB b then [b] else [43, UInt8.ofNat (digN (b.toNat / 16)), UInt8.ofNat (digN (b.toNat % 16))]
def encL (l : List UInt8) : List UInt8 := l.flatMap encB
def valN (n : Nat) : Option Nat := if 48 ≤ n ∧ n ≤ 57 then some (n - 48) else if 65 ≤ n ∧ n ≤ 70 then some (n - 55) else none
def val (c : UInt8) : Option Nat := valN c.toNat
def decL : List UInt8 → Option (List UInt8)
  | [] => some []
  | b :: r => if plainB b then (decL r).map (b :: ·) else if b = 43 then
      match r with
      | h :: l :: r' => match val h, val l with
        | some x, some y => (decL r').map (UInt8.ofNat (16 * x + y) :: ·)
        | _, _ => none
      | _ => none
    else none

theorem valN_lt {n x : Nat} (h : valN n = some x) : x < 16 := by
  unfold valN at h
  split at h
  · injection h with h; omega
  · split at h
    · injection h with h; omega
    · cases h
theorem val_dig : ∀ n, n < 16 → valN (digN n) = some n ∧ digN n < 256 := by decide
theorem val_ofNat (n : Nat) (h : n < 16) : val (UInt8.ofNat (digN n)) = some n := by
  obtain ⟨h1, h2⟩ := val_dig n h
  unfold val
  have e : (UInt8.ofNat (digN n)).toNat = digN n := by simp; exact h2
  rw [e]
  exact h1
theorem decL_plain {b : UInt8} (r : List UInt8) (h : plainB b = true) : decL (b :: r) = (decL r).map (b :: ·) := by rw [decL.eq_def]; simp [h]
theorem decL_bad {b : UInt8} (r : List UInt8) (h : plainB b = false) (h' : b ≠ 43) : decL (b :: r) = none := by rw [decL.eq_def]; simp [h, h']
theorem decL_plus (h l : UInt8) (r : List UInt8) : decL (43 :: h :: l :: r) = match val h, val l with | some x, some y => (decL r).map (UInt8.ofNat (16 * x + y) :: ·) | _, _ => none := by
  rw [decL.eq_def]
  have : plainB 43 = false := by decide
  simp [this]
theorem decL_short (r : List UInt8) (h : r.length < 2) : decL (43 :: r) = none := by
  rw [decL.eq_def]
  have : plainB 43 = false := by decide
  simp only [this]
  match r, h with
  | [], _ => simp
  | [_], _ => simp
theorem decL_encB (b : UInt8) (t : List UInt8) : decL (encB b ++ t) = (decL t).map (b :: ·) := by
  unfold encB
  by_cases h : plainB b = true
  · rw [if_pos h, List.singleton_append, decL_plain t h]
  · have hb := b.toNat_lt
    rw [if_neg h]
    simp only [List.cons_append, List.nil_append]
    rw [decL_plus, val_ofNat _ (by omega), val_ofNat _ (by omega)]
    have e : UInt8.ofNat (16 * (b.toNat / 16) + b.toNat % 16) = b := by
      rw [Nat.div_add_mod]
      simp
    simp only [e]
theorem decL_enc (a t : List UInt8) : decL (encL a ++ t) = (decL t).map (a ++ ·) := by
  induction a with
  | nil => simp [encL]
  | cons b a ih =>
    have e : encL (b :: a) ++ t = encB b ++ (encL a ++ t) := by simp [encL]
    rw [e, decL_encB, ih]
    cases decL t <;> simp
theorem decL_enc' (a : List UInt8) : decL (encL a) = some a := by
  have := decL_enc a []
  simpa [decL] using this
theorem encL_append (a b : List UInt8) : encL (a ++ b) = encL a ++ encL b := by simp [encL]
theorem encL_snoc (a : List UInt8) (b : UInt8) : encL (a ++ [b]) = encL a ++ encB b := by simp [encL]
theorem encB_len (b : UInt8) : (encB b).length = if plainB b then 1 else 3 := by unfold encB; split <;> rfl
theorem encL_len (a : List UInt8) : a.length ≤ (encL a).length ∧ (encL a).length ≤ 3 * a.length := by
  induction a with
  | nil => simp [encL]
  | cons b a ih =>
    have e : encL (b :: a) = encB b ++ encL a := by simp [encL]
    have := encB_len b
    rw [e, List.length_append, List.length_cons]
    split at this <;> omega
theorem decL_len : ∀ (n : Nat) (l o : List UInt8), l.length = n → decL l = some o → o.length ≤ l.length := by
  intro n
  induction n using Nat.strongRecOn with
  | _ n ih =>
    intro l o hl h
    match l, hl, h with
    | [], _, h => simp [decL] at h; subst h; simp
    | b :: r, hl, h =>
      by_cases hp : plainB b = true
      · rw [decL_plain r hp] at h
        cases hd : decL r with
        | none => rw [hd] at h; cases h
        | some q =>
          rw [hd] at h
          injection h with h
          subst h
          have := ih r.length (by simp at hl; omega) r q rfl hd
          simp; omega
      · by_cases h4 : b = 43
        · subst h4
          match r, hl, h with
          | [], _, h => rw [decL_short [] (by simp)] at h; cases h
          | [x], _, h => rw [decL_short [x] (by simp)] at h; cases h
          | x :: y :: r, hl, h =>
            rw [decL_plus] at h
            cases hx : val x with
            | none => simp [hx] at h
            | some p =>
              cases hy : val y with
              | none => simp [hx, hy] at h
              | some q =>
                simp only [hx, hy] at h
                cases hd : decL r with
                | none => rw [hd] at h; cases h
                | some z =>
                  rw [hd] at h
                  injection h with h
                  subst h
                  have := ih r.length (by simp at hl; omega) r z rfl hd
                  simp; omega
        · rw [decL_bad r (by simpa using hp) h4] at h
          cases h

set_option maxRecDepth 20000 in
theorem plain_any (n : Nat) (w : World) (hn : n < 256) : Calls Try.prog 16 #[.int .u8 (n : Int)] w fun e w' => e = .returned (.bool (plainN n)) ∧ w' = w := by
  have d1 : decide ((32 : Int) < n) = decide (32 < n) := by simp; try omega
  have d2 : decide ((n : Int) < 127) = decide (n < 127) := by simp; try omega
  have d3 : ((n : Int) != 43) = !decide (n = 43) := by by_cases h : n = 43 <;> simp [bne, h] <;> omega
  have d4 : ((n : Int) != 61) = !decide (n = 61) := by by_cases h : n = 61 <;> simp [bne, h] <;> omega
  have hp : plainN n = (decide (32 < n) && decide (n < 127) && !decide (n = 43) && !decide (n = 61)) := by unfold plainN; simp
  have HP := Lib.hid hp
  clear hp hn
  generalize hb1 : decide (32 < n) = b1 at d1 HP
  generalize hb2 : decide (n < 127) = b2 at d2 HP
  generalize hb3 : (!decide (n = 43)) = b3 at d3 HP
  generalize hb4 : (!decide (n = 61)) = b4 at d4 HP
  clear hb1 hb2 hb3 hb4
  go_enter Try.func16, Try.ntmps16
  cases b1
  · go_wp2
    go_ret
    exact ⟨ret_eq (by rw [HP.out]; rfl), rfl⟩
  cases b2
  · go_wp2
    go_ret
    exact ⟨ret_eq (by rw [HP.out]; rfl), rfl⟩
  cases b3
  · cases b4
    · go_wp2
      go_ret
      exact ⟨ret_eq (by rw [HP.out]; rfl), rfl⟩
    · go_wp2
      go_ret
      exact ⟨ret_eq (by rw [HP.out]; rfl), rfl⟩
  · go_wp2
    go_ret
    exact ⟨ret_eq (by rw [HP.out]; rfl), rfl⟩
set_option maxRecDepth 20000 in
theorem plainRef_any (n : Nat) (w : World) (hn : n < 256) : Calls Try.prog 19 #[.int .u8 (n : Int)] w fun e w' => e = .returned (.bool (plainN n)) ∧ w' = w := by
  have d1 : decide ((33 : Int) ≤ n) = decide (32 < n) := by simp; try omega
  have d2 : decide ((n : Int) ≤ 126) = decide (n < 127) := by simp; try omega
  have d3 : ((n : Int) != 43) = !decide (n = 43) := by by_cases h : n = 43 <;> simp [bne, h] <;> omega
  have d4 : ((n : Int) != 61) = !decide (n = 61) := by by_cases h : n = 61 <;> simp [bne, h] <;> omega
  have hp : plainN n = (decide (32 < n) && decide (n < 127) && !decide (n = 43) && !decide (n = 61)) := by unfold plainN; simp
  have HP := Lib.hid hp
  clear hp hn
  generalize hb1 : decide (32 < n) = b1 at d1 HP
  generalize hb2 : decide (n < 127) = b2 at d2 HP
  generalize hb3 : (!decide (n = 43)) = b3 at d3 HP
  generalize hb4 : (!decide (n = 61)) = b4 at d4 HP
  clear hb1 hb2 hb3 hb4
  go_enter Try.func19, Try.ntmps19
  cases b1
  · go_wp2
    go_ret
    exact ⟨ret_eq (by rw [HP.out]; rfl), rfl⟩
  cases b2
  · go_wp2
    go_ret
    exact ⟨ret_eq (by rw [HP.out]; rfl), rfl⟩
  cases b3
  · cases b4
    · go_wp2
      go_ret
      exact ⟨ret_eq (by rw [HP.out]; rfl), rfl⟩
    · go_wp2
      go_ret
      exact ⟨ret_eq (by rw [HP.out]; rfl), rfl⟩
  · go_wp2
    go_ret
    exact ⟨ret_eq (by rw [HP.out]; rfl), rfl⟩
theorem digit_any (n : Nat) (w : World) (hn : n < 256) : Calls Try.prog 20 #[.int .u8 (n : Int)] w fun e w' => e = .returned (.int .i64 (((valN n).getD 16 : Nat) : Int)) ∧ w' = w := by
  by_cases h1 : 48 ≤ n ∧ n ≤ 57
  · have hv : (((valN n).getD 16 : Nat) : Int) = (n : Int) - 48 := by unfold valN; rw [if_pos h1]; simp; omega
    have HV := Lib.hid hv
    clear hv
    obtain ⟨h1, h2⟩ := h1
    go_enter Try.func20, Try.ntmps20
    go_wp2
    go_ret
    exact ⟨ret_eq (by rw [HV.out]; rfl), rfl⟩
  · by_cases h2 : 65 ≤ n ∧ n ≤ 70
    · have hv : (((valN n).getD 16 : Nat) : Int) = (n : Int) - 65 + 10 := by unfold valN; rw [if_neg h1, if_pos h2]; simp; omega
      have HV := Lib.hid hv
      clear hv
      obtain ⟨h3, h4⟩ := h2
      go_enter Try.func20, Try.ntmps20
      go_wp2
      go_ret
      exact ⟨ret_eq (by rw [HV.out]; rfl), rfl⟩
    · have hv : (((valN n).getD 16 : Nat) : Int) = 16 := by unfold valN; rw [if_neg h1, if_neg h2]; rfl
      have HV := Lib.hid hv
      clear hv
      rcases (show n < 48 ∨ (57 < n ∧ n < 65) ∨ 70 < n by omega) with h | ⟨h, h'⟩ | h
      all_goals
        clear h1 h2
        go_enter Try.func20, Try.ntmps20
        go_wp2
        go_ret
        exact ⟨ret_eq (by rw [HV.out]; rfl), rfl⟩
theorem sign_any (n : Nat) (w : World) (hn : n < 16) : Calls Try.prog 21 #[.int .u8 (n : Int)] w fun e w' => e = .returned (.int .u8 ((digN n : Nat) : Int)) ∧ w' = w := by
  by_cases h1 : n < 10
  · have hv : ((digN n : Nat) : Int) = 48 + (n : Int) := by unfold digN; rw [if_pos h1]; omega
    have HV := Lib.hid hv
    clear hv
    go_enter Try.func21, Try.ntmps21
    go_wp2
    go_ret
    exact ⟨ret_eq (by rw [HV.out]; rfl), rfl⟩
  · have hv : ((digN n : Nat) : Int) = 65 + (n : Int) - 10 := by unfold digN; rw [if_neg h1]; omega
    have HV := Lib.hid hv
    clear hv
    go_enter Try.func21, Try.ntmps21
    go_wp2
    go_ret
    exact ⟨ret_eq (by rw [HV.out]; rfl), rfl⟩
end Go.Proofs.Ytpcfigijjhoffaa
