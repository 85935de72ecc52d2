/- The helpers: few, Same. -/
import Derived.Test.YtomfblnflobonaaFeed
set_option linter.unusedVariables false
set_option linter.unusedSimpArgs false
namespace Go.Proofs.Ytomfblnflobonaa
open Go.RowKit

def total (l : List ByteArray) : Nat := (l.map ByteArray.size).sum
theorem total_snoc (l : List ByteArray) (r : ByteArray) : total (l ++ [r]) = total l + r.size := by simp [total]
theorem total_take (l : List ByteArray) (k : Nat) : total (l.take k) ≤ total l := by
  induction l generalizing k with
  | nil => simp [total]
  | cons x l ih =>
    cases k with
    | zero => simp [total]
    | succ k => have := ih k; simp [total] at this ⊢; omega
theorem same_step (l m : List ByteArray) (k : Nat) (h : k < l.length) (h' : k < m.length) (e : l.length = m.length) (hp : l.take k = m.take k) : (l.take (k + 1) = m.take (k + 1)) ↔ l[k] = m[k] := by
  rw [List.take_succ_eq_append_getElem h, List.take_succ_eq_append_getElem h', hp, List.append_cancel_left_eq]
  simp

set_option maxHeartbeats 1000000 in
theorem same_any (A B : Option Addr) (c d : Nat) (l m : List ByteArray) (w : World) (hl : Rd1 Value.string w A l) (hm : Rd1 Value.string w B m) (hll : l.length ≤ maxLen) (hml : m.length ≤ maxLen) :
    Calls Try.prog 20 #[.slice A l.length c, .slice B m.length d] w fun e w' => e = .returned (.bool (decide (l = m))) ∧ Drew w w' := by
  unfold maxLen at hll hml
  by_cases hlen : l.length = m.length
  · have hq : decide ((l.length : Int) ≠ (m.length : Int)) = false := by simp [hlen]
    go_enter Try.func20, Try.ntmps20
    go_wp2_with fail
    go_loopw [5] (fun i wr => ∃ k : Nat, k ≤ l.length ∧ i = .int .i64 k ∧ l.take k = m.take k ∧ Drew w wr) (fun i _ => l.length - (intOf i).toNat)
    case atStart => exact ⟨0, Nat.zero_le _, rfl, rfl, Drew.refl _⟩
    case round =>
      obtain ⟨k, hk, rfl, hp, hd⟩ := hrel
      by_cases hlt : k < l.length
      · obtain ⟨a, rfl, hx⟩ := (hl.of_drew hd) k hlt
        obtain ⟨b, rfl, hy⟩ := (hm.of_drew hd) k (by omega)
        have hst := same_step l m k hlt (by omega) hlen hp
        have hneq : l[k] ≠ m[k]'(by omega) → l ≠ m := by rintro h rfl; exact h rfl
        generalize l[k] = u at hx hst hneq
        generalize m[k]'(by omega) = v at hy hst hneq
        by_cases he : u = v
        · have hb : (u.toList == v.toList) = true := by rw [he]; simp
          go_wp2
          go_quiet (fail)
          go_wp2
          go_roundw
          case rel => exact ⟨k + 1, by omega, by go_num, hst.2 he, hd.step _⟩
          case measure => simp [intOf]; omega
        · have hb : (u.toList == v.toList) = false := by
            rw [ByteArray.toList_eq, ByteArray.toList_eq]
            simp only [beq_eq_false_iff_ne, ne_eq]
            intro e
            exact he (ByteArray.ext (Array.toList_inj.1 e))
          have hne := hneq he
          clear hst hneq
          go_wp2
          go_quiet (fail)
          go_wp2
          go_ret
          exact ⟨ret_eq (by simp [hne]), hd.step _⟩
      · have e : l = m := by
          obtain rfl : k = l.length := by omega
          rw [List.take_length, hlen, List.take_length] at hp
          exact hp
        go_wp2
        go_ret
        exact ⟨ret_eq (by simp [e]), hd⟩
  · have hne : l ≠ m := by rintro rfl; exact hlen rfl
    go_enter Try.func20, Try.ntmps20
    go_wp2
    go_ret
    exact ⟨ret_eq (by simp [hne]), Drew.refl _⟩

theorem total_take_succ (l : List ByteArray) (k : Nat) (h : k < l.length) : total (l.take (k + 1)) = total (l.take k) + l[k].size := by
  rw [List.take_succ_eq_append_getElem h, total_snoc]

set_option maxHeartbeats 1000000 in
theorem few_any (A : Option Addr) (c : Nat) (l : List ByteArray) (w : World) (hl : Rd1 Value.string w A l) (hll : l.length ≤ maxLen) (hs : ∀ x ∈ l, x.size ≤ 140737488351232) :
    Calls Try.prog 9 #[.slice A l.length c] w fun e w' => e = .returned (.bool (decide (l.length ≤ 100 ∧ total l ≤ 20000))) ∧ w' = w := by
  unfold maxLen at hll
  go_enter Try.func9, Try.ntmps9
  go_wp2_with fail
  go_loop [3, 4] (fun n i => ∃ k : Nat, k ≤ l.length ∧ k ≤ 100 ∧ i = .int .i64 k ∧ n = .int .i64 (total (l.take k)) ∧ total (l.take k) ≤ 20000) (fun _ i => l.length - (intOf i).toNat)
  case atStart => exact ⟨0, Nat.zero_le _, Nat.zero_le _, rfl, rfl, by simp [total]⟩
  case round =>
    obtain ⟨k, hk, hk100, rfl, rfl, ht⟩ := hrel
    by_cases hlt : k < l.length
    · obtain ⟨a, rfl, hx⟩ := hl k hlt
      have hsz := hs _ (List.getElem_mem hlt)
      have hst := total_take_succ l k hlt
      have hle := total_take l (k + 1)
      generalize l[k] = u at hx hst hsz
      by_cases h : 100 ≤ k ∨ 20000 < total (l.take k) + u.size
      · have hno : ¬ (l.length ≤ 100 ∧ total l ≤ 20000) := by omega
        clear hst hle
        rcases h with h | h
        · go_wp2
          go_ret
          exact ⟨ret_eq (by simp [hno]), rfl⟩
        · by_cases h4 : 100 ≤ k
          · go_wp2
            go_ret
            exact ⟨ret_eq (by simp [hno]), rfl⟩
          · go_wp2
            go_ret
            exact ⟨ret_eq (by simp [hno]), rfl⟩
      · have HS := Lib.hid hst
        clear hst hle
        go_wp2
        go_round
        case rel => exact ⟨k + 1, by omega, by omega, by go_num, by rw [HS.out]; simp, by rw [HS.out]; omega⟩
        case measure => simp [intOf]; omega
    · have e : l.take k = l := List.take_of_length_le (by omega)
      rw [e] at ht
      have : l.length ≤ 100 ∧ total l ≤ 20000 := ⟨by omega, ht⟩
      go_wp2
      go_ret
      exact ⟨ret_eq (by simp [this]), rfl⟩

theorem bytesOf_len (l : List ByteArray) : (bytesOf l).length = total l := by
  induction l with
  | nil => simp [bytesOf, total]
  | cons x l ih =>
    have e : bytesOf (x :: l) = x.data.toList ++ bytesOf l := by simp [bytesOf]
    have e2 : total (x :: l) = x.size + total l := by simp [total]
    rw [e, e2, List.length_append, ih]
    simp
end Go.Proofs.Ytomfblnflobonaa
