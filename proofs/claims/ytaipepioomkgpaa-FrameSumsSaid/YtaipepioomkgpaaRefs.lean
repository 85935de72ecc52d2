/- The contracts of the reference's functions and of the helpers that the laws call. -/
import Derived.Test.YtaipepioomkgpaaLaw
set_option linter.unusedVariables false
set_option linter.unusedSimpArgs false
namespace Go.Proofs.Ytaipepioomkgpaa
open Go.RowKit

theorem same_step (l m : List ByteArray) (k : Nat) (h : k < l.length) (h' : k < m.length) (e : l.length = m.length) (hp : l.take k = m.take k) : (l.take (k + 1) = m.take (k + 1)) ↔ l[k] = m[k] := by
  rw [List.take_succ_eq_append_getElem h, List.take_succ_eq_append_getElem h', hp, List.append_cancel_left_eq]
  simp

set_option maxHeartbeats 1000000 in
theorem same_any (A B : Option Addr) (c d : Nat) (l m : List ByteArray) (w : World) (hl : Rd1 Value.string w A l) (hm : Rd1 Value.string w B m) (hll : l.length ≤ maxLen) (hml : m.length ≤ maxLen) :
    Calls Try.prog 14 #[.slice A l.length c, .slice B m.length d] w fun e w' => e = .returned (.bool (decide (l = m))) ∧ Drew w w' := by
  unfold maxLen at hll hml
  by_cases hlen : l.length = m.length
  · have hq : decide ((l.length : Int) ≠ (m.length : Int)) = false := by simp [hlen]
    go_enter Try.func14, Try.ntmps14
    go_wp2_with fail
    go_loopw [5] (fun i wr => ∃ k : Nat, k ≤ l.length ∧ i = .int .i64 k ∧ l.take k = m.take k ∧ Drew w wr) (fun i _ => l.length - (intOf i).toNat)
    case atStart => exact ⟨0, Nat.zero_le _, rfl, rfl, Drew.refl _⟩
    case round =>
      obtain ⟨k, hk, rfl, hp, hd⟩ := hrel
      by_cases hlt : k < l.length
      · obtain ⟨a, rfl, hx⟩ := (hl.of_drew hd) k hlt
        obtain ⟨b, rfl, hy⟩ := (hm.of_drew hd) k (by omega)
        have hst := same_step l m k hlt (by omega) hlen hp
        have hneq : l[k] ≠ m[k]'(by omega) → l ≠ m := by rintro h rfl; exact h rfl
        generalize l[k] = u at hx hst hneq
        generalize m[k]'(by omega) = v at hy hst hneq
        by_cases he : u = v
        · have hb : (u.toList == v.toList) = true := by rw [he]; simp
          go_wp2
          go_quiet (fail)
          go_wp2
          go_roundw
          case rel => exact ⟨k + 1, by omega, by go_num, hst.2 he, hd.step _⟩
          case measure => simp [intOf]; omega
        · have hb : (u.toList == v.toList) = false := by
            rw [ByteArray.toList_eq, ByteArray.toList_eq]
            simp only [beq_eq_false_iff_ne, ne_eq]
            intro e
            exact he (ByteArray.ext (Array.toList_inj.1 e))
          have hne := hneq he
          clear hst hneq
          go_wp2
          go_quiet (fail)
          go_wp2
          go_ret
          exact ⟨ret_eq (by simp [hne]), hd.step _⟩
      · have e : l = m := by
          obtain rfl : k = l.length := by omega
          rw [List.take_length, hlen, List.take_length] at hp
          exact hp
        go_wp2
        go_ret
        exact ⟨ret_eq (by simp [e]), hd⟩
  · have hne : l ≠ m := by rintro rfl; exact hlen rfl
    go_enter Try.func14, Try.ntmps14
    go_wp2
    go_ret
    exact ⟨ret_eq (by simp [hne]), Drew.refl _⟩

theorem total_take_succ (l : List ByteArray) (k : Nat) (h : k < l.length) : total (l.take (k + 1)) = total (l.take k) + l[k].size := by
  rw [List.take_succ_eq_append_getElem h, total_snoc]

set_option maxHeartbeats 1000000 in
theorem few_any (A : Option Addr) (c : Nat) (l : List ByteArray) (w : World) (hl : Rd1 Value.string w A l) (hll : l.length ≤ maxLen) (hs : ∀ x ∈ l, x.size ≤ 140737488351232) :
    Calls Try.prog 9 #[.slice A l.length c] w fun e w' => e = .returned (.bool (decide (l.length ≤ 40 ∧ total l ≤ 70000))) ∧ w' = w := by
  unfold maxLen at hll
  go_enter Try.func9, Try.ntmps9
  go_wp2_with fail
  go_loop [3, 4] (fun n i => ∃ k : Nat, k ≤ l.length ∧ k ≤ 40 ∧ i = .int .i64 k ∧ n = .int .i64 (total (l.take k)) ∧ total (l.take k) ≤ 70000) (fun _ i => l.length - (intOf i).toNat)
  case atStart => exact ⟨0, Nat.zero_le _, Nat.zero_le _, rfl, rfl, by simp [total]⟩
  case round =>
    obtain ⟨k, hk, hk40, rfl, rfl, ht⟩ := hrel
    by_cases hlt : k < l.length
    · obtain ⟨a, rfl, hx⟩ := hl k hlt
      have hsz := hs _ (List.getElem_mem hlt)
      have hst := total_take_succ l k hlt
      have hle := total_take l (k + 1)
      generalize l[k] = u at hx hst hsz
      by_cases h : 40 ≤ k ∨ 70000 < total (l.take k) + u.size
      · have hno : ¬ (l.length ≤ 40 ∧ total l ≤ 70000) := by omega
        clear hst hle
        rcases h with h | h
        · go_wp2
          go_ret
          exact ⟨ret_eq (by simp [hno]), rfl⟩
        · by_cases h4 : 40 ≤ k
          · go_wp2
            go_ret
            exact ⟨ret_eq (by simp [hno]), rfl⟩
          · go_wp2
            go_ret
            exact ⟨ret_eq (by simp [hno]), rfl⟩
      · have HS := Lib.hid hst
        clear hst hle
        go_wp2
        go_round
        case rel => exact ⟨k + 1, by omega, by omega, by go_num, by rw [HS.out]; simp, by rw [HS.out]; omega⟩
        case measure => simp [intOf]; omega
    · have e : l.take k = l := List.take_of_length_le (by omega)
      rw [e] at ht
      have : l.length ≤ 40 ∧ total l ≤ 70000 := ⟨by omega, ht⟩
      go_wp2
      go_ret
      exact ⟨ret_eq (by simp [this]), rfl⟩

theorem size_any (s : ByteArray) (w : World) (hs : s.size ≤ 140737488351232) : Calls Try.prog 17 #[.string s] w fun e w' => e = .returned (.int .i64 (s.size + 10 : Nat)) ∧ w' = w := by
  go_enter Try.func17, Try.ntmps17
  go_wp2
  go_ret
  exact ⟨ret_eq (by simp), rfl⟩

set_option maxHeartbeats 1000000 in
theorem four_any (n : Nat) (w : World) (hn : n < 4294967296) : Calls Try.prog 25 #[.int .u32 n] w fun e w' => e = .returned (.string ⟨(le4 n).toArray⟩) ∧ Upd w w' Nope := by
  have hcv := conv_new w [(n : Int) % 256, (n : Int) / 256 % 256, (n : Int) / 65536 % 256, (n : Int) / 16777216] (by simp [maxLen])
  have hs : strOfNums [(n : Int) % 256, (n : Int) / 256 % 256, (n : Int) / 65536 % 256, (n : Int) / 16777216] = ⟨(le4 n).toArray⟩ := by
    have e1 : ((n : Int) % 256).toNat = n % 256 := by omega
    have e2 : ((n : Int) / 256 % 256).toNat = n / 256 % 256 := by omega
    have e3 : ((n : Int) / 65536 % 256).toNat = n / 65536 % 256 := by omega
    have e4 : ((n : Int) / 16777216).toNat = n / 16777216 := by omega
    have e5 : ∀ m, UInt8.ofNat (m % 256) = UInt8.ofNat m := fun m => by apply UInt8.toNat.inj; simp
    simp [strOfNums, le4, e1, e2, e3, e4, e5]
  simp only [List.length_cons, List.length_nil, Nat.zero_add, Nat.reduceAdd, List.map_cons, List.map_nil, hs] at hcv
  clear hs
  go_enter Try.func25, Try.ntmps25
  go_wp2_with fail
  go_ret
  exact ⟨rfl, (Upd.refl _ _).alloc _⟩
end Go.Proofs.Ytaipepioomkgpaa
