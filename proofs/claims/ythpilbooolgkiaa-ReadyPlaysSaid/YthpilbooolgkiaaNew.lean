/- A new queue. -/
import Derived.Test.YthpilbooolgkiaaDon
set_option linter.unusedVariables false
set_option linter.unusedSimpArgs false
namespace Go.Proofs.Ythpilbooolgkiaa
open Go.RowKit

def okN (age limit room : Int) : Bool := decide (1 ≤ age) && decide (age ≤ 1048576) && decide (1 ≤ limit) && decide (limit ≤ 64) && decide (1 ≤ room) && decide (room ≤ 4096)
def NewP (w : World) (age limit room : Int) (e : Ending) (w' : World) : Prop :=
  (okN age limit room = false → e = .returned (.tuple #[.pointer none, .int .i64 1])) ∧ (okN age limit room = true → ∃ g F, e = .returned (.tuple #[.pointer (some ⟨g, 0, none⟩), .int .i64 0]) ∧ RO w' g F age limit room [] [] ∧ ∀ i, F i → w.heap.size ≤ i) ∧ Upd w w' Nope
set_option maxHeartbeats 1000000 in
theorem new_any (age limit room : Int) (w : World) : Calls Try.prog 10 #[.int .i64 age, .int .i64 limit, .int .i64 room] w (NewP w age limit room) := by
  have hmm := @run_makeMap Try.prog
  cases hok : okN age limit room with
  | true =>
    have h : 1 ≤ age ∧ age ≤ 1048576 ∧ 1 ≤ limit ∧ limit ≤ 64 ∧ 1 ≤ room ∧ room ≤ 4096 := by simp [okN] at hok; omega
    have d1 : decide (age < 1) = false := by simp; omega
    have d2 : decide (1048576 < age) = false := by simp; omega
    have d3 : decide (limit < 1) = false := by simp; omega
    have d4 : decide (64 < limit) = false := by simp; omega
    have d5 : decide (room < 1) = false := by simp; omega
    have d6 : decide (4096 < room) = false := by simp; omega
    have HO := Lib.hid hok
    clear h hok
    go_enter Try.func10, Try.ntmps10
    go_wp2
    go_returns
    refine ⟨fun h => (by rw [HO.out] at h; cases h), fun _ => ⟨w.heap.size + 1, fun k => k = w.heap.size + 1 ∨ k = w.heap.size, rfl, ⟨⟨none, 0, w.heap.size, ?_, .inl ⟨rfl, rfl, rfl⟩, ?_, fun k => ⟨fun h => by rcases h with h | h; exact .inl h; exact .inr (.inl h), fun h => by rcases h with h | h | ⟨_, h, _⟩; exact .inl h; exact .inr h; cases h⟩, by omega, fun ad e => by cases e⟩, fun e h => by cases h⟩, fun i h => by rcases h with rfl | rfl <;> omega⟩, ?_⟩
    · have := Blk.new (w.alloc (.map #[] 0)) #[.int .i64 age, .int .i64 limit, .int .i64 room, .slice none 0 0, .map (some w.heap.size)] 67
      have e : (w.alloc (.map #[] 0)).heap.size = w.heap.size + 1 := by simp
      rw [e] at this
      exact this
    · exact (Mp.new MS w).alloc _
    · exact ((Upd.refl w Nope).alloc _).alloc _
  | false =>
    have h : decide (age < 1) = true ∨ (decide (age < 1) = false ∧ decide (1048576 < age) = true) ∨ (decide (age < 1) = false ∧ decide (1048576 < age) = false ∧ decide (limit < 1) = true) ∨
        (decide (age < 1) = false ∧ decide (1048576 < age) = false ∧ decide (limit < 1) = false ∧ decide (64 < limit) = true) ∨ (decide (age < 1) = false ∧ decide (1048576 < age) = false ∧ decide (limit < 1) = false ∧ decide (64 < limit) = false ∧ decide (room < 1) = true) ∨
        (decide (age < 1) = false ∧ decide (1048576 < age) = false ∧ decide (limit < 1) = false ∧ decide (64 < limit) = false ∧ decide (room < 1) = false ∧ decide (4096 < room) = true) := by
      simp only [okN, Bool.and_eq_false_iff, decide_eq_false_iff_not, decide_eq_true_eq] at hok ⊢
      omega
    have HO := Lib.hid hok
    clear hok
    rcases h with h1 | ⟨h1, h2⟩ | ⟨h1, h2, h3⟩ | ⟨h1, h2, h3, h4⟩ | ⟨h1, h2, h3, h4, h5⟩ | ⟨h1, h2, h3, h4, h5, h6⟩
    all_goals
      go_enter Try.func10, Try.ntmps10
      go_wp2
      go_returns
      exact ⟨fun _ => rfl, fun h => (by rw [HO.out] at h; cases h), Upd.refl _ _⟩
end Go.Proofs.Ythpilbooolgkiaa
