/- awake: it answers true, and turns nothing that was there. -/
import Derived.Test.YtojpgdhbfhdpoaaClk
set_option linter.unusedVariables false
set_option linter.unusedSimpArgs false
namespace Go.Proofs.Ytojpgdhbfhdpoaa
open Go.RowKit

set_option maxHeartbeats 1000000 in
theorem awake_any (w : World) : Calls Try.prog 7 #[] w fun e w' => e = .returned (.bool true) ∧ Upd w w' Nope := by
  go_enter Try.func7, Try.ntmps7
  go_wp2_with fail
  refine (new_ok 2 3 w (by omega) (by omega) (by omega) (by omega)).mono ?_
  rintro e w1 ⟨rfl, hw1⟩
  have hc1 : Clk w1 w.heap.size 2 2 3 0 0 := by rw [hw1]; exact Blk.new _ _ _
  have hu1 : Upd w w1 Nope := by rw [hw1]; exact (Upd.refl _ _).alloc _
  clear hw1
  obtain ⟨g, hg⟩ : ∃ g, g = w.heap.size := ⟨_, rfl⟩
  rw [← hg] at hc1 ⊢
  have HG := Lib.hid hg
  clear hg
  go_wp2_with fail
  refine (new_bad (-1) 1 w1 (by omega)).mono ?_
  rintro e w1' ⟨rfl, hw⟩
  subst hw
  go_wp2_with fail
  refine (read_any g 2 2 3 0 0 5 _ hc1 (by omega) (by omega) (by omega) (by omega) (by omega) (by omega)).mono ?_
  rintro e w2 ⟨rfl, hc2, hu2⟩
  have e1 : rdT 2 5 = 5 := by unfold rdT imin; simp
  have e2 : rdB 2 0 5 = 0 := by unfold rdB; simp
  simp only [e1, e2] at hc2 ⊢
  clear e1 e2
  go_wp2_with fail
  refine (due_any g _ _ _ _ _ _ hc2 (by omega) (by omega) (by omega) (by omega)).mono ?_
  rintro e w3 ⟨rfl, hd3⟩
  have hc3 : Clk w3 g 5 2 3 (0+1) 0 := hc2.upd (hd3.upd Nope) id
  go_wp2_with fail
  refine (read_any g _ _ _ _ _ 3 _ hc3 (by omega) (by omega) (by omega) (by omega) (by omega) (by omega)).mono ?_
  rintro e w4 ⟨rfl, hc4, hu4⟩
  have e1 : rdT 5 3 = 5 := by unfold rdT; simp
  have e2 : rdB 5 0 3 = 1 := by unfold rdB; simp
  simp only [e1, e2] at hc4 ⊢
  clear e1 e2
  go_wp2_with fail
  refine (readings_any g _ _ _ _ _ _ hc4).mono ?_
  rintro e w5 ⟨rfl, hd5⟩
  have hc5 : Clk w5 g 5 2 3 (0+1+1) 1 := hc4.upd (hd5.upd Nope) id
  go_wp2_with fail
  refine (mark_any g _ _ _ _ _ _ hc5).mono ?_
  rintro e w6 ⟨rfl, hd6⟩
  have hc6 : Clk w6 g 5 2 3 (0+1+1) 1 := hc5.upd (hd6.upd Nope) id
  go_wp2_with fail
  refine (marked_any g _ _ _ _ _ _ hc6).mono ?_
  rintro e w7 ⟨rfl, hc7, hu7⟩
  go_wp2_with fail
  refine (mark_any g _ _ _ _ _ _ hc7).mono ?_
  rintro e w8 ⟨rfl, hd8⟩
  have hc8 : Clk w8 g 5 5 3 (0+1+1) 1 := hc7.upd (hd8.upd Nope) id
  go_wp2_with fail
  refine (due_any g _ _ _ _ _ _ hc8 (by omega) (by omega) (by omega) (by omega)).mono ?_
  rintro e w9 ⟨rfl, hd9⟩
  have hc9 : Clk w9 g 5 5 3 (0+1+1) 1 := hc8.upd (hd9.upd Nope) id
  go_wp2_with fail
  refine (tick_any g _ _ _ _ _ _ hc9).mono ?_
  rintro e w10 ⟨rfl, hd10⟩
  go_wp2_with fail
  go_ret
  have F : ∀ k, k < w.heap.size → k = g → Nope k := fun k h e => by have := HG.out; omega
  have hA := ((((((((hu1.trans hu2 (fun _ _ h => h) F).trans (hd3.upd Nope) (fun _ _ h => h) (fun _ _ h => h)).trans hu4 (fun _ _ h => h) F).trans (hd5.upd Nope) (fun _ _ h => h) (fun _ _ h => h)).trans (hd6.upd Nope) (fun _ _ h => h) (fun _ _ h => h)).trans hu7 (fun _ _ h => h) F).trans (hd8.upd Nope) (fun _ _ h => h) (fun _ _ h => h)).trans (hd9.upd Nope) (fun _ _ h => h) (fun _ _ h => h)).trans (hd10.upd Nope) (fun _ _ h => h) (fun _ _ h => h)
  exact ⟨by rfl, hA⟩
end Go.Proofs.Ytojpgdhbfhdpoaa
