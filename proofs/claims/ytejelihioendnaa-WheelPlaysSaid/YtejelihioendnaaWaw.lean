/- awake. -/
import Derived.Test.YtejelihioendnaaWsm
set_option linter.unusedVariables false
set_option linter.unusedSimpArgs false
namespace Go.Proofs.Ytejelihioendnaa
open Go.RowKit

theorem awk1 : setT 3 [] 2 5 = [(5, 2)] := by decide
theorem awk2 : setT 3 [(5, 2)] 1 5 = [(5, 1), (5, 2)] := by decide
theorem awk3 : setT 3 [(5, 1), (5, 2)] 9 0 = [(4, 9), (5, 1), (5, 2)] := by decide
theorem awk4 : advR 3 [(4, 9), (5, 1), (5, 2)] 100 2 = ⟨[9, 1, 2], 5, 0, 5, []⟩ := by
  have h1 : advOk 3 100 2 = true := by decide
  have h2 : adv 100 (2 : Int).toNat 3 [(4, 9), (5, 1), (5, 2)] [] = (5, [], [9, 1, 2]) := by
    rw [adv_go (by decide) (by decide), show rest 4 [((4 : Int), (9 : Int)), (5, 1), (5, 2)] = [(5, 1), (5, 2)] by decide, show ([] : List Int) ++ grp 4 [(4, 9), (5, 1), (5, 2)] = [9] by decide,
      adv_go (by decide) (by decide), show rest 5 [((5 : Int), (1 : Int)), (5, 2)] = [] by decide, show [9] ++ grp 5 [((5 : Int), (1 : Int)), (5, 2)] = [9, 1, 2] by decide, adv_full (by decide)]
  unfold advR
  rw [h1, h2]
  rfl
theorem awk5 : advR 5 [] 100 9 = ⟨[], 100, 0, 100, []⟩ := by
  have h1 : advOk 5 100 9 = true := by decide
  have h2 : adv 100 (9 : Int).toNat 5 [] [] = (100, [], []) := by rw [adv_stop (by decide) (fun n x T e => by cases e)]
  unfold advR
  rw [h1, h2]
  rfl
theorem awk6 : advR 100 [] 1 1 = ⟨[], 0, 1, 100, []⟩ := by unfold advR; rw [show advOk 100 1 1 = false by decide]; rfl
set_option maxRecDepth 100000 in
set_option maxHeartbeats 8000000 in
theorem awake_any (w : World) : Calls Try.prog 8 #[] w fun e w' => e = .returned (.bool true) ∧ Upd w w' Nope := by
  have hok := okI_of (a := 9) (by decide) (by decide)
  have hok2 := okI_of (a := 2) (by decide) (by decide)
  have hok1 := okI_of (a := 1) (by decide) (by decide)
  have HN := Lib.hid (at_new 3 w)
  go_enter Try.func8, Try.ntmps8
  go_wp2_with fail
  refine HN.out.mono ?_
  rintro e w1 ⟨_, h2, u1⟩
  obtain ⟨g, F, rfl, hA, hf⟩ := h2 (by decide)
  have HN2 := Lib.hid (at_new (-1) w1)
  have HA := Lib.hid hA
  have HF := Lib.hid hf
  have U1 := Lib.hid u1
  clear h2 u1 hA hf HN
  go_wp2_with fail
  refine HN2.out.mono ?_
  rintro e w2 ⟨h1, _, u2⟩
  obtain rfl := h1 (by decide)
  have H := Lib.hid ((HA.out.nn u2).set_ 2 5 hok2)
  rw [show setC 2 5 = 0 by decide] at H
  have U2 := Lib.hid (U1.out.nn u2)
  clear h1 u2 HN2
  go_wp2_with fail
  refine H.out.mono ?_
  rintro e w3 ⟨rfl, F3, hA3, hg3⟩
  rw [awk1] at hA3
  have H := Lib.hid (hA3.set_ 1 5 hok1)
  rw [show setC 1 5 = 0 by decide] at H
  have HG := Lib.hid hg3
  clear hA3 hg3
  go_wp2_with fail
  refine H.out.mono ?_
  rintro e w4 ⟨rfl, F4, hA4, hg4⟩
  rw [awk2] at hA4
  have H := Lib.hid (hA4.set_ 9 0 hok)
  rw [show setC 9 0 = 0 by decide] at H
  have HG := Lib.hid (HG.out.trans hg4)
  clear hA4 hg4
  go_wp2_with fail
  refine H.out.mono ?_
  rintro e w5 ⟨rfl, F5, hA5, hg5⟩
  rw [awk3] at hA5
  have H := Lib.hid (hA5.due_ 9 hok)
  rw [show dueL [((4 : Int), (9 : Int)), (5, 1), (5, 2)] 9 = (4, true) by decide] at H
  dsimp only at H
  have HG := Lib.hid (HG.out.trans hg5)
  clear hA5 hg5
  go_wp2_with fail
  refine H.out.mono ?_
  rintro e w6 ⟨rfl, F6, hA6, hg6⟩
  have H := Lib.hid hA6.next_
  rw [show mv (headO [((4 : Int), (9 : Int)), (5, 1), (5, 2)]) = .int .i64 4 from rfl, show mf (headO [((4 : Int), (9 : Int)), (5, 1), (5, 2)]) = .bool true from rfl] at H
  have HA := Lib.hid hA6
  have HG := Lib.hid (HG.out.trans hg6)
  clear hA6 hg6
  go_wp2_with fail
  refine H.out.mono ?_
  rintro e w7 ⟨rfl, u7⟩
  have H := Lib.hid ((HA.out.nn u7).adv_ (by decide) 100 2)
  have HG := Lib.hid (HG.out.post u7)
  clear u7
  rw [awk4] at H
  simp only [List.length_cons, List.length_nil] at H
  go_wp2_with fail
  refine H.out.mono ?_
  rintro e w8 ⟨A8, cap8, F8, rfl, hr8, hA8, hg8, hd8⟩
  have H := Lib.hid (hA8.adv_ (by decide) 100 9)
  rw [awk5] at H
  simp only [List.length_cons, List.length_nil] at H
  have HG := Lib.hid (HG.out.trans hg8)
  have HR := Lib.hid hr8
  have HR8 := Lib.hid hr8
  have HD := Lib.hid hd8
  clear hA8 hg8 hr8 hd8
  go_wp2_with fail
  refine H.out.mono ?_
  rintro e w9 ⟨A9, cap9, F9, rfl, hr9, hA9, hg9, hd9⟩
  have H := Lib.hid (hA9.adv_ (by decide) 1 1)
  rw [awk6] at H
  simp only [List.length_cons, List.length_nil] at H
  have HG := Lib.hid (HG.out.trans hg9)
  have HG9 := Lib.hid hg9
  have HR := Lib.hid (rd1_away HR.out hg9.upd (fun ad e => (HD.out ad e).2))
  clear hA9 hg9 hr9
  go_wp2_with fail
  refine H.out.mono ?_
  rintro e w10 ⟨A10, cap10, F10, rfl, hr10, hA10, hg10, hd10⟩
  have hr := rd1_away HR.out hg10.upd (fun ad e hf => by
    rcases HG9.out.new ad.block hf with h | h
    · exact (HD.out ad e).2 h
    · obtain ⟨q, e', hc⟩ := HR8.out 0 (by decide)
      rw [e] at e'
      cases e'
      have := World.block_lt_of_cell? w8 _ hc
      rw [addB] at this
      omega)
  obtain ⟨ad, rfl, c0⟩ := hr 0 (by decide)
  obtain ⟨_, e1, c1⟩ := hr 1 (by decide)
  cases e1
  obtain ⟨_, e2, c2⟩ := hr 2 (by decide)
  cases e2
  replace c0 : w10.cell? ad = some (.int .i64 9) := c0
  replace c1 : w10.cell? ⟨ad.block, ad.off + 1, none⟩ = some (.int .i64 1) := c1
  replace c2 : w10.cell? ⟨ad.block, ad.off + 2, none⟩ = some (.int .i64 2) := c2
  have HN := Lib.hid hA10.now_
  have HL := Lib.hid hA10.len_
  have HC := Lib.hid (hA10.cancel_ 1 hok1)
  rw [show ([] : List (Int × Int)).any (fun p => decide (p.2 = 1)) = false from rfl] at HC
  have HG := Lib.hid (HG.out.trans hg10)
  clear hA10 hg10 hd10 hr10 hr
  go_wp2_with (first
    | (go_at_call 18; refine HN.out.mono ?_; rintro e w11 ⟨rfl, rfl⟩)
    | (go_at_call 19; refine HL.out.mono ?_; rintro e w11 ⟨rfl, rfl⟩)
    | fail)
  refine HC.out.mono ?_
  rintro e w12 ⟨rfl, F12, hA12, hg12⟩
  have HU := Lib.hid (show Upd w w12 Nope from U2.out.trans (HG.out.trans hg12).upd (fun _ _ h => h) (fun i hi hf => absurd (HF.out i hf) (by omega)))
  clear hA12 hg12 c0 c1 c2
  go_wp2
  go_returns
  exact ⟨rfl, HU.out⟩
end Go.Proofs.Ytejelihioendnaa
