/- ClockLasts: its walk. -/
import Derived.Test.YtojpgdhbfhdpoaaRef
import Derived.Test.YtojpgdhbfhdpoaaAwk
set_option linter.unusedVariables false
set_option linter.unusedSimpArgs false
namespace Go.Proofs.Ytojpgdhbfhdpoaa
open Go.RowKit
attribute [local go_sem] bmin2 bmax2 bmin_two bmax_two makeFunc_run

theorem tickOf_from (M : Int) (l : List Int) (h0 : 0 ≤ M) (h1 : M ≤ 1099511627776) : tickOf M l = max M (tickOf 0 l) := by
  have h : ∀ (a b : Int) (l : List Int), a ≤ 1099511627776 → b ≤ a → tickOf a l = max a (tickOf b l) := by
    intro a b l
    induction l generalizing a b with
    | nil => intro h1 h2; simp [tickOf]; omega
    | cons x l ih =>
      intro h1 h2
      have e1 := rdT_eq a x h1
      have e2 := rdT_eq b x (by omega)
      have := ih (rdT a x) (rdT b x) (by omega) (by omega)
      have h3 : tickOf a (x :: l) = tickOf (rdT a x) l := rfl
      have h4 : tickOf b (x :: l) = tickOf (rdT b x) l := rfl
      have h5 := (tickOf_bd (rdT b x) l (by omega)).1
      rw [h3, h4]
      omega
  exact h M 0 l h1 h0

set_option maxHeartbeats 4000000 in
set_option maxRecDepth 100000 in
theorem lasts_walk (w : World) (step : Int) (ws : (Lit.int .i64 step).wf = true) (A : Option Addr) (cap : Nat) (l : List Int) (rd : RdInts w A l) (hc : l.length ≤ cap) (hm : cap ≤ maxLen)
    (_ok : ∀ y ∈ l, (Lit.int .i64 y).wf = true) :
    Calls Try.prog 5 #[.int .i64 step, .slice A l.length cap] w fun e w' => e = .returned (.bool true) ∧ Below w.heap.size w w' := by
  unfold maxLen at hm
  by_cases c3 : 200 < l.length ∨ step < 1 ∨ 1048576 < step
  · rcases (show 200 < l.length ∨ (¬ 200 < l.length ∧ step < 1) ∨ (¬ 200 < l.length ∧ 1 ≤ step ∧ 1048576 < step) by omega) with h | ⟨h, h'⟩ | ⟨h, h', h''⟩
    all_goals
      go_enter Try.func5, Try.ntmps5
      go_wp2_with (refine (awake_any w).mono ?_; rintro e w1 ⟨rfl, hu1⟩)
      go_ret
      exact ⟨rfl, hu1.below (fun _ h => h.elim)⟩
  go_enter Try.func5, Try.ntmps5
  go_wp2_with fail
  refine (awake_any w).mono ?_
  rintro e w1 ⟨rfl, hu1⟩
  have s0 : l.length ≤ 200 := by omega
  have s1 : 1 ≤ step := by omega
  have s2 : step ≤ 1048576 := by omega
  clear c3
  go_wp2_with fail
  refine (new_ok 0 step w1 (by omega) (by omega) (by omega) (by omega)).mono ?_
  rintro e w2 ⟨rfl, hw2⟩
  have ha2 : Clk w2 w1.heap.size 0 0 step 0 0 := by rw [hw2]; exact Blk.new _ _ _
  have hu2 : Upd w w2 Nope := by rw [hw2]; exact hu1.alloc _
  have hg1 := hu1.size
  clear hw2
  obtain ⟨g, hg⟩ : ∃ g, g = w1.heap.size := ⟨_, rfl⟩
  rw [← hg] at ha2 hg1 ⊢
  clear hg hu1
  have b0 := backOf_bd 0 l
  have RD := Lib.hid rd
  clear rd
  go_wp2_with fail
  go_loopw [7] (fun i wr => ∃ (k : Nat) (M : Int), k ≤ l.length ∧ i = .int .i64 k ∧ 0 ≤ M ∧ M ≤ tickOf 0 (l.take k) ∧ tickOf 0 (l.take k) - M < step ∧
    Clk wr g (tickOf 0 (l.take k)) M step k (backOf 0 l k) ∧ Upd w wr Nope) (fun i _ => l.length - (intOf i).toNat)
  case atStart => exact ⟨0, 0, Nat.zero_le _, rfl, by omega, by simp [tickOf], by simp [tickOf]; omega, ha2, hu2⟩
  case round =>
    clear ha2 hu2
    obtain ⟨k, M, hk, rfl, hM0, hM1, hM2, har, hur⟩ := hrel
    have bt := tickOf_bd 0 (l.take k) (by omega)
    have bk := b0 k
    by_cases hlt : k < l.length
    · obtain ⟨ad, rfl, hx⟩ := (RD.out.upd hur (fun _ h => h.elim)) k hlt
      have hs := tickOf_snoc 0 l k hlt
      have hbk : backOf 0 l (k + 1) = rdB (tickOf 0 (l.take k)) (backOf 0 l k) (l[k]'hlt) := by rw [backOf]; simp [List.getD, hlt]
      generalize tickOf 0 (l.take k) = T at hs hbk har bt hM1 hM2
      generalize backOf 0 l k = B at hbk har bk
      generalize l[k] = x at hs hbk hx
      have bT := rdT_le T x bt.2
      have hrd := read_any g T M step k B x
      generalize rdT T x = T' at hs bT hrd
      generalize rdB T B x = B' at hbk hrd
      have HS := Lib.hid hs
      have HBK := Lib.hid hbk
      have HR := Lib.hid hrd
      clear hs hbk hrd b0
      go_wp2_with fail
      refine (HR.out wr har (by omega) (by omega) (by omega) (by omega) (by omega) (by omega)).mono ?_
      rintro e w3 ⟨rfl, ha3, hu3⟩
      have hu3' := hur.on hu3 (by omega)
      clear har hur hu3 hx
      go_wp2_with fail
      refine (due_any g _ _ _ _ _ _ ha3 (by omega) (by omega) (by omega) (by omega)).mono ?_
      rintro e w4 ⟨rfl, hd4⟩
      have ha4 : Clk w4 g T' M step (k + 1) B' := ha3.upd (hd4.upd Nope) id
      have hu4 := hu3'.dr hd4
      clear ha3 hu3' hd4
      by_cases hdue : step ≤ T' - M
      · go_wp2_with fail
        refine (marked_any g _ _ _ _ _ _ ha4).mono ?_
        rintro e w5 ⟨rfl, ha5, hu5⟩
        have hu5' := hu4.on hu5 (by omega)
        clear ha4 hu4 hu5
        obtain ⟨M', hM'⟩ : ∃ M', M' = T' := ⟨_, rfl⟩
        have ha6 : Clk w5 g T' M' step (k + 1) B' := by rw [hM']; exact ha5
        have r1 : 0 ≤ M' := by omega
        have r2 : M' ≤ T' := by omega
        have r3 : T' - M' < step := by omega
        clear ha5 hM' hdue hM0 hM1 hM2
        go_wp2_with fail
        refine (mark_any g _ _ _ _ _ _ ha6).mono ?_
        rintro e w6 ⟨rfl, hd6⟩
        have ha7 : Clk w6 g T' M' step (k + 1) B' := ha6.upd (hd6.upd Nope) id
        have hu7 := hu5'.dr hd6
        clear ha6 hu5' hd6
        go_wp2_with fail
        refine (new_ok M' step w6 (by omega) (by omega) (by omega) (by omega)).mono ?_
        rintro e w7 ⟨rfl, hw7⟩
        have hb7 : Clk w7 w6.heap.size M' M' step 0 0 := by rw [hw7]; exact Blk.new _ _ _
        have ha8 : Clk w7 g T' M' step (k + 1) B' := by rw [hw7]; exact ha7.alloc _
        have hu8 : Upd w w7 Nope := by rw [hw7]; exact hu7.alloc _
        have hg2 := hu7.size
        have hgb := ha7.lt
        clear hw7
        obtain ⟨b, hb⟩ : ∃ b, b = w6.heap.size := ⟨_, rfl⟩
        rw [← hb] at hb7 hg2 hgb ⊢
        clear hb ha7 hu7
        go_wp2_with fail
        refine (tick_any g _ _ _ _ _ _ ha8).mono ?_
        rintro e w8 ⟨rfl, hd8⟩
        have ha9 : Clk w8 g T' M' step (k + 1) B' := ha8.upd (hd8.upd Nope) id
        have hb9 : Clk w8 b M' M' step 0 0 := hb7.upd (hd8.upd Nope) id
        have hu9 := hu8.dr hd8
        clear ha8 hb7 hu8 hd8
        go_wp2_with fail
        refine (tick_any b _ _ _ _ _ _ hb9).mono ?_
        rintro e w9 ⟨rfl, hd9⟩
        have ha10 : Clk w9 g T' M' step (k + 1) B' := ha9.upd (hd9.upd Nope) id
        have hb10 : Clk w9 b M' M' step 0 0 := hb9.upd (hd9.upd Nope) id
        have hu10 := hu9.dr hd9
        clear ha9 hb9 hu9 hd9
        go_wp2_with fail
        refine (tick_any b _ _ _ _ _ _ hb10).mono ?_
        rintro e w10 ⟨rfl, hd10⟩
        have ha11 : Clk w10 g T' M' step (k + 1) B' := ha10.upd (hd10.upd Nope) id
        have hb11 : Clk w10 b M' M' step 0 0 := hb10.upd (hd10.upd Nope) id
        have hu11 := hu10.dr hd10
        clear ha10 hb10 hu10 hd10
        go_wp2_with fail
        refine (tick_any g _ _ _ _ _ _ ha11).mono ?_
        rintro e w11 ⟨rfl, hd11⟩
        have ha12 : Clk w11 g T' M' step (k + 1) B' := ha11.upd (hd11.upd Nope) id
        have hb12 : Clk w11 b M' M' step 0 0 := hb11.upd (hd11.upd Nope) id
        have hu12 := hu11.dr hd11
        clear ha11 hb11 hu11 hd11
        go_wp2_with fail
        refine (due_any b _ _ _ _ _ _ hb12 (by omega) (by omega) (by omega) (by omega)).mono ?_
        rintro e w12 ⟨rfl, hd12⟩
        have ha13 : Clk w12 g T' M' step (k + 1) B' := ha12.upd (hd12.upd Nope) id
        have hb13 : Clk w12 b M' M' step 0 0 := hb12.upd (hd12.upd Nope) id
        have hu13 := hu12.dr hd12
        clear ha12 hb12 hu12 hd12
        have hf : decide (step ≤ M' - M') = false := by simp; omega
        by_cases h10 : (k : Int) % 10 = 0
        · have h10b : ((k : Int) % 10 == 0) = true := by rw [h10]; rfl
          clear h10
          go_wp2_with fail
          go_loopw [10] (fun i wq => ∃ (j : Nat) (Bb : Int), j ≤ k + 1 ∧ i = .int .i64 j ∧ 0 ≤ Bb ∧ Bb ≤ j ∧ Clk wq g T' M' step (k + 1) B' ∧ Clk wq b (tickOf M' (l.take j)) M' step j Bb ∧ Upd w wq Nope) (fun i _ => k + 1 - (intOf i).toNat)
          case atStart => exact ⟨0, 0, Nat.zero_le _, rfl, by omega, by omega, ha13, hb13, hu13⟩
          case round =>
            clear ha13 hb13 hu13
            obtain ⟨j, Bb, hj, rfl, hB1, hB2, har, hbr, hur⟩ := hrel
            have bs := tickOf_bd M' (l.take j) (by omega)
            by_cases hlt2 : j < k + 1
            · have hjl : j < l.length := by omega
              have hx := (RD.out.upd hur (fun _ h => h.elim)).at_ j hjl
              have e1 := tickOf_snoc M' l j hjl
              generalize tickOf M' (l.take j) = S at e1 hbr bs
              generalize l[j] = y at e1 hx
              have E1 := Lib.hid e1
              clear e1
              go_wp2_with fail
              refine (read_any b S M' step j Bb y _ hbr (by omega) (by omega) (by omega) (by omega) (by omega) (by omega)).mono ?_
              rintro e w14 ⟨rfl, hb14, hu14⟩
              have ha14 : Clk w14 g T' M' step (k + 1) B' := har.upd hu14 (by omega)
              have hu14' := hur.on hu14 (by omega)
              have bb : 0 ≤ rdB S Bb y ∧ rdB S Bb y ≤ Bb + 1 := by unfold rdB; split <;> omega
              clear har hbr hur hu14 hx
              go_wp2
              go_roundw
              case rel => exact ⟨j + 1, rdB S Bb y, by omega, by go_num, bb.1, by omega, ha14, by rw [E1.out]; simpa using hb14, hu14'⟩
              case measure => simp [intOf]; omega
            · obtain rfl : j = k + 1 := by omega
              have eT : tickOf M' (l.take (k + 1)) = T' := by
                rw [tickOf_from M' _ r1 (by omega)]
                have := HS.out
                omega
              rw [eT] at hbr bs
              clear eT
              go_wp2_with fail
              refine (tick_any b _ _ _ _ _ _ hbr).mono ?_
              rintro e w14 ⟨rfl, hd14⟩
              have ha14 : Clk w14 g T' M' step (k + 1) B' := har.upd (hd14.upd Nope) id
              have hu14 := hur.dr hd14
              clear har hbr hur hd14
              go_wp2_with fail
              refine (tick_any g _ _ _ _ _ _ ha14).mono ?_
              rintro e w15 ⟨rfl, hd15⟩
              have ha15 : Clk w15 g T' M' step (k + 1) B' := ha14.upd (hd15.upd Nope) id
              have hu15 := hu14.dr hd15
              go_wp2
              go_roundw
              case rel => exact ⟨k + 1, M', by omega, by go_num, r1, by rw [HS.out]; exact r2, by rw [HS.out]; exact r3, by rw [HS.out, HBK.out]; simpa using ha15, hu15⟩
              case measure => simp [intOf]; omega
        · go_wp2
          go_roundw
          case rel => exact ⟨k + 1, M', by omega, by go_num, r1, by rw [HS.out]; exact r2, by rw [HS.out]; exact r3, by rw [HS.out, HBK.out]; simpa using ha13, hu13⟩
          case measure => simp [intOf]; omega
      · go_wp2_with fail
        refine (mark_any g _ _ _ _ _ _ ha4).mono ?_
        rintro e w6 ⟨rfl, hd6⟩
        obtain ⟨M', hM'⟩ : ∃ M', M' = M := ⟨_, rfl⟩
        have ha7 : Clk w6 g T' M' step (k + 1) B' := by rw [hM']; exact ha4.upd (hd6.upd Nope) id
        have hu7 := hu4.dr hd6
        have r1 : 0 ≤ M' := by omega
        have r2 : M' ≤ T' := by omega
        have r3 : T' - M' < step := by omega
        rw [← hM']
        clear ha4 hu4 hd6 hM' hdue hM0 hM1 hM2
        go_wp2_with fail
        refine (new_ok M' step w6 (by omega) (by omega) (by omega) (by omega)).mono ?_
        rintro e w7 ⟨rfl, hw7⟩
        have hb7 : Clk w7 w6.heap.size M' M' step 0 0 := by rw [hw7]; exact Blk.new _ _ _
        have ha8 : Clk w7 g T' M' step (k + 1) B' := by rw [hw7]; exact ha7.alloc _
        have hu8 : Upd w w7 Nope := by rw [hw7]; exact hu7.alloc _
        have hg2 := hu7.size
        have hgb := ha7.lt
        clear hw7
        obtain ⟨b, hb⟩ : ∃ b, b = w6.heap.size := ⟨_, rfl⟩
        rw [← hb] at hb7 hg2 hgb ⊢
        clear hb ha7 hu7
        go_wp2_with fail
        refine (tick_any g _ _ _ _ _ _ ha8).mono ?_
        rintro e w8 ⟨rfl, hd8⟩
        have ha9 : Clk w8 g T' M' step (k + 1) B' := ha8.upd (hd8.upd Nope) id
        have hb9 : Clk w8 b M' M' step 0 0 := hb7.upd (hd8.upd Nope) id
        have hu9 := hu8.dr hd8
        clear ha8 hb7 hu8 hd8
        go_wp2_with fail
        refine (tick_any b _ _ _ _ _ _ hb9).mono ?_
        rintro e w9 ⟨rfl, hd9⟩
        have ha10 : Clk w9 g T' M' step (k + 1) B' := ha9.upd (hd9.upd Nope) id
        have hb10 : Clk w9 b M' M' step 0 0 := hb9.upd (hd9.upd Nope) id
        have hu10 := hu9.dr hd9
        clear ha9 hb9 hu9 hd9
        go_wp2_with fail
        refine (tick_any b _ _ _ _ _ _ hb10).mono ?_
        rintro e w10 ⟨rfl, hd10⟩
        have ha11 : Clk w10 g T' M' step (k + 1) B' := ha10.upd (hd10.upd Nope) id
        have hb11 : Clk w10 b M' M' step 0 0 := hb10.upd (hd10.upd Nope) id
        have hu11 := hu10.dr hd10
        clear ha10 hb10 hu10 hd10
        go_wp2_with fail
        refine (tick_any g _ _ _ _ _ _ ha11).mono ?_
        rintro e w11 ⟨rfl, hd11⟩
        have ha12 : Clk w11 g T' M' step (k + 1) B' := ha11.upd (hd11.upd Nope) id
        have hb12 : Clk w11 b M' M' step 0 0 := hb11.upd (hd11.upd Nope) id
        have hu12 := hu11.dr hd11
        clear ha11 hb11 hu11 hd11
        go_wp2_with fail
        refine (due_any b _ _ _ _ _ _ hb12 (by omega) (by omega) (by omega) (by omega)).mono ?_
        rintro e w12 ⟨rfl, hd12⟩
        have ha13 : Clk w12 g T' M' step (k + 1) B' := ha12.upd (hd12.upd Nope) id
        have hb13 : Clk w12 b M' M' step 0 0 := hb12.upd (hd12.upd Nope) id
        have hu13 := hu12.dr hd12
        clear ha12 hb12 hu12 hd12
        have hf : decide (step ≤ M' - M') = false := by simp; omega
        by_cases h10 : (k : Int) % 10 = 0
        · have h10b : ((k : Int) % 10 == 0) = true := by rw [h10]; rfl
          clear h10
          go_wp2_with fail
          go_loopw [10] (fun i wq => ∃ (j : Nat) (Bb : Int), j ≤ k + 1 ∧ i = .int .i64 j ∧ 0 ≤ Bb ∧ Bb ≤ j ∧ Clk wq g T' M' step (k + 1) B' ∧ Clk wq b (tickOf M' (l.take j)) M' step j Bb ∧ Upd w wq Nope) (fun i _ => k + 1 - (intOf i).toNat)
          case atStart => exact ⟨0, 0, Nat.zero_le _, rfl, by omega, by omega, ha13, hb13, hu13⟩
          case round =>
            clear ha13 hb13 hu13
            obtain ⟨j, Bb, hj, rfl, hB1, hB2, har, hbr, hur⟩ := hrel
            have bs := tickOf_bd M' (l.take j) (by omega)
            by_cases hlt2 : j < k + 1
            · have hjl : j < l.length := by omega
              have hx := (RD.out.upd hur (fun _ h => h.elim)).at_ j hjl
              have e1 := tickOf_snoc M' l j hjl
              generalize tickOf M' (l.take j) = S at e1 hbr bs
              generalize l[j] = y at e1 hx
              have E1 := Lib.hid e1
              clear e1
              go_wp2_with fail
              refine (read_any b S M' step j Bb y _ hbr (by omega) (by omega) (by omega) (by omega) (by omega) (by omega)).mono ?_
              rintro e w14 ⟨rfl, hb14, hu14⟩
              have ha14 : Clk w14 g T' M' step (k + 1) B' := har.upd hu14 (by omega)
              have hu14' := hur.on hu14 (by omega)
              have bb : 0 ≤ rdB S Bb y ∧ rdB S Bb y ≤ Bb + 1 := by unfold rdB; split <;> omega
              clear har hbr hur hu14 hx
              go_wp2
              go_roundw
              case rel => exact ⟨j + 1, rdB S Bb y, by omega, by go_num, bb.1, by omega, ha14, by rw [E1.out]; simpa using hb14, hu14'⟩
              case measure => simp [intOf]; omega
            · obtain rfl : j = k + 1 := by omega
              have eT : tickOf M' (l.take (k + 1)) = T' := by
                rw [tickOf_from M' _ r1 (by omega)]
                have := HS.out
                omega
              rw [eT] at hbr bs
              clear eT
              go_wp2_with fail
              refine (tick_any b _ _ _ _ _ _ hbr).mono ?_
              rintro e w14 ⟨rfl, hd14⟩
              have ha14 : Clk w14 g T' M' step (k + 1) B' := har.upd (hd14.upd Nope) id
              have hu14 := hur.dr hd14
              clear har hbr hur hd14
              go_wp2_with fail
              refine (tick_any g _ _ _ _ _ _ ha14).mono ?_
              rintro e w15 ⟨rfl, hd15⟩
              have ha15 : Clk w15 g T' M' step (k + 1) B' := ha14.upd (hd15.upd Nope) id
              have hu15 := hu14.dr hd15
              go_wp2
              go_roundw
              case rel => exact ⟨k + 1, M', by omega, by go_num, r1, by rw [HS.out]; exact r2, by rw [HS.out]; exact r3, by rw [HS.out, HBK.out]; simpa using ha15, hu15⟩
              case measure => simp [intOf]; omega
        · go_wp2
          go_roundw
          case rel => exact ⟨k + 1, M', by omega, by go_num, r1, by rw [HS.out]; exact r2, by rw [HS.out]; exact r3, by rw [HS.out, HBK.out]; simpa using ha13, hu13⟩
          case measure => simp [intOf]; omega
    · go_wp2_with fail
      go_ret
      exact ⟨rfl, hur.below (fun _ h => h.elim)⟩
end Go.Proofs.Ytojpgdhbfhdpoaa
