/- ClockTells: its walk. -/
import Derived.Test.YtojpgdhbfhdpoaaRef
import Derived.Test.YtojpgdhbfhdpoaaAwk
set_option linter.unusedVariables false
set_option linter.unusedSimpArgs false
namespace Go.Proofs.Ytojpgdhbfhdpoaa
open Go.RowKit
attribute [local go_sem] bmin2 bmax2 bmin_two bmax_two makeFunc_run

theorem ref_back_take (mark : Int) (A : Option Addr) (c : Nat) (l : List Int) (k : Nat) (hk : k ≤ l.length) (hc : l.length ≤ c) (w : World) (hr : RdInts w A l) (hm : mark ≤ 1099511627776) (hl : l.length ≤ 1000000) :
    Calls Try.prog 13 #[.int .i64 mark, .slice A k c] w fun e w' => e = .returned (.int .i64 (backOf mark l k)) ∧ Drew w w' := by
  have e : (l.take k).length = k := by rw [List.length_take]; omega
  have h := ref_back mark A c (l.take k) w (hr.take k) hm (by omega) (by omega)
  rw [e] at h
  rw [backOf_take mark l k k (Nat.le_refl _)] at h
  exact h

set_option maxHeartbeats 4000000 in
set_option maxRecDepth 100000 in
theorem tells_walk (w : World) (mark : Int) (wm : (Lit.int .i64 mark).wf = true) (step : Int) (ws : (Lit.int .i64 step).wf = true) (A : Option Addr) (cap : Nat) (l : List Int) (rd : RdInts w A l) (hc : l.length ≤ cap) (hm : cap ≤ maxLen)
    (_ok : ∀ y ∈ l, (Lit.int .i64 y).wf = true) (A2 : Option Addr) (cap2 : Nat) (l2 : List Bool) (rd2 : Rd1 Value.bool w A2 l2) (hc2 : l2.length ≤ cap2) (hm2 : cap2 ≤ maxLen) (_ok2 : ∀ y ∈ l2, True) :
    Calls Try.prog 3 #[.int .i64 mark, .int .i64 step, .slice A l.length cap, .slice A2 l2.length cap2] w fun e w' => e = .returned (.bool true) ∧ Below w.heap.size w w' := by
  unfold maxLen at hm hm2
  by_cases c1 : 150 < l.length
  · go_enter Try.func3, Try.ntmps3
    go_wp2_with (refine (awake_any w).mono ?_; rintro e w1 ⟨rfl, hu1⟩)
    go_ret
    exact ⟨rfl, hu1.below (fun _ h => h.elim)⟩
  by_cases c2 : 1000 < l2.length
  · go_enter Try.func3, Try.ntmps3
    go_wp2_with (refine (awake_any w).mono ?_; rintro e w1 ⟨rfl, hu1⟩)
    go_ret
    exact ⟨rfl, hu1.below (fun _ h => h.elim)⟩
  by_cases c3 : mark < 0 ∨ 1099511627776 < mark ∨ step < 1 ∨ 1048576 < step
  · rcases (show mark < 0 ∨ (0 ≤ mark ∧ 1099511627776 < mark) ∨ (0 ≤ mark ∧ mark ≤ 1099511627776 ∧ step < 1) ∨ (0 ≤ mark ∧ mark ≤ 1099511627776 ∧ 1 ≤ step ∧ 1048576 < step) by omega) with h | ⟨h, h'⟩ | ⟨h, h', h''⟩ | ⟨h, h', h'', h3⟩
    all_goals
      go_enter Try.func3, Try.ntmps3
      go_wp2_with fail
      refine (awake_any w).mono ?_
      rintro e w1 ⟨rfl, hu1⟩
      go_wp2_with fail
      refine (new_bad mark step w1 c3).mono ?_
      rintro e w2 ⟨rfl, hw2⟩
      subst hw2
      go_wp2_with fail
      go_ret
      exact ⟨rfl, hu1.below (fun _ h => h.elim)⟩
  go_enter Try.func3, Try.ntmps3
  go_wp2_with fail
  refine (awake_any w).mono ?_
  rintro e w1 ⟨rfl, hu1⟩
  go_wp2_with fail
  refine (new_ok mark step w1 (by omega) (by omega) (by omega) (by omega)).mono ?_
  rintro e w2 ⟨rfl, hw2⟩
  have hc2' : Clk w2 w1.heap.size mark mark step 0 0 := by rw [hw2]; exact Blk.new _ _ _
  have hu2 : Upd w w2 Nope := by rw [hw2]; exact hu1.alloc _
  have hg1 := hu1.size
  clear hw2
  obtain ⟨g, hg⟩ : ∃ g, g = w1.heap.size := ⟨_, rfl⟩
  rw [← hg] at hc2' hg1 ⊢
  clear hg hu1
  have s1 : 0 ≤ mark := by omega
  have s2 : mark ≤ 1099511627776 := by omega
  have s3 : 1 ≤ step := by omega
  have s4 : step ≤ 1048576 := by omega
  clear c3
  have b0 := backOf_bd mark l
  go_wp2_with fail
  go_loopw [11, 12] (fun m i wr => ∃ (k : Nat) (M : Int), k ≤ l.length ∧ i = .int .i64 k ∧ m = .int .i64 M ∧ mark ≤ M ∧ M ≤ tickOf mark (l.take k) ∧ Clk wr g (tickOf mark (l.take k)) M step k (backOf mark l k) ∧ Upd w wr Nope) (fun _ i _ => l.length - (intOf i).toNat)
  case atStart => exact ⟨0, mark, Nat.zero_le _, rfl, rfl, Int.le_refl _, (tickOf_bd mark _ s2).1, hc2', hu2⟩
  case round =>
    clear hc2' hu2
    obtain ⟨k, M, hk, rfl, rfl, hM, hM2, hcr, hur⟩ := hrel
    have bt := tickOf_bd mark (l.take k) s2
    have bk := b0 k
    by_cases hlt : k < l.length
    · have bk2 := b0 (k + 1)
      have hrr := rd.upd hur (fun _ h => h.elim)
      have hrr2 := rd2.upd hur (fun _ h => h.elim)
      obtain ⟨ad, rfl, hx⟩ := hrr k hlt
      have hcut1 := fun W => cut_take (some ad) l.length cap k k rfl (by omega) W
      have hcut2 := fun W => cut_take (some ad) l.length cap (k + 1) ((k : Int) + 1) (by omega) (by omega) W
      have hs := tickOf_snoc mark l k hlt
      have hb : backOf mark l (k + 1) = rdB (tickOf mark (l.take k)) (backOf mark l k) (l[k]'hlt) := by rw [backOf]; simp [List.getD, hlt]
      have qx := fun W (h : RdInts W (some ad) l) => h.at_ k hlt
      have q1 := fun W (h : RdInts W (some ad) l) => ref_tick_take mark (some ad) cap l k (by omega) W h s2 (by omega)
      have q2 := fun W (h : RdInts W (some ad) l) => ref_tick_take mark (some ad) cap l (k + 1) (by omega) W h s2 (by omega)
      have q3 := fun W (h : RdInts W (some ad) l) => ref_back_take mark (some ad) cap l (k + 1) (by omega) hc W h s2 (by omega)
      rw [hs] at q2
      rw [hb] at q3 bk2
      generalize tickOf mark (l.take k) = T at hs hb hcr bt q1 q2 q3 hM2 bk2
      generalize backOf mark l k = B at hb hcr bk q3 bk2
      generalize l[k] = x at hs hb qx q2 q3 bk2
      have bT := rdT_le T x bt.2
      have bdd : wrap64 (rdT T x - T) = rdT T x - T := wrap64_in (by omega) (by omega)
      have hrd := read_any g T M step k B x
      generalize rdT T x = T' at hs q2 bT bdd hrd
      generalize rdB T B x = B' at hb q3 hrd bk2
      have HS := Lib.hid hs
      have HB := Lib.hid hb
      have HBD := Lib.hid bdd
      have QX := Lib.hid qx
      have Q1 := Lib.hid q1
      have Q2 := Lib.hid q2
      have Q3 := Lib.hid q3
      have HR := Lib.hid hrd
      have RD := Lib.hid rd
      have RD2 := Lib.hid rd2
      have RR2 := Lib.hid hrr2
      clear hs hb b0 bdd hx qx q1 q2 q3 hrd rd rd2 hrr2
      go_wp2_with fail
      refine (Q1.out wr hrr).mono ?_
      rintro e w3 ⟨rfl, hd3⟩
      have hr3 := hrr.of_drew hd3
      have hc3 : Clk w3 g T M step k B := hcr.upd (hd3.upd Nope) id
      have hu3 := hur.dr hd3
      clear hrr hcr hur hd3
      go_wp2_with fail
      refine (Q2.out w3 hr3).mono ?_
      rintro e w4 ⟨rfl, hd4⟩
      have hr4 := hr3.of_drew hd4
      have hc4 : Clk w4 g T M step k B := hc3.upd (hd4.upd Nope) id
      have hu4 := hu3.dr hd4
      have hx4 := QX.out w4 hr4
      clear hr3 hc3 hu3 hd4
      go_wp2_with fail
      refine (HR.out w4 hc4 (by omega) (by omega) (by omega) (by omega) (by omega) (by omega)).mono ?_
      rintro e w5 ⟨rfl, hc5, hu5⟩
      have hu5' := hu4.on hu5 (by omega)
      have hr5 := RD.out.upd hu5' (fun _ h => h.elim)
      clear hr4 hc4 hu4 hu5 hx4
      go_wp2_with fail
      refine (readings_any g _ _ _ _ _ _ hc5).mono ?_
      rintro e w6 ⟨rfl, hd6⟩
      have hr6 := hr5.of_drew hd6
      have hc6 : Clk w6 g T' M step (k + 1) B' := hc5.upd (hd6.upd Nope) id
      have hu6 := hu5'.dr hd6
      clear hr5 hc5 hu5' hd6
      go_wp2_with fail
      refine (tick_any g _ _ _ _ _ _ hc6).mono ?_
      rintro e w7 ⟨rfl, hd7⟩
      have hr7 := hr6.of_drew hd7
      have hc7 : Clk w7 g T' M step (k + 1) B' := hc6.upd (hd7.upd Nope) id
      have hu7 := hu6.dr hd7
      clear hr6 hc6 hu6 hd7
      go_wp2_with fail
      refine (Q3.out w7 hr7).mono ?_
      rintro e w8 ⟨rfl, hd8⟩
      have hc8 : Clk w8 g T' M step (k + 1) B' := hc7.upd (hd8.upd Nope) id
      have hu8 := hu7.dr hd8
      clear hr7 hc7 hu7 hd8
      go_wp2_with fail
      refine (mark_any g _ _ _ _ _ _ hc8).mono ?_
      rintro e w9 ⟨rfl, hd9⟩
      have hc9 : Clk w9 g T' M step (k + 1) B' := hc8.upd (hd9.upd Nope) id
      have hu9 := hu8.dr hd9
      clear hc8 hu8 hd9
      go_wp2_with fail
      refine (due_any g _ _ _ _ _ _ hc9 (by omega) (by omega) (by omega) (by omega)).mono ?_
      rintro e w10 ⟨rfl, hd10⟩
      have hc10 : Clk w10 g T' M step (k + 1) B' := hc9.upd (hd10.upd Nope) id
      have hu10 := hu9.dr hd10
      clear hc9 hu9 hd10
      have hTM : wrap64 (T' - M) = T' - M := wrap64_in (by omega) (by omega)
      have HTM := Lib.hid hTM
      clear hTM
      by_cases hlt2 : k < l2.length
      · obtain ⟨ad2, rfl, hx2⟩ := RR2.out k hlt2
        have hx10 := (RD2.out.upd hu10 (fun _ h => h.elim)).at_ k hlt2
        generalize l2[k] = b at hx10
        clear hx2
        cases b with
        | true =>
          go_wp2_with fail
          refine (marked_any g _ _ _ _ _ _ hc10).mono ?_
          rintro e w11 ⟨rfl, hc11, hu11⟩
          have hu11' := hu10.on hu11 (by omega)
          clear hc10 hu10 hu11
          go_wp2_with fail
          refine (mark_any g _ _ _ _ _ _ hc11).mono ?_
          rintro e w12 ⟨rfl, hd12⟩
          have hc12 : Clk w12 g T' T' step (k + 1) B' := hc11.upd (hd12.upd Nope) id
          have hu12 := hu11'.dr hd12
          clear hc11 hu11' hd12
          go_wp2_with fail
          refine (due_any g _ _ _ _ _ _ hc12 (by omega) (by omega) (by omega) (by omega)).mono ?_
          rintro e w13 ⟨rfl, hd13⟩
          have hc13 : Clk w13 g T' T' step (k + 1) B' := hc12.upd (hd13.upd Nope) id
          have hu13 := hu12.dr hd13
          clear hc12 hu12 hd13
          have hf : decide (step ≤ T' - T') = false := by simp; omega
          go_wp2
          go_roundw
          case rel => exact ⟨k + 1, T', by omega, by go_num, rfl, by omega, by rw [HS.out]; omega, by rw [HS.out, HB.out]; simpa using hc13, hu13⟩
          case measure => simp [intOf]; omega
        | false =>
          go_wp2
          go_roundw
          case rel => exact ⟨k + 1, M, by omega, by go_num, rfl, by omega, by rw [HS.out]; omega, by rw [HS.out, HB.out]; simpa using hc10, hu10⟩
          case measure => simp [intOf]; omega
      · go_wp2
        go_roundw
        case rel => exact ⟨k + 1, M, by omega, by go_num, rfl, by omega, by rw [HS.out]; omega, by rw [HS.out, HB.out]; simpa using hc10, hu10⟩
        case measure => simp [intOf]; omega
    · go_wp2_with fail
      go_ret
      exact ⟨rfl, hur.below (fun _ h => h.elim)⟩
end Go.Proofs.Ytojpgdhbfhdpoaa
