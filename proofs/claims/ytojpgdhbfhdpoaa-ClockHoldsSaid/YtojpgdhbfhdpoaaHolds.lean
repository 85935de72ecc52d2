/- ClockHolds: its walk. -/
import Derived.Test.YtojpgdhbfhdpoaaRef
import Derived.Test.YtojpgdhbfhdpoaaAwk
set_option linter.unusedVariables false
set_option linter.unusedSimpArgs false
namespace Go.Proofs.Ytojpgdhbfhdpoaa
open Go.RowKit
attribute [local go_sem] bmin2 bmax2 bmin_two bmax_two makeFunc_run

set_option maxHeartbeats 1000000 in
theorem holds_walk (w : World) (mark : Int) (_wm : (Lit.int .i64 mark).wf = true) (A : Option Addr) (cap : Nat) (l : List Int) (rd : RdInts w A l) (hc : l.length ≤ cap) (hm : cap ≤ maxLen)
    (_ok : ∀ y ∈ l, (Lit.int .i64 y).wf = true) (raw : Int) (_wr : (Lit.int .i64 raw).wf = true) :
    Calls Try.prog 6 #[.int .i64 mark, .slice A l.length cap, .int .i64 raw] w fun e w' => e = .returned (.bool true) ∧ Below w.heap.size w w' := by
  unfold maxLen at hm
  by_cases c1 : mark < 0
  · go_enter Try.func6, Try.ntmps6
    go_wp2_with (refine (awake_any w).mono ?_; rintro e w1 ⟨rfl, hu1⟩)
    go_ret
    exact ⟨rfl, hu1.below (fun _ h => h.elim)⟩
  by_cases c2 : 1099511627776 < mark
  · go_enter Try.func6, Try.ntmps6
    go_wp2_with (refine (awake_any w).mono ?_; rintro e w1 ⟨rfl, hu1⟩)
    go_ret
    exact ⟨rfl, hu1.below (fun _ h => h.elim)⟩
  by_cases c3 : 200 < l.length
  · go_enter Try.func6, Try.ntmps6
    go_wp2_with (refine (awake_any w).mono ?_; rintro e w1 ⟨rfl, hu1⟩)
    go_ret
    exact ⟨rfl, hu1.below (fun _ h => h.elim)⟩
  go_enter Try.func6, Try.ntmps6
  go_wp2_with fail
  refine (awake_any w).mono ?_
  rintro e w1 ⟨rfl, hu1⟩
  go_wp2_with fail
  refine (new_ok mark 9 w1 (by omega) (by omega) (by omega) (by omega)).mono ?_
  rintro e w2 ⟨rfl, hw2⟩
  have hc2 : Clk w2 w1.heap.size mark mark 9 0 0 := by rw [hw2]; exact Blk.new _ _ _
  have hu2 : Upd w w2 Nope := by rw [hw2]; exact hu1.alloc _
  have hg1 := hu1.size
  clear hw2
  obtain ⟨g, hg⟩ : ∃ g, g = w1.heap.size := ⟨_, rfl⟩
  rw [← hg] at hc2 hg1 ⊢
  clear hg hu1
  have b0 := backOf_bd mark l
  go_wp2_with fail
  go_loopw [9] (fun i wr => ∃ k : Nat, k ≤ l.length ∧ i = .int .i64 k ∧ Clk wr g (tickOf mark (l.take k)) mark 9 k (backOf mark l k) ∧ Upd w wr Nope) (fun i _ => l.length - (intOf i).toNat)
  case atStart => exact ⟨0, Nat.zero_le _, rfl, hc2, hu2⟩
  case round =>
    obtain ⟨k, hk, rfl, hcr, hur⟩ := hrel
    have bt := tickOf_bd mark (l.take k) (by omega)
    have bk := b0 k
    by_cases hlt : k < l.length
    · obtain ⟨ad, rfl, hx⟩ := (rd.upd hur (fun _ h => h.elim)) k hlt
      have hs := tickOf_snoc mark l k hlt
      have hb : backOf mark l (k + 1) = rdB (tickOf mark (l.take k)) (backOf mark l k) (l[k]'hlt) := by rw [backOf]; simp [List.getD, hlt]
      generalize tickOf mark (l.take k) = T at hs hb hcr bt
      generalize backOf mark l k = B at hb hcr bk
      generalize l[k] = x at hs hb hx
      have HS := Lib.hid hs
      have HB := Lib.hid hb
      clear hs hb b0
      go_wp2_with fail
      refine (read_any g T mark 9 k B x wr hcr (by omega) (by omega) (by omega) (by omega) (by omega) (by omega)).mono ?_
      rintro e w3 ⟨rfl, hc3, hu3⟩
      go_wp2
      go_roundw
      case rel => exact ⟨k + 1, by omega, by go_num, by rw [HS.out, HB.out]; simpa using hc3, hur.on hu3 (by omega)⟩
      case measure => simp [intOf]; omega
    · obtain rfl : k = l.length := by omega
      rw [List.take_length] at hcr bt
      generalize tickOf mark l = T at hcr bt
      generalize backOf mark l l.length = B at hcr bk
      clear b0
      go_wp2_with fail
      refine (tick_any g _ _ _ _ _ _ hcr).mono ?_
      rintro e w3 ⟨rfl, hd3⟩
      have hc3 : Clk w3 g T mark 9 l.length B := hcr.upd (hd3.upd Nope) id
      have hu3 := hur.dr hd3
      go_wp2_with fail
      refine (readings_any g _ _ _ _ _ _ hc3).mono ?_
      rintro e w4 ⟨rfl, hd4⟩
      have hc4 : Clk w4 g T mark 9 l.length B := hc3.upd (hd4.upd Nope) id
      have hu4 := hu3.dr hd4
      go_wp2_with fail
      refine (read_any g T mark 9 l.length B raw _ hc4 (by omega) (by omega) (by omega) (by omega) (by omega) (by omega)).mono ?_
      rintro e w5 ⟨rfl, hc5, hu5⟩
      have hu6 := hu4.on hu5 (by omega)
      go_wp2_with fail
      refine (readings_any g _ _ _ _ _ _ hc5).mono ?_
      rintro e w6 ⟨rfl, hd6⟩
      have hc6 : Clk w6 g (rdT T raw) mark 9 (l.length + 1) (rdB T B raw) := hc5.upd (hd6.upd Nope) id
      have hu7 := hu6.dr hd6
      clear hcr hc2 hc3 hc4 hc5
      rcases (show raw < T ∨ raw = T ∨ T < raw by omega) with h | h | h
      · have e1 : rdT T raw = T := if_pos h
        have e2 : rdB T B raw = B + 1 := if_pos h
        rw [e1, e2] at hc6 ⊢
        clear e1 e2
        go_wp2_with fail
        refine (tick_any g _ _ _ _ _ _ hc6).mono ?_
        rintro e w7 ⟨rfl, hd7⟩
        go_wp2_with fail
        go_ret
        exact ⟨ret_eq (by simp), (hu7.dr hd7).below (fun _ h => h.elim)⟩
      · have e1 : rdT T raw = T := by rw [rdT_eq _ _ (by omega)]; omega
        have e2 : rdB T B raw = B := if_neg (by omega)
        rw [e1, e2] at hc6 ⊢
        clear e1 e2
        subst h
        go_wp2_with fail
        refine (tick_any g _ _ _ _ _ _ hc6).mono ?_
        rintro e w7 ⟨rfl, hd7⟩
        go_wp2_with fail
        go_ret
        exact ⟨ret_eq (by simp), (hu7.dr hd7).below (fun _ h => h.elim)⟩
      · have e1 : rdT T raw = imin raw 1099511627776 := if_neg (by omega)
        have e2 : rdB T B raw = B := if_neg (by omega)
        have bm : T ≤ imin raw 1099511627776 ∧ imin raw 1099511627776 ≤ 1099511627776 := by rw [imin_eq]; omega
        rw [e1, e2] at hc6 ⊢
        clear e1 e2
        go_wp2_with fail
        refine (tick_any g _ _ _ _ _ _ hc6).mono ?_
        rintro e w7 ⟨rfl, hd7⟩
        go_wp2_with fail
        go_ret
        exact ⟨ret_eq (by simp), (hu7.dr hd7).below (fun _ h => h.elim)⟩
end Go.Proofs.Ytojpgdhbfhdpoaa
