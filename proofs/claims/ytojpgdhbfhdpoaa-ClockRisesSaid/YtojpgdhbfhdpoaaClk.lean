/- The contracts of the clock's functions, over any world: what each tells and what the clock's block holds behind it. -/
import Derived.Test.YtojpgdhbfhdpoaaBase
set_option linter.unusedVariables false
set_option linter.unusedSimpArgs false
namespace Go.Proofs.Ytojpgdhbfhdpoaa
open Go.RowKit
attribute [local go_sem] bmin2 bmax2 bmin_two bmax_two makeFunc_run

/-- The clock at block g. -/
def Clk (W : World) (g : Nat) (t m s a b : Int) : Prop := Blk W g #[.int .i64 t, .int .i64 m, .int .i64 s, .int .i64 a, .int .i64 b] 38

theorem Clk.set0 {W : World} {g : Nat} {t m s a b : Int} (h : Clk W g t m s a b) (x : Int) : Clk (W.setCell ⟨g, 0, none⟩ (.int .i64 x)) g x m s a b := by unfold Clk at *; simpa using Blk.set h 0 (.int .i64 x)
theorem Clk.set1 {W : World} {g : Nat} {t m s a b : Int} (h : Clk W g t m s a b) (x : Int) : Clk (W.setCell ⟨g, 1, none⟩ (.int .i64 x)) g t x s a b := by unfold Clk at *; simpa using Blk.set h 1 (.int .i64 x)
theorem Clk.set3 {W : World} {g : Nat} {t m s a b : Int} (h : Clk W g t m s a b) (x : Int) : Clk (W.setCell ⟨g, 3, none⟩ (.int .i64 x)) g t m s x b := by unfold Clk at *; simpa using Blk.set h 3 (.int .i64 x)
theorem Clk.set4 {W : World} {g : Nat} {t m s a b : Int} (h : Clk W g t m s a b) (x : Int) : Clk (W.setCell ⟨g, 4, none⟩ (.int .i64 x)) g t m s a x := by unfold Clk at *; simpa using Blk.set h 4 (.int .i64 x)
theorem Clk.alloc {W : World} {g : Nat} {t m s a b : Int} (h : Clk W g t m s a b) (o : Obj) : Clk (W.alloc o) g t m s a b := Blk.alloc h o
theorem Clk.drew {W : World} {g : Nat} {t m s a b : Int} (h : Clk W g t m s a b) : Clk W.drew g t m s a b := h
theorem Clk.far {W : World} {g : Nat} {t m s a b : Int} (h : Clk W g t m s a b) (p : Addr) (hp : g ≠ p.block) (u : Value) : Clk (W.setCell p u) g t m s a b := Blk.far h hp u
theorem Clk.upd {W W1 : World} {F : Nat → Prop} {g : Nat} {t m s a b : Int} (h : Clk W g t m s a b) (k : Upd W W1 F) (hn : ¬ F g) : Clk W1 g t m s a b := Blk.upd h k hn
theorem Clk.lt {W : World} {g : Nat} {t m s a b : Int} (h : Clk W g t m s a b) : g < W.heap.size := Blk.lt h

theorem read_done (g : Nat) (t m s a b was : Int) (w : World) (u : FrameMode) (hc : Clk w g t m s a b) (B : Nat) (y1 y2 : Value)
    (h0 : w.cell? ⟨B, 0, none⟩ = some (.pointer (some ⟨g, 0, none⟩))) (h1 : w.cell? ⟨B + 1 + 1 + 1, 0, none⟩ = some (.int .i64 was)) (h2 : w.cell? ⟨B + 1, 0, none⟩ = some y1) (h3 : w.cell? ⟨B + 1 + 1, 0, none⟩ = some y2)
    (z1 : w.frozen? ⟨B + 1, 0, none⟩ = false) (z2 : w.frozen? ⟨B + 1 + 1, 0, none⟩ = false) :
    CallsD Try.prog 17 #[.pointer (some ⟨B, 0, none⟩), .pointer (some ⟨B + 1 + 1 + 1, 0, none⟩), .pointer (some ⟨B + 1, 0, none⟩), .pointer (some ⟨B + 1 + 1, 0, none⟩)] u w fun e u' w' =>
      u' = u ∧ e = .returned (.tuple #[]) ∧ w' = ((w.setCell ⟨B + 1, 0, none⟩ (.int .i64 t)).setCell ⟨B + 1 + 1, 0, none⟩ (.int .i64 (wrap64 (t - was)))).drew := by
  have c0 : w.cell? ⟨g, 0, none⟩ = some (.int .i64 t) := (Blk.cell hc 0).trans rfl
  go_enter_d Try.func17, Try.ntmps17
  go_wp2
  go_region
  all_goals (go_end0; exact ⟨rfl, rfl⟩)

theorem wrap0 : wrap64 0 = 0 := wrap64_in (by omega) (by omega)

/-- Read, at a reading below the tick. -/
theorem read_low (g : Nat) (t m s a b raw : Int) (w : World) (hc : Clk w g t m s a b) (hr : raw < t) (ha : 0 ≤ a) (ha' : a ≤ 1000000) (hb : 0 ≤ b) (hb' : b ≤ 1000000) :
    Calls Try.prog 10 #[.pointer (some ⟨g, 0, none⟩), .int .i64 raw] w fun e w' => e = .returned (.tuple #[.int .i64 t, .int .i64 0]) ∧ Clk w' g t m s (a + 1) (b + 1) ∧ Upd w w' (· = g) := by
  have c0 : w.cell? ⟨g, 0, none⟩ = some (.int .i64 t) := (Blk.cell hc 0).trans rfl
  have c3 : w.cell? ⟨g, 3, none⟩ = some (.int .i64 a) := (Blk.cell hc 3).trans rfl
  have c4 : w.cell? ⟨g, 4, none⟩ = some (.int .i64 b) := (Blk.cell hc 4).trans rfl
  have f3 := Blk.frozen hc 3
  have f4 := Blk.frozen hc 4
  have f0 := Blk.frozen hc 0
  have hlt := hc.lt
  have hlt1 : g < w.heap.size + 1 := by omega
  have hlt2 : g < w.heap.size + 1 + 1 := by omega
  have hlt3 : g < w.heap.size + 1 + 1 + 1 := by omega
  go_enter_defers Try.func10, Try.ntmps10
  go_wp2
  refine leaves_cons (f := 17) (args := #[.pointer (some ⟨w.heap.size, 0, none⟩), .pointer (some ⟨w.heap.size + 1 + 1 + 1, 0, none⟩), .pointer (some ⟨w.heap.size + 1, 0, none⟩), .pointer (some ⟨w.heap.size + 1 + 1, 0, none⟩)]) (by simp) (by simp [go_sem]) ?_
  refine (read_done g t m s (a + 1) (b + 1) t _ _ ?hc w.heap.size (.int .i64 0) (.int .i64 0) ?h0 ?h1 ?h2 ?h3 ?z1 ?z2).mono ?_
  case hc => exact ((((((hc.set3 (a + 1)).set4 (b + 1)).alloc _).alloc _).alloc _).alloc _)
  case h0 => simp [go_sem]
  case h1 => simp [go_sem]
  case h2 => simp [go_sem]
  case h3 => simp [go_sem]
  case z1 => simp [go_sem]
  case z2 => simp [go_sem]
  rintro e u' w'' ⟨rfl, rfl, rfl⟩
  simp [Leaves, settle, results, Try.results10, go_sem, wrap0]
  exact ⟨((((((hc.set3 (a + 1)).set4 (b + 1)).alloc _).alloc _).alloc _).alloc _).drew, (((((((Upd.refl w _).set _ _ (by simp)).set _ _ (by simp)).alloc _).alloc _).alloc _).alloc _).drew⟩

/-- Read, at a reading that is not below the tick. -/
theorem read_high (g : Nat) (t m s a b raw : Int) (w : World) (hc : Clk w g t m s a b) (hr : t ≤ raw) (ht : 0 ≤ t) (ht' : t ≤ 1099511627776) (ha : 0 ≤ a) (ha' : a ≤ 1000000) :
    Calls Try.prog 10 #[.pointer (some ⟨g, 0, none⟩), .int .i64 raw] w fun e w' => e = .returned (.tuple #[.int .i64 (imin raw 1099511627776), .int .i64 (imin raw 1099511627776 - t)]) ∧ Clk w' g (imin raw 1099511627776) m s (a + 1) b ∧ Upd w w' (· = g) := by
  have c0 : w.cell? ⟨g, 0, none⟩ = some (.int .i64 t) := (Blk.cell hc 0).trans rfl
  have c3 : w.cell? ⟨g, 3, none⟩ = some (.int .i64 a) := (Blk.cell hc 3).trans rfl
  have c4 : w.cell? ⟨g, 4, none⟩ = some (.int .i64 b) := (Blk.cell hc 4).trans rfl
  have f3 := Blk.frozen hc 3
  have f4 := Blk.frozen hc 4
  have f0 := Blk.frozen hc 0
  have hlt := hc.lt
  have hlt1 : g < w.heap.size + 1 := by omega
  have hlt2 : g < w.heap.size + 1 + 1 := by omega
  have hlt3 : g < w.heap.size + 1 + 1 + 1 := by omega
  go_enter_defers Try.func10, Try.ntmps10
  go_wp2
  refine leaves_cons (f := 17) (args := #[.pointer (some ⟨w.heap.size, 0, none⟩), .pointer (some ⟨w.heap.size + 1 + 1 + 1, 0, none⟩), .pointer (some ⟨w.heap.size + 1, 0, none⟩), .pointer (some ⟨w.heap.size + 1 + 1, 0, none⟩)]) (by simp) (by simp [go_sem]) ?_
  refine (read_done g (imin raw 1099511627776) m s (a + 1) b t _ _ ?hc w.heap.size (.int .i64 0) (.int .i64 0) ?h0 ?h1 ?h2 ?h3 ?z1 ?z2).mono ?_
  case hc => exact ((((((hc.set3 (a + 1)).set0 _).alloc _).alloc _).alloc _).alloc _)
  case h0 => simp [go_sem]
  case h1 => simp [go_sem]
  case h2 => simp [go_sem]
  case h3 => simp [go_sem]
  case z1 => simp [go_sem]
  case z2 => simp [go_sem]
  rintro e u' w'' ⟨rfl, rfl, rfl⟩
  have hw : wrap64 (imin raw 1099511627776 - t) = imin raw 1099511627776 - t := wrap64_in (by rw [imin_eq]; omega) (by rw [imin_eq]; omega)
  simp [Leaves, settle, results, Try.results10, go_sem, hw]
  exact ⟨((((((hc.set3 (a + 1)).set0 _).alloc _).alloc _).alloc _).alloc _).drew, (((((((Upd.refl w _).set _ _ (by simp)).set _ _ (by simp)).alloc _).alloc _).alloc _).alloc _).drew⟩

/-- What a reading makes of the tick, and of how many were below. -/
def rdT (t raw : Int) : Int := if raw < t then t else imin raw 1099511627776
def rdB (t b raw : Int) : Int := if raw < t then b + 1 else b

theorem read_any (g : Nat) (t m s a b raw : Int) (w : World) (hc : Clk w g t m s a b) (ht : 0 ≤ t) (ht' : t ≤ 1099511627776) (ha : 0 ≤ a) (ha' : a ≤ 1000000) (hb : 0 ≤ b) (hb' : b ≤ 1000000) :
    Calls Try.prog 10 #[.pointer (some ⟨g, 0, none⟩), .int .i64 raw] w fun e w' => e = .returned (.tuple #[.int .i64 (rdT t raw), .int .i64 (rdT t raw - t)]) ∧ Clk w' g (rdT t raw) m s (a + 1) (rdB t b raw) ∧ Upd w w' (· = g) := by
  by_cases hr : raw < t
  · have e1 : rdT t raw = t := if_pos hr
    have e2 : rdB t b raw = b + 1 := if_pos hr
    rw [e1, e2, Int.sub_self]
    exact read_low g t m s a b raw w hc hr ha ha' hb hb'
  · have e1 : rdT t raw = imin raw 1099511627776 := if_neg hr
    have e2 : rdB t b raw = b := if_neg hr
    rw [e1, e2]
    exact read_high g t m s a b raw w hc (by omega) ht ht' ha ha'

theorem new_ok (mark step : Int) (w : World) (h0 : 0 ≤ mark) (h1 : mark ≤ 1099511627776) (h2 : 1 ≤ step) (h3 : step ≤ 1048576) :
    Calls Try.prog 8 #[.int .i64 mark, .int .i64 step] w fun e w' => e = .returned (.tuple #[.pointer (some ⟨w.heap.size, 0, none⟩), .int .i64 0]) ∧ w' = w.alloc (.cells #[.int .i64 mark, .int .i64 mark, .int .i64 step, .int .i64 0, .int .i64 0] 38) := by
  go_enter Try.func8, Try.ntmps8
  go_wp2
  go_ret2
  exact ⟨rfl, rfl⟩

theorem new_bad (mark step : Int) (w : World) (h : mark < 0 ∨ 1099511627776 < mark ∨ step < 1 ∨ 1048576 < step) :
    Calls Try.prog 8 #[.int .i64 mark, .int .i64 step] w fun e w' => e = .returned (.tuple #[.pointer none, .int .i64 1]) ∧ w' = w := by
  by_cases c1 : mark < 0
  · go_enter Try.func8, Try.ntmps8
    go_wp2
    go_ret2
    exact ⟨rfl, rfl⟩
  by_cases c2 : 1099511627776 < mark
  · go_enter Try.func8, Try.ntmps8
    go_wp2
    go_ret2
    exact ⟨rfl, rfl⟩
  by_cases c3 : step < 1
  · go_enter Try.func8, Try.ntmps8
    go_wp2
    go_ret2
    exact ⟨rfl, rfl⟩
  have c4 : 1048576 < step := by omega
  go_enter Try.func8, Try.ntmps8
  go_wp2
  go_ret2
  exact ⟨rfl, rfl⟩

theorem tick_any (g : Nat) (t m s a b : Int) (w : World) (hc : Clk w g t m s a b) :
    Calls Try.prog 12 #[.pointer (some ⟨g, 0, none⟩)] w fun e w' => e = .returned (.int .i64 t) ∧ Drew w w' := by
  have c0 : w.cell? ⟨g, 0, none⟩ = some (.int .i64 t) := (Blk.cell hc 0).trans rfl
  go_enter Try.func12, Try.ntmps12
  go_wp2
  go_ret
  exact ⟨rfl, Drew.refl _⟩

theorem mark_any (g : Nat) (t m s a b : Int) (w : World) (hc : Clk w g t m s a b) :
    Calls Try.prog 14 #[.pointer (some ⟨g, 0, none⟩)] w fun e w' => e = .returned (.int .i64 m) ∧ Drew w w' := by
  have c0 : w.cell? ⟨g, 1, none⟩ = some (.int .i64 m) := (Blk.cell hc 1).trans rfl
  go_enter Try.func14, Try.ntmps14
  go_wp2
  go_ret
  exact ⟨rfl, Drew.refl _⟩

theorem readings_any (g : Nat) (t m s a b : Int) (w : World) (hc : Clk w g t m s a b) :
    Calls Try.prog 11 #[.pointer (some ⟨g, 0, none⟩)] w fun e w' => e = .returned (.tuple #[.int .i64 a, .int .i64 b]) ∧ Drew w w' := by
  have c3 : w.cell? ⟨g, 3, none⟩ = some (.int .i64 a) := (Blk.cell hc 3).trans rfl
  have c4 : w.cell? ⟨g, 4, none⟩ = some (.int .i64 b) := (Blk.cell hc 4).trans rfl
  go_enter Try.func11, Try.ntmps11
  go_wp2
  repeat (go_quiet (fail); try go_wp2)
  go_ret2
  exact ⟨rfl, (Drew.refl w).step _⟩

theorem due_any (g : Nat) (t m s a b : Int) (w : World) (hc : Clk w g t m s a b) (h0 : 0 ≤ t) (h1 : t ≤ 1099511627776) (h2 : 0 ≤ m) (h3 : m ≤ 1099511627776) :
    Calls Try.prog 15 #[.pointer (some ⟨g, 0, none⟩)] w fun e w' => e = .returned (.bool (decide (s ≤ t - m))) ∧ Drew w w' := by
  have c0 : w.cell? ⟨g, 0, none⟩ = some (.int .i64 t) := (Blk.cell hc 0).trans rfl
  have c1 : w.cell? ⟨g, 1, none⟩ = some (.int .i64 m) := (Blk.cell hc 1).trans rfl
  have c2 : w.cell? ⟨g, 2, none⟩ = some (.int .i64 s) := (Blk.cell hc 2).trans rfl
  go_enter Try.func15, Try.ntmps15
  go_wp2
  repeat (go_quiet (fail); try go_wp2)
  have hw : wrap64 (t - m) = t - m := wrap64_in (by omega) (by omega)
  (try simp only [hw])
  go_ret
  exact ⟨rfl, (Drew.refl w).step _⟩

theorem marked_any (g : Nat) (t m s a b : Int) (w : World) (hc : Clk w g t m s a b) :
    Calls Try.prog 16 #[.pointer (some ⟨g, 0, none⟩)] w fun e w' => e = .returned (.int .i64 t) ∧ Clk w' g t t s a b ∧ Upd w w' (· = g) := by
  have c0 : w.cell? ⟨g, 0, none⟩ = some (.int .i64 t) := (Blk.cell hc 0).trans rfl
  have c1 : w.cell? ⟨g, 1, none⟩ = some (.int .i64 m) := (Blk.cell hc 1).trans rfl
  have f1 := Blk.frozen hc 1
  go_enter Try.func16, Try.ntmps16
  go_wp2
  go_ret
  exact ⟨rfl, hc.set1 _, (Upd.refl _ _).set _ _ (by simp)⟩
end Go.Proofs.Ytojpgdhbfhdpoaa
