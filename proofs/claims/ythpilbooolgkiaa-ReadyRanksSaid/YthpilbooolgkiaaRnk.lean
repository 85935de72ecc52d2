/- The law ReadyRanks, walked: it returns true. -/
import Derived.Test.YthpilbooolgkiaaAct
set_option linter.unusedVariables false
set_option linter.unusedSimpArgs false
namespace Go.Proofs.Ythpilbooolgkiaa
open Go.RowKit

theorem rank_mono {p at1 age n m : Int} (ha : 1 ≤ age) (h : n ≤ m) : rank p at1 n age ≤ rank p at1 m age := by
  have e : max age 1 = age := by omega
  unfold rank
  rw [e]
  by_cases h1 : n ≤ at1
  · rw [if_pos h1]
    by_cases h2 : m ≤ at1
    · rw [if_pos h2]; omega
    · rw [if_neg h2]
      have : 0 ≤ (m - at1).tdiv age := Int.tdiv_nonneg (by omega) (by omega)
      omega
  · rw [if_neg h1, if_neg (by omega)]
    have : (n - at1).tdiv age ≤ (m - at1).tdiv age := by
      rw [Int.tdiv_eq_ediv_of_nonneg (by omega), Int.tdiv_eq_ediv_of_nonneg (by omega)]
      exact Int.ediv_le_ediv (by omega) (by omega)
    omega
theorem rank_le {p at1 age n : Int} : rank p at1 n age ≤ 9 := by unfold rank; split <;> omega
theorem rank_at {p at1 age n : Int} (h : n ≤ at1) (hp : p ≤ 9) : rank p at1 n age = p := by unfold rank; rw [if_pos h]; omega
theorem rank_ge {p at1 age n : Int} (ha : 1 ≤ age) (hp : p ≤ 9) : p ≤ rank p at1 n age := by
  unfold rank
  split
  · omega
  · have : 0 ≤ (n - at1).tdiv (max age 1) := Int.tdiv_nonneg (by omega) (by omega)
    omega
theorem rank_plus {p at1 age k : Int} (ha : 1 ≤ age) (hk : 1 ≤ k) (hk2 : k ≤ 18) : rank p at1 (at1 + k * age) age = min (p + k) 9 := by
  have h1 : 0 < k * age := Int.mul_pos (by omega) (by omega)
  unfold rank
  rw [if_neg (by omega), show max age 1 = age by omega, show at1 + k * age - at1 = k * age by omega, Int.mul_tdiv_cancel _ (by omega)]
  omega
theorem rank_less {p at1 age : Int} (ha : 1 ≤ age) (hp : p ≤ 9) : rank p at1 (at1 + age - 1) age = p := by
  unfold rank
  split
  · omega
  · rw [show max age 1 = age by omega, show at1 + age - 1 - at1 = age - 1 by omega, Int.tdiv_eq_ediv_of_nonneg (by omega), Int.ediv_eq_zero_of_lt (by omega) (by omega)]
    omega
theorem rank_pri {p q at1 age n : Int} (h : p ≤ q) : rank p at1 n age ≤ rank q at1 n age := by unfold rank; split <;> omega
attribute [local go_sem] bmin2 bmax2 bmin_two bmax_two

theorem ranks_ways (x : En) (now more age : Int) : (decide (300 < (x.dest.size : Int)) = true) ∨
    (decide (300 < (x.dest.size : Int)) = false ∧ decide (x.pri < -9) = true) ∨
    (decide (300 < (x.dest.size : Int)) = false ∧ decide (x.pri < -9) = false ∧ decide (9 < x.pri) = true) ∨
    (decide (300 < (x.dest.size : Int)) = false ∧ decide (x.pri < -9) = false ∧ decide (9 < x.pri) = false ∧ decide (x.at_ < 0) = true) ∨
    (decide (300 < (x.dest.size : Int)) = false ∧ decide (x.pri < -9) = false ∧ decide (9 < x.pri) = false ∧ decide (x.at_ < 0) = false ∧ decide (1099511627776 < x.at_) = true) ∨
    (decide (300 < (x.dest.size : Int)) = false ∧ decide (x.pri < -9) = false ∧ decide (9 < x.pri) = false ∧ decide (x.at_ < 0) = false ∧ decide (1099511627776 < x.at_) = false ∧ decide (now < 0) = true) ∨
    (decide (300 < (x.dest.size : Int)) = false ∧ decide (x.pri < -9) = false ∧ decide (9 < x.pri) = false ∧ decide (x.at_ < 0) = false ∧ decide (1099511627776 < x.at_) = false ∧ decide (now < 0) = false ∧ decide (1099511627776 < now) = true) ∨
    (decide (300 < (x.dest.size : Int)) = false ∧ decide (x.pri < -9) = false ∧ decide (9 < x.pri) = false ∧ decide (x.at_ < 0) = false ∧ decide (1099511627776 < x.at_) = false ∧ decide (now < 0) = false ∧ decide (1099511627776 < now) = false ∧ decide (more < 0) = true) ∨
    (decide (300 < (x.dest.size : Int)) = false ∧ decide (x.pri < -9) = false ∧ decide (9 < x.pri) = false ∧ decide (x.at_ < 0) = false ∧ decide (1099511627776 < x.at_) = false ∧ decide (now < 0) = false ∧ decide (1099511627776 < now) = false ∧ decide (more < 0) = false ∧ decide (1099511627776 < more) = true) ∨
    (decide (300 < (x.dest.size : Int)) = false ∧ decide (x.pri < -9) = false ∧ decide (9 < x.pri) = false ∧ decide (x.at_ < 0) = false ∧ decide (1099511627776 < x.at_) = false ∧ decide (now < 0) = false ∧ decide (1099511627776 < now) = false ∧ decide (more < 0) = false ∧ decide (1099511627776 < more) = false ∧ decide (age < 1) = true) ∨
    (decide (300 < (x.dest.size : Int)) = false ∧ decide (x.pri < -9) = false ∧ decide (9 < x.pri) = false ∧ decide (x.at_ < 0) = false ∧ decide (1099511627776 < x.at_) = false ∧ decide (now < 0) = false ∧ decide (1099511627776 < now) = false ∧ decide (more < 0) = false ∧ decide (1099511627776 < more) = false ∧ decide (age < 1) = false ∧ decide (1048576 < age) = true) ∨
    (decide (300 < (x.dest.size : Int)) = false ∧ decide (x.pri < -9) = false ∧ decide (9 < x.pri) = false ∧ decide (x.at_ < 0) = false ∧ decide (1099511627776 < x.at_) = false ∧ decide (now < 0) = false ∧ decide (1099511627776 < now) = false ∧ decide (more < 0) = false ∧ decide (1099511627776 < more) = false ∧ decide (age < 1) = false ∧ decide (1048576 < age) = false) := by
  cases h0 : decide (300 < (x.dest.size : Int)) with
  | true => exact .inl (by simp)
  | false =>
  cases h1 : decide (x.pri < -9) with
  | true => right; left; simp
  | false =>
  cases h2 : decide (9 < x.pri) with
  | true => right; right; left; simp
  | false =>
  cases h3 : decide (x.at_ < 0) with
  | true => right; right; right; left; simp
  | false =>
  cases h4 : decide (1099511627776 < x.at_) with
  | true => right; right; right; right; left; simp
  | false =>
  cases h5 : decide (now < 0) with
  | true => right; right; right; right; right; left; simp
  | false =>
  cases h6 : decide (1099511627776 < now) with
  | true => right; right; right; right; right; right; left; simp
  | false =>
  cases h7 : decide (more < 0) with
  | true => right; right; right; right; right; right; right; left; simp
  | false =>
  cases h8 : decide (1099511627776 < more) with
  | true => right; right; right; right; right; right; right; right; left; simp
  | false =>
  cases h9 : decide (age < 1) with
  | true => right; right; right; right; right; right; right; right; right; left; simp
  | false =>
  cases h10 : decide (1048576 < age) with
  | true => right; right; right; right; right; right; right; right; right; right; left; simp
  | false =>
  right; right; right; right; right; right; right; right; right; right; right; simp
set_option maxRecDepth 100000 in
set_option maxHeartbeats 8000000 in
theorem readyRanks_any (w : World) (x : En) (hx : okE x) (now : Int) (hnow : (Lit.int .i64 now).wf = true) (more : Int) (hmore : (Lit.int .i64 more).wf = true) (age : Int) (hage : (Lit.int .i64 age).wf = true) :
    Calls Try.prog 4 #[.agg #[.int .i64 x.id, .string x.dest, .int .i64 x.pri, .int .i64 x.at_], .int .i64 now, .int .i64 more, .int .i64 age] w fun e w' => e = .returned (.bool true) ∧ Below w.heap.size w w' := by
  refine Calls.mono (R := fun e w' => e = .returned (.bool true) ∧ Upd w w' Nope) ?_ (fun e w' ⟨h, u⟩ => ⟨h, u.below (fun _ h => h.elim)⟩)
  have HA := Lib.hid (fun w => awake_any w)
  have hz := hx.2.2.2
  unfold maxLen at hz
  have HWY := Lib.hid (ranks_ways x now more age)
  clear hx hnow hmore hage
  go_enter Try.func4, Try.ntmps4
  go_wp2_with fail
  have hB := Blk.new w #[.int .i64 x.id, .string x.dest, .int .i64 x.pri, .int .i64 x.at_] 34
  have hU : Upd w (w.alloc (.cells #[.int .i64 x.id, .string x.dest, .int .i64 x.pri, .int .i64 x.at_] 34)) Nope := (Upd.refl w _).alloc _
  generalize w.alloc (.cells #[.int .i64 x.id, .string x.dest, .int .i64 x.pri, .int .i64 x.at_] 34) = w1 at *
  refine (HA.out w1).mono ?_
  rintro e w2 ⟨rfl, u2⟩
  have hB2 := hB.upd u2 (fun h => h)
  have HU := Lib.hid (hU.nn u2)
  have c0 : w2.cell? ⟨w.heap.size, 0, none⟩ = some (.int .i64 x.id) := (hB2.cell 0).trans rfl
  have c1 : w2.cell? ⟨w.heap.size, 1, none⟩ = some (.string x.dest) := (hB2.cell 1).trans rfl
  have c2 : w2.cell? ⟨w.heap.size, 2, none⟩ = some (.int .i64 x.pri) := (hB2.cell 2).trans rfl
  have c3 : w2.cell? ⟨w.heap.size, 3, none⟩ = some (.int .i64 x.at_) := (hB2.cell 3).trans rfl
  have HB := Lib.hid hB2
  clear hB hU u2 hB2 HA
  rcases HWY.out with g0 | ⟨g0, g1⟩ | ⟨g0, g1, g2⟩ | ⟨g0, g1, g2, g3⟩ | ⟨g0, g1, g2, g3, g4⟩ | ⟨g0, g1, g2, g3, g4, g5⟩ | ⟨g0, g1, g2, g3, g4, g5, g6⟩ | ⟨g0, g1, g2, g3, g4, g5, g6, g7⟩ | ⟨g0, g1, g2, g3, g4, g5, g6, g7, g8⟩ | ⟨g0, g1, g2, g3, g4, g5, g6, g7, g8, g9⟩ | ⟨g0, g1, g2, g3, g4, g5, g6, g7, g8, g9, g10⟩ | ⟨g0, g1, g2, g3, g4, g5, g6, g7, g8, g9, g10⟩
  iterate 11
    · as_aux_lemma =>
      clear HWY
      go_wp2_with fail
      go_ret
      exact ⟨rfl, HU.out⟩
  as_aux_lemma =>
  clear HWY
  go_upto_region 5 with (fail)
  have hd : (0 : Int) ≤ now ∧ now ≤ 1099511627776 ∧ 0 ≤ more ∧ more ≤ 1099511627776 ∧ 1 ≤ age ∧ age ≤ 1048576 ∧ 0 ≤ x.at_ ∧ x.at_ ≤ 1099511627776 ∧ -9 ≤ x.pri ∧ x.pri ≤ 9 := by
    simp only [decide_eq_false_iff_not] at g1 g2 g3 g4 g5 g6 g7 g8 g9 g10
    omega
  obtain ⟨n0, n1, m0, m1, a0, a1, t0, t1, q0, q1⟩ := hd
  have R1 := fun z : UW w2 => rank_any x now age z.val (by omega) (by omega) (by omega) (by omega) (by omega) (by omega) (by omega) (by omega)
  have R2 := fun z : UW w2 => rank_any x (now + more) age z.val (by omega) (by omega) (by omega) (by omega) (by omega) (by omega) (by omega) (by omega)
  unfold En.val at R1 R2
  have hw1 : wrap64 (now + more) = now + more := wrap64_in (by omega) (by omega)
  have hab : rank x.pri x.at_ now age ≤ rank x.pri x.at_ (now + more) age := rank_mono a0 (by omega)
  have hb9 : rank x.pri x.at_ (now + more) age ≤ 9 := rank_le
  have hpa : x.pri ≤ rank x.pri x.at_ now age := rank_ge a0 q1
  have hnp : now < x.at_ → rank x.pri x.at_ now age = x.pri := fun h => rank_at (by omega) q1
  have hya : rank x.pri x.at_ now age ≤ rank (imin 9 (x.pri + 1)) x.at_ now age := rank_pri (by rw [imin_eq]; omega)
  have hc : rank x.pri x.at_ x.at_ age = x.pri := rank_at (Int.le_refl _) q1
  have hdd : rank x.pri x.at_ (x.at_ + age) age = imin 9 (x.pri + 1) := by
    have := rank_plus (p := x.pri) (at1 := x.at_) a0 (k := 1) (by omega) (by omega)
    rw [Int.one_mul] at this
    rw [this, imin_eq]; omega
  have he : rank x.pri x.at_ (x.at_ + age - 1) age = x.pri := rank_less a0 q1
  have hh : rank x.pri x.at_ (x.at_ + 18 * age) age = 9 := by
    rw [rank_plus a0 (by omega) (by omega)]; omega
  have hy9 : imin 9 (x.pri + 1) ≤ 9 ∧ -9 ≤ imin 9 (x.pri + 1) := by rw [imin_eq]; omega
  have S1 := fun z : World => rank_any x x.at_ age z (by omega) (by omega) (by omega) (by omega) (by omega) (by omega) (by omega) (by omega)
  have S2 := fun z : World => rank_any x (x.at_ + age) age z (by omega) (by omega) (by omega) (by omega) (by omega) (by omega) (by omega) (by omega)
  have S3 := fun z : World => rank_any x (x.at_ + age - 1) age z (by omega) (by omega) (by omega) (by omega) (by omega) (by omega) (by omega) (by omega)
  have S4 := fun z : World => rank_any ⟨x.id, x.dest, imin 9 (x.pri + 1), x.at_⟩ now age z (by omega) (by omega) (by simp only []; omega) (by simp only []; omega) (by simp only []; omega) (by simp only []; omega) (by omega) (by omega)
  have S5 := fun z : World => rank_any x (x.at_ + 18 * age) age z (by omega) (by omega) (by omega) (by omega) (by omega) (by omega) (by omega) (by omega)
  have v1 : wrap64 (x.pri + 1) = x.pri + 1 := wrap64_in (by omega) (by omega)
  have v2 : wrap64 (x.at_ + age) = x.at_ + age := wrap64_in (by omega) (by omega)
  have v3 : wrap64 (x.at_ + age - 1) = x.at_ + age - 1 := wrap64_in (by omega) (by omega)
  have v4 : wrap64 (18 * age) = 18 * age := wrap64_in (by omega) (by omega)
  have v5 : wrap64 (x.at_ + 18 * age) = x.at_ + 18 * age := wrap64_in (by omega) (by omega)
  unfold En.val at S1 S2 S3 S4 S5
  rw [hc] at S1
  rw [hdd] at S2
  rw [he] at S3
  rw [hh] at S5
  generalize rank x.pri x.at_ now age = ra at *
  generalize rank x.pri x.at_ (now + more) age = rb at *
  generalize rank (imin 9 (x.pri + 1)) x.at_ now age = rf at *
  have hcs : decide (x.at_ ≤ now) = true ∨ (decide (x.at_ ≤ now) = false ∧ (ra == x.pri) = true) := by
    by_cases h : x.at_ ≤ now
    · exact .inl (decide_eq_true h)
    · exact .inr ⟨decide_eq_false h, by rw [hnp (by omega)]; simp⟩
  have d1 : decide (ra ≤ rb) = true := decide_eq_true hab
  have d2 : decide (rb ≤ 9) = true := decide_eq_true hb9
  have d3 : decide (x.pri ≤ ra) = true := decide_eq_true hpa
  have d4 : decide (ra ≤ rf) = true := decide_eq_true hya
  have d5 : (imin 9 (x.pri + 1) == imin 9 (x.pri + 1)) = true := by simp
  replace R1 := Lib.hid R1
  replace R2 := Lib.hid R2
  replace S1 := Lib.hid S1
  replace S2 := Lib.hid S2
  replace S3 := Lib.hid S3
  replace S4 := Lib.hid S4
  replace S5 := Lib.hid S5
  have HCS := Lib.hid hcs
  clear hab hb9 hpa hnp hya hc hdd he hh hy9 hcs g0 g1 g2 g3 g4 g5 g6 g7 g8 g9 g10 n0 n1 m0 m1 a0 a1 t0 t1 q0 q1
  have X0 := fun (z : UW w2) => z.cell c0
  have X1 := fun (z : UW w2) => z.cell c1
  have X2 := fun (z : UW w2) => z.cell c2
  have X3 := fun (z : UW w2) => z.cell c3
  clear c0 c1 c2 c3
  refine region_uw (by kernel_rfl) (by kernel_rfl) ?_
  repeat (first
    | go_big_quiet_skip
    | (go_big_quiet_want; go_big_quiet_op; first | go_big_quiet_on | go_big_quiet_call (first | (go_at_call 26; with_reducible exact UW.call (R1.out _)) | (go_at_call 26; with_reducible exact UW.call (R2.out _)))))
  refine wpQuiet_nil ?_
  rintro _ ⟨z, rfl⟩
  have hB3 := HB.out.upd z.ok (fun h => h)
  have HU3 := Lib.hid (HU.out.nn z.ok)
  generalize z.val = w3 at *
  have c0 : w3.cell? ⟨w.heap.size, 0, none⟩ = some (.int .i64 x.id) := (hB3.cell 0).trans rfl
  have c1 : w3.cell? ⟨w.heap.size, 1, none⟩ = some (.string x.dest) := (hB3.cell 1).trans rfl
  have c2 : w3.cell? ⟨w.heap.size, 2, none⟩ = some (.int .i64 x.pri) := (hB3.cell 2).trans rfl
  have c3 : w3.cell? ⟨w.heap.size, 3, none⟩ = some (.int .i64 x.at_) := (hB3.cell 3).trans rfl
  have HB3 := Lib.hid hB3
  clear X0 X1 X2 X3 hB3 R1 R2 HB HU
  go_upto_region 7 with (fail)
  have hy4 := Blk.new w3 #[.int .i64 x.id, .string x.dest, .int .i64 x.pri, .int .i64 x.at_] 34
  have hu4 : Upd w3 (w3.alloc (.cells #[.int .i64 x.id, .string x.dest, .int .i64 x.pri, .int .i64 x.at_] 34)) Nope := (Upd.refl w3 _).alloc _
  have hx4 := HB3.out.upd hu4 (fun h => h)
  have hne : w3.heap.size ≠ w.heap.size := by have := HB3.out.lt; omega
  generalize w3.alloc (.cells #[.int .i64 x.id, .string x.dest, .int .i64 x.pri, .int .i64 x.at_] 34) = w4 at *
  have hqy : w.heap.size ≤ w3.heap.size := HU3.out.size
  generalize w3.heap.size = qy at *
  have e2 : w4.cell? ⟨w.heap.size, 2, none⟩ = some (.int .i64 x.pri) := (hx4.cell 2).trans rfl
  have e3 : w4.cell? ⟨qy, 2, none⟩ = some (.int .i64 x.pri) := (hy4.cell 2).trans rfl
  have ef := hy4.frozen 2
  have HU4 := Lib.hid (HU3.out.nn hu4)
  have HX4 := Lib.hid hx4
  have HY4 := Lib.hid hy4
  have HNE := Lib.hid hne
  have HQY := Lib.hid hqy
  clear c0 c1 c2 c3 hu4 hx4 hy4 hne hqy
  go_upto_region 8 with (fail)
  have hy5 := HY4.out.set 2 (.int .i64 (imin 9 (x.pri + 1)))
  have hx5 := HX4.out.far (p := ⟨qy, 2, none⟩) HNE.out.symm (.int .i64 (imin 9 (x.pri + 1)))
  have hu5 : Upd w4 (w4.setCell ⟨qy, 2, none⟩ (.int .i64 (imin 9 (x.pri + 1)))) (fun i => i = qy) := (Upd.refl w4 _).set _ _ (.inl rfl)
  clear e2 e3 ef
  generalize w4.setCell ⟨qy, 2, none⟩ (.int .i64 (imin 9 (x.pri + 1))) = w5 at *
  have HU5 := Lib.hid (HU4.out.on hu5 HQY.out)
  have X0 := fun (z : UW w5) => z.cell (show w5.cell? ⟨w.heap.size, 0, none⟩ = some (.int .i64 x.id) from (hx5.cell 0).trans rfl)
  have X1 := fun (z : UW w5) => z.cell (show w5.cell? ⟨w.heap.size, 1, none⟩ = some (.string x.dest) from (hx5.cell 1).trans rfl)
  have X2 := fun (z : UW w5) => z.cell (show w5.cell? ⟨w.heap.size, 2, none⟩ = some (.int .i64 x.pri) from (hx5.cell 2).trans rfl)
  have X3 := fun (z : UW w5) => z.cell (show w5.cell? ⟨w.heap.size, 3, none⟩ = some (.int .i64 x.at_) from (hx5.cell 3).trans rfl)
  have Y0 := fun (z : UW w5) => z.cell (show w5.cell? ⟨qy, 0, none⟩ = some (.int .i64 x.id) from (hy5.cell 0).trans rfl)
  have Y1 := fun (z : UW w5) => z.cell (show w5.cell? ⟨qy, 1, none⟩ = some (.string x.dest) from (hy5.cell 1).trans rfl)
  have Y2 := fun (z : UW w5) => z.cell (show w5.cell? ⟨qy, 2, none⟩ = some (.int .i64 (imin 9 (x.pri + 1))) from (hy5.cell 2).trans rfl)
  have Y3 := fun (z : UW w5) => z.cell (show w5.cell? ⟨qy, 3, none⟩ = some (.int .i64 x.at_) from (hy5.cell 3).trans rfl)
  clear hy5 hx5 hu5
  rcases HCS.out with c1 | ⟨c1, c2⟩
  all_goals
    as_aux_lemma =>
    refine region_uw (by kernel_rfl) (by kernel_rfl) ?_
    simp only [List.append_eq, List.cons_append, List.nil_append]
    repeat (first
      | go_big_quiet_skip
      | (go_big_quiet_want; go_big_quiet_op; first | go_big_quiet_on | go_big_quiet_call (first | (go_at_call 26; with_reducible exact UW.call (S1.out _)) | (go_at_call 26; with_reducible exact UW.call (S2.out _)) | (go_at_call 26; with_reducible exact UW.call (S3.out _)) | (go_at_call 26; with_reducible exact UW.call (S4.out _)) | (go_at_call 26; with_reducible exact UW.call (S5.out _)))))
    refine wpQuiet_nil ?_
    rintro _ ⟨z, rfl⟩
    go_wp2_with fail
    go_ret
    exact ⟨rfl, HU5.out.nn z.ok⟩
end Go.Proofs.Ythpilbooolgkiaa
