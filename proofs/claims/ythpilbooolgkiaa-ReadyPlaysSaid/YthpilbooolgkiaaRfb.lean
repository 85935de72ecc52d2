/- The reference: Flying, Rank, without. -/
import Derived.Test.YthpilbooolgkiaaRfa
import Derived.Test.YthpilbooolgkiaaSeqf
set_option linter.unusedVariables false
set_option linter.unusedSimpArgs false
namespace Go.Proofs.Ythpilbooolgkiaa
open Go.RowKit

/-- How many of a row go somewhere. -/
def cntF (d : ByteArray) (l : List En) : Nat := (l.filter fun e => e.dest.toList == d.toList).length
theorem cntF_le (d : ByteArray) (l : List En) : cntF d l ≤ l.length := List.length_filter_le _ _
theorem cntF_take {d : ByteArray} {l : List En} {k : Nat} (h : k < l.length) : cntF d (l.take (k + 1)) = cntF d (l.take k) + if (l[k].dest.toList == d.toList) = true then 1 else 0 := by
  unfold cntF
  rw [List.take_succ_eq_append_getElem h, List.filter_append, List.length_append]
  congr 1
  by_cases e : (l[k].dest.toList == d.toList) = true
  · rw [if_pos e, List.filter_cons_of_pos (by simpa using e)]; rfl
  · rw [if_neg e, List.filter_cons_of_neg (by simpa using e)]; rfl
set_option maxHeartbeats 1000000 in
theorem flyF_any (w : World) (age limit room : Int) (A B : Option Addr) (n cap capB : Nat) (L : List En) (hr : RE w B capB L) (hl : L.length ≤ 5000) (d : ByteArray) :
    Calls Try.prog 25 #[.agg #[.int .i64 age, .int .i64 limit, .int .i64 room, .slice A n cap, .slice B L.length capB], .string d] w fun r w' => r = .returned (.int .i64 (cntF d L)) ∧ Upd w w' Nope := by
  have HR := Lib.hid hr
  clear hr
  go_enter Try.func25, Try.ntmps25
  go_wp2
  have hB := Blk.new w #[.int .i64 age, .int .i64 limit, .int .i64 room, .slice A n cap, .slice B L.length capB] 32
  have hU : Upd w (w.alloc (.cells #[.int .i64 age, .int .i64 limit, .int .i64 room, .slice A n cap, .slice B L.length capB] 32)) Nope := (Upd.refl w _).alloc _
  generalize w.alloc (.cells #[.int .i64 age, .int .i64 limit, .int .i64 room, .slice A n cap, .slice B L.length capB] 32) = w2 at *
  have x4 : w2.cell? ⟨w.heap.size, 4, none⟩ = some (.slice B L.length capB) := (hB.cell 4).trans rfl
  have HU := Lib.hid hU
  clear hB hU
  go_loop [5, 6] (fun c i => ∃ k : Nat, i = .int .i64 k ∧ c = .int .i64 (cntF d (L.take k)) ∧ k ≤ L.length) (fun _ i => L.length - (intOf i).toNat)
  case atStart => exact ⟨0, rfl, by simp [cntF], by omega⟩
  case round =>
    obtain ⟨k, rfl, rfl, hk⟩ := hrel
    have hcl := cntF_le d (L.take k)
    rw [List.length_take] at hcl
    have hcl : cntF d (L.take k) ≤ 5000 := by omega
    by_cases hlt : k < L.length
    · obtain ⟨ad, rfl, x0, x1, _, _⟩ := (HR.out.nn HU.out).at_ hlt
      have HC := Lib.hid (cntF_take (d := d) hlt)
      clear x0
      generalize L[k] = e at *
      generalize cntF d (L.take k) = c at *
      cases he : (e.dest.toList == d.toList) with
      | true =>
        have HC2 := Lib.hid (show cntF d (L.take (k + 1)) = c + 1 by rw [HC.out, if_pos he])
        clear HC
        go_wp2
        go_round
        case rel => exact ⟨k + 1, by go_num, by rw [HC2.out]; go_num, by omega⟩
        case measure => simp [intOf]; omega
      | false =>
        have HC2 := Lib.hid (show cntF d (L.take (k + 1)) = c by rw [HC.out, if_neg (by rw [he]; simp)]; rfl)
        clear HC
        go_wp2
        go_round
        case rel => exact ⟨k + 1, by go_num, by rw [HC2.out], by omega⟩
        case measure => simp [intOf]; omega
    · obtain rfl : k = L.length := by omega
      rw [List.take_length] at hcl ⊢
      go_wp2
      go_ret
      exact ⟨rfl, HU.out⟩
set_option maxHeartbeats 1000000 in
theorem rankF_any (e : En) (he : e.ok) (now age : Int) (h1 : -2199023255552 ≤ now) (h2 : now ≤ 2199023255552) (h3 : 1 ≤ age) (h4 : age ≤ 1048576) (w : World) :
    Calls Try.prog 36 #[.agg #[.int .i64 e.id, .string e.dest, .int .i64 e.pri, .int .i64 e.at_], .int .i64 now, .int .i64 age] w fun r w' => r = .returned (.int .i64 (e.rank now age)) ∧ Upd w w' Nope := by
  obtain ⟨a1, a2, a3, a4⟩ : 0 ≤ e.at_ ∧ e.at_ ≤ 1099511627776 ∧ -9 ≤ e.pri ∧ e.pri ≤ 9 := ⟨he.a0, he.a1, he.p0, he.p1⟩
  have d0 : decide (age < 1) = false := by simp; omega
  have f0 : ¬ age < 1 := by omega
  by_cases hc : now ≤ e.at_
  · have d1 : decide (e.at_ < now) = false := by simp; omega
    have d2 : decide (9 < e.pri) = false := by simp; omega
    have hr : e.rank now age = e.pri := by unfold En.rank rank; rw [if_pos hc]; omega
    rw [hr]
    clear hr he hc h1 h2 h3 h4 a1 a2 a3 a4 f0
    go_enter Try.func36, Try.ntmps36
    go_wp2
    go_ret
    exact ⟨rfl, (Upd.refl _ _).alloc _⟩
  · have d1 : decide (e.at_ < now) = true := by simp; omega
    have q0 : 0 ≤ (now - e.at_).tdiv age := Int.tdiv_nonneg (by omega) (by omega)
    have q1 : (now - e.at_).tdiv age ≤ now - e.at_ := by
      rw [Int.tdiv_eq_ediv_of_nonneg (by omega)]
      exact Int.ediv_le_self _ (by omega)
    have hr : e.rank now age = min (e.pri + min ((now - e.at_).tdiv age) 1048576) 9 := by unfold En.rank rank; rw [if_neg hc, show max age 1 = age by omega]
    rw [hr]
    have w1 : wrap64 (now - e.at_) = now - e.at_ := wrap64_in (by omega) (by omega)
    have w2 : wrap64 ((now - e.at_).tdiv age) = (now - e.at_).tdiv age := wrap64_in (by omega) (by omega)
    have hnz : (age == 0) = false := by simp; omega
    have hnz2 : age ≠ 0 := by omega
    generalize hq : (now - e.at_).tdiv age = q at *
    have hways : (decide (1048576 < q) = true ∧ decide (9 < e.pri + 1048576) = true ∧ min (e.pri + min q 1048576) 9 = 9) ∨ (decide (1048576 < q) = false ∧ decide (9 < e.pri + q) = true ∧ min (e.pri + min q 1048576) 9 = 9) ∨
        (decide (1048576 < q) = false ∧ decide (9 < e.pri + q) = false ∧ min (e.pri + min q 1048576) 9 = e.pri + q) := by
      simp only [decide_eq_true_eq, decide_eq_false_iff_not]
      omega
    have w3 : decide (1048576 < q) = false → wrap64 (e.pri + q) = e.pri + q := fun h => wrap64_in (by simp at h; omega) (by simp at h; omega)
    have w4 : wrap64 (e.pri + 1048576) = e.pri + 1048576 := wrap64_in (by omega) (by omega)
    clear hr he hc h1 h2 h3 h4 a1 a2 a3 a4 q0 q1
    rcases hways with ⟨t1, t2, t3⟩ | ⟨t1, t2, t3⟩ | ⟨t1, t2, t3⟩
    all_goals
      rw [t3]
      clear t3
      try have w3 := w3 t1
      go_enter Try.func36, Try.ntmps36
      go_wp2
      go_ret
      exact ⟨rfl, (Upd.refl _ _).alloc _⟩
end Go.Proofs.Ythpilbooolgkiaa
