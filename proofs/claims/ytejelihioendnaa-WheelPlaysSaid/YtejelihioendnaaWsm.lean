/- Two rows of numbers; a target. -/
import Derived.Test.YtejelihioendnaaWat
set_option linter.unusedVariables false
set_option linter.unusedSimpArgs false
namespace Go.Proofs.Ytejelihioendnaa
open Go.RowKit

set_option maxHeartbeats 1000000 in
theorem same_any {w : World} {A B : Option Addr} {ca cb : Nat} {l m : List Int} (ha : Rd1 (Value.int .i64) w A l) (hb : Rd1 (Value.int .i64) w B m) (hl : l.length ≤ 1000000000) :
    Calls Try.prog 17 #[.slice A l.length ca, .slice B m.length cb] w fun e w' => e = .returned (.bool (decide (l = m))) ∧ Upd w w' Nope := by
  have HA := Lib.hid ha
  have HB := Lib.hid hb
  clear ha hb
  generalize hR : decide (l = m) = R
  have HR := Lib.hid hR
  by_cases hlm : l.length = m.length
  · go_enter Try.func17, Try.ntmps17
    have HN := Lib.hid hlm
    rw [← hlm]
    clear hlm hR
    go_wp2_with fail
    go_loopw [5] (fun i wr => ∃ k : Nat, k ≤ l.length ∧ i = .int .i64 k ∧ l.take k = m.take k ∧ Upd w wr Nope) (fun i _ => l.length - (intOf i).toNat)
    case atStart => exact ⟨0, by omega, rfl, by simp, Upd.refl _ _⟩
    case round =>
      obtain ⟨k, hk, rfl, ht, hu⟩ := hrel
      have HT := Lib.hid ht
      have HU := Lib.hid hu
      clear ht
      by_cases hkl : k < l.length
      · obtain ⟨ad, rfl, hc1⟩ := (HA.out.upd hu (fun _ h => h.elim)) k hkl
        obtain ⟨bd, rfl, hc2⟩ := (HB.out.upd hu (fun _ h => h.elim)) k (by have := HN.out; omega)
        clear hu
        have hkm : k < m.length := by have := HN.out; omega
        by_cases he : l[k] = m[k]
        · have hee : decide (l[k] = m[k]) = true := by simpa using he
          have hnx : l.take (k + 1) = m.take (k + 1) := by
            rw [List.take_add_one, List.take_add_one, HT.out]
            simp [hkl, hkm, he]
          have HX := Lib.hid hnx
          rw [he] at hc1
          generalize m[k] = v at hc1 hc2 he hee
          clear he hee hnx
          go_wp2_with fail
          go_big_region
          go_wp2_with fail
          all_goals exact ⟨⟨k + 1, by omega, by go_num, HX.out, HU.out.drew⟩, by simp [intOf]; omega⟩
        · have HNE := Lib.hid (show decide (l = m) = false by simp; intro e; subst e; exact he rfl)
          have hee : (l[k] != m[k]) = true := by simpa using he
          generalize l[k] = u at hc1 he hee
          generalize m[k] = v at hc2 he hee
          clear he
          obtain rfl : R = false := by rw [← HR.out, HNE.out]
          go_wp2_with fail
          go_big_region
          go_wp2_with fail
          go_returns
          exact ⟨rfl, HU.out.drew⟩
      · obtain rfl : k = l.length := by omega
        have hl2 : l = m := by
          have := HT.out
          rw [List.take_length, HN.out, List.take_length] at this
          exact this
        obtain rfl : R = true := by rw [← HR.out]; simpa using hl2
        clear hl2 hu
        go_wp2_with fail
        go_returns
        exact ⟨rfl, HU.out⟩
  · have hn : decide ((l.length : Int) = m.length) = false := by simp; omega
    obtain rfl : R = false := by rw [← hR]; simp; intro e; exact hlm (by rw [e])
    clear hR
    go_enter Try.func17, Try.ntmps17
    go_wp2
    go_returns
    exact ⟨rfl, Upd.refl _ _⟩
def targetR (now n : Int) : Int := now + max (-2199023255552) (min n 2199023255552)
theorem target_any (now n : Int) (w : World) (h0 : 0 ≤ now) (h1 : now ≤ 1099511627776) : Calls Try.prog 14 #[.int .i64 now, .int .i64 n] w fun e w' => e = .returned (.int .i64 (targetR now n)) ∧ w' = w := by
  rcases (by omega : 2199023255552 < n ∨ (¬ 2199023255552 < n ∧ n < -2199023255552) ∨ (¬ 2199023255552 < n ∧ ¬ n < -2199023255552)) with h | ⟨h, h'⟩ | ⟨h, h'⟩
  · rw [show targetR now n = now + 2199023255552 by unfold targetR; omega]
    go_enter Try.func14, Try.ntmps14
    have hd : decide (2199023255552 < n) = true := by simpa using h
    clear h
    go_wp2
    go_returns
    exact ⟨by go_num, rfl⟩
  · rw [show targetR now n = now + -2199023255552 by unfold targetR; omega]
    go_enter Try.func14, Try.ntmps14
    have hd : decide (2199023255552 < n) = false := by simpa using h
    have hd' : decide (n < -2199023255552) = true := by simpa using h'
    clear h h'
    go_wp2
    go_returns
    exact ⟨by go_num, rfl⟩
  · rw [show targetR now n = now + n by unfold targetR; omega]
    go_enter Try.func14, Try.ntmps14
    have hd : decide (2199023255552 < n) = false := by simpa using h
    have hd' : decide (n < -2199023255552) = false := by simpa using h'
    go_wp2
    go_returns
    exact ⟨by go_num, rfl⟩
end Go.Proofs.Ytejelihioendnaa
