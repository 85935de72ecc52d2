/- Entries, and their ranks. -/
import Derived.Test.YthpilbooolgkiaaOpen
import Derived.Handy
import Derived.Deep.Cut
import Derived.Deep.CutRange
import Derived.Deep.RegionLaw
import Derived.Deep.RegionWith
set_option linter.unusedVariables false
set_option linter.unusedSimpArgs false
namespace Go.Proofs.Ythpilbooolgkiaa
open Go.RowKit

/-- An entry of the queue. -/
structure En where
  id : Int
  dest : ByteArray
  pri : Int
  at_ : Int
theorem En.ext' {a b : En} (h1 : a.id = b.id) (h2 : a.dest = b.dest) (h3 : a.pri = b.pri) (h4 : a.at_ = b.at_) : a = b := by cases a; cases b; simp_all
instance : DecidableEq En := fun a b =>
  if h : a.id = b.id ∧ a.dest = b.dest ∧ a.pri = b.pri ∧ a.at_ = b.at_ then isTrue (En.ext' h.1 h.2.1 h.2.2.1 h.2.2.2) else isFalse (by rintro rfl; exact h ⟨rfl, rfl, rfl, rfl⟩)
def En.vals (e : En) : List Value := [.int .i64 e.id, .string e.dest, .int .i64 e.pri, .int .i64 e.at_]
/-- As one value. -/
def En.val (e : En) : Value := .agg #[.int .i64 e.id, .string e.dest, .int .i64 e.pri, .int .i64 e.at_]
def ecells (l : List En) : List Value := l.flatMap En.vals
theorem ecells_snoc (l : List En) (e : En) : ecells (l ++ [e]) = ecells l ++ e.vals := by simp [ecells]
theorem ecells_append (l m : List En) : ecells (l ++ m) = ecells l ++ ecells m := by simp [ecells]
theorem ecells_len (l : List En) : (ecells l).length = l.length * 4 := by
  induction l with
  | nil => rfl
  | cons x l ih => simp [ecells, En.vals] at ih ⊢; omega
theorem ecells_one (l : List En) : ∀ u ∈ ecells l, u.oneCell' = true := by
  intro u hu
  simp only [ecells, List.mem_flatMap, En.vals] at hu
  obtain ⟨x, _, hx⟩ := hu
  simp at hx
  rcases hx with rfl | rfl | rfl | rfl <;> rfl
theorem ecells_get (l : List En) (i : Nat) (h : i < l.length) : (ecells l)[i * 4]? = some (.int .i64 (l[i]'h).id) ∧ (ecells l)[i * 4 + 1]? = some (.string (l[i]'h).dest) ∧ (ecells l)[i * 4 + 2]? = some (.int .i64 (l[i]'h).pri) ∧ (ecells l)[i * 4 + 3]? = some (.int .i64 (l[i]'h).at_) := by
  induction l generalizing i with
  | nil => simp at h
  | cons x l ih =>
    have e : ecells (x :: l) = .int .i64 x.id :: .string x.dest :: .int .i64 x.pri :: .int .i64 x.at_ :: ecells l := by simp [ecells, En.vals]
    cases i with
    | zero => rw [e]; exact ⟨rfl, rfl, rfl, rfl⟩
    | succ i =>
      have := ih i (by simpa using h)
      rw [e, show (i + 1) * 4 = i * 4 + 1 + 1 + 1 + 1 by omega]
      exact this

/-- A row of entries, read as it lies at block q. -/
def Ers (w : World) (q : Nat) (l : List En) : Prop := ∀ i (h : i < l.length), w.cell? ⟨q, i * 4, none⟩ = some (.int .i64 (l[i]'h).id) ∧ w.cell? ⟨q, i * 4 + 1, none⟩ = some (.string (l[i]'h).dest) ∧ w.cell? ⟨q, i * 4 + 2, none⟩ = some (.int .i64 (l[i]'h).pri) ∧ w.cell? ⟨q, i * 4 + 3, none⟩ = some (.int .i64 (l[i]'h).at_)
theorem ers_of {w : World} {B n cap q : Nat} {l : List En} (h : w.ownsRow B 34 4 (.slice (some ⟨q, 0, none⟩) n cap) n (ecells l)) : n = l.length ∧ Ers w q l := by
  have hl := h.1
  rw [ecells_len] at hl
  have hn : n = l.length := by omega
  refine ⟨hn, fun i hi => ?_⟩
  obtain ⟨a, b, c, d⟩ := ecells_get l i hi
  exact ⟨(h.cellAt _ (by omega)).trans a, (h.cellAt _ (by omega)).trans b, (h.cellAt _ (by omega)).trans c, (h.cellAt _ (by omega)).trans d⟩

def rank (pri at_ now age : Int) : Int := if now ≤ at_ then min pri 9 else min (pri + min ((now - at_).tdiv (max age 1)) 1048576) 9
attribute [local go_sem] bmin2 bmax2 bmin_two bmax_two

set_option maxHeartbeats 1000000 in
theorem rank_any (e : En) (now age : Int) (w : World) (h1 : -17592186044416 ≤ now) (h2 : now ≤ 17592186044416) (h3 : -17592186044416 ≤ e.at_) (h4 : e.at_ ≤ 17592186044416) (h5 : -1000000 ≤ e.pri) (h6 : e.pri ≤ 1000000) (h7 : age ≤ 17592186044416) (h8 : -17592186044416 ≤ age) :
    Calls Try.prog 26 #[e.val, .int .i64 now, .int .i64 age] w fun r w' => r = .returned (.int .i64 (rank e.pri e.at_ now age)) ∧ Upd w w' Nope := by
  unfold En.val
  by_cases hc : now ≤ e.at_
  · have hd : decide (now ≤ e.at_) = true := by simpa using hc
    have hr : rank e.pri e.at_ now age = imin e.pri 9 := by unfold rank; rw [if_pos hc, imin_eq]
    rw [hr]
    clear hc hr
    go_enter Try.func26, Try.ntmps26
    go_wp2
    go_ret
    exact ⟨rfl, (Upd.refl _ _).alloc _⟩
  · have hd : decide (now ≤ e.at_) = false := by simpa using hc
    have hr : rank e.pri e.at_ now age = imin (e.pri + imin ((now - e.at_).tdiv (imax age 1)) 1048576) 9 := by unfold rank; rw [if_neg hc, imin_eq, imin_eq, imax_eq]
    rw [hr]
    clear hr
    have hlt : e.at_ < now := by omega
    have hm1 : 1 ≤ imax age 1 := by rw [imax_eq]; omega
    have hm2 : imax age 1 ≤ 17592186044416 := by rw [imax_eq]; omega
    have hnz : (imax age 1 == 0) = false := by simp; omega
    have hnz2 : imax age 1 ≠ 0 := by omega
    have q0 : 0 ≤ (now - e.at_).tdiv (imax age 1) := Int.tdiv_nonneg (by omega) (by omega)
    have q1 : (now - e.at_).tdiv (imax age 1) ≤ now - e.at_ := by
      rw [Int.tdiv_eq_ediv_of_nonneg (by omega)]
      exact Int.ediv_le_self _ (by omega)
    have w1 : wrap64 (now - e.at_) = now - e.at_ := wrap64_in (by omega) (by omega)
    have w2 : wrap64 ((now - e.at_).tdiv (imax age 1)) = (now - e.at_).tdiv (imax age 1) := wrap64_in (by omega) (by omega)
    have i1 : imin ((now - e.at_).tdiv (imax age 1)) 1048576 ≤ 1048576 := by rw [imin_eq]; omega
    have i2 : 0 ≤ imin ((now - e.at_).tdiv (imax age 1)) 1048576 := by rw [imin_eq]; omega
    have w3 : wrap64 (e.pri + imin ((now - e.at_).tdiv (imax age 1)) 1048576) = e.pri + imin ((now - e.at_).tdiv (imax age 1)) 1048576 := wrap64_in (by omega) (by omega)
    go_enter Try.func26, Try.ntmps26
    go_wp2_with fail
    go_region
    go_wp2_with fail
    go_ret
    exact ⟨rfl, ((Upd.refl _ _).alloc _).drew⟩
end Go.Proofs.Ythpilbooolgkiaa
