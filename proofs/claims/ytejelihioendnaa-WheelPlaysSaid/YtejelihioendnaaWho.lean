/- A wheel's small functions: New, Now, Len, of. -/
import Derived.Test.YtejelihioendnaaWhe
set_option linter.unusedVariables false
set_option linter.unusedSimpArgs false
set_option linter.unusedSectionVars false
namespace Go.Proofs.Ytejelihioendnaa
open Go.RowKit

section
variable {w : World} {g : Nat} {bs : Nat → Option Nat} {bf bp : Nat} {s : Wh} (h : WH w g bs bf bp s)
include h
theorem WH.c0 : w.cell? ⟨g, 0, none⟩ = some (.int .i64 s.now) := (h.blk.cell 0).trans (wc_0 ..)
theorem WH.cs {i : Nat} (hi : i < 256) : w.cell? ⟨g, 1 + i, none⟩ = some (.map (bs i)) := (h.blk.cell _).trans (wc_s _ _ _ _ hi)
theorem WH.cf : w.cell? ⟨g, 257, none⟩ = some (.map (some bf)) := (h.blk.cell 257).trans (wc_f ..)
theorem WH.cp : w.cell? ⟨g, 258, none⟩ = some (.map (some bp)) := (h.blk.cell 258).trans (wc_p ..)
set_option maxRecDepth 100000 in
theorem now_any : Calls Try.prog 18 #[.pointer (some ⟨g, 0, none⟩)] w fun e w' => e = .returned (.int .i64 s.now) ∧ w' = w := by
  have c := h.c0
  clear h
  go_enter Try.func18, Try.ntmps18
  go_wp2
  go_ret
  exact ⟨rfl, rfl⟩
set_option maxRecDepth 100000 in
theorem len_any : Calls Try.prog 19 #[.pointer (some ⟨g, 0, none⟩)] w fun e w' => e = .returned (.int .i64 s.pl.length) ∧ w' = w := by
  have c := h.cp
  have hm := h.place
  clear h
  go_enter Try.func19, Try.ntmps19
  go_wp2_with (first | (at_len; refine wp_lenM hm rfl _ rfl rfl ?_) | go_in)
  go_ret
  exact ⟨rfl, rfl⟩
end
theorem build64 (now : Int) (a b : Nat) (w : World) : (Instr.build 64 #[(0, .int .i64 now), (2, .map (some a)), (3, .map (some b))]).run Try.prog w = .ok (.agg (wcells now (fun _ => none) a b)) w := by kernel_rfl
theorem box64 (now : Int) (a b : Nat) (w : World) : (Instr.box 64 (.agg (wcells now (fun _ => none) a b))).run Try.prog w = .ok (.pointer (some ⟨w.heap.size, 0, none⟩)) (w.alloc (.cells (wcells now (fun _ => none) a b) 64)) := by kernel_rfl
section
variable {ops : Array Oper} {tail : List Oper} {o : Oper} {a : Act} {Q : Exit → Act → World → Prop} {w : World}
theorem wp_build64 (hg : o.guard = none) (x y z : Operand) (hop : o.op = Op.build 64 #[(0, x), (2, y), (3, z)]) {now : Int} {p q : Nat} (hx : a.eval x = .int .i64 now) (hy : a.eval y = .map (some p)) (hz : a.eval z = .map (some q))
    (hK : wpList Try.prog ops Q tail (a.put o.dst (.agg (wcells now (fun _ => none) p q))) w) : wpList Try.prog ops Q (o :: tail) a w := by
  refine wpList_plain hg fun K' hK' => ?_
  unfold Oper.wp
  have e : (execOp a.eval o).run Try.prog w = .ok (.value (.agg (wcells now (fun _ => none) p q))) w := by
    have h1 : execOp a.eval o = (do pure (.value (← Instr.build 64 #[(0, .int .i64 now), (2, .map (some p)), (3, .map (some q))]))) := by
      unfold execOp
      rw [hop]
      simp [hx, hy, hz]
    rw [h1]
    simp [build64, Result.andThen]
  rw [e]
  exact hK' _ _ hK
theorem wp_box64 (hg : o.guard = none) (x : Operand) (hop : o.op = Op.box 64 x) {now : Int} {p q : Nat} (hx : a.eval x = .agg (wcells now (fun _ => none) p q))
    (hK : wpList Try.prog ops Q tail (a.put o.dst (.pointer (some ⟨w.heap.size, 0, none⟩))) (w.alloc (.cells (wcells now (fun _ => none) p q) 64))) : wpList Try.prog ops Q (o :: tail) a w := by
  refine wpList_plain hg fun K' hK' => ?_
  unfold Oper.wp
  have e : (execOp a.eval o).run Try.prog w = .ok (.value (.pointer (some ⟨w.heap.size, 0, none⟩))) (w.alloc (.cells (wcells now (fun _ => none) p q) 64)) := by
    have h1 : execOp a.eval o = (do pure (.value (← Instr.box 64 (.agg (wcells now (fun _ => none) p q))))) := by
      unfold execOp
      rw [hop]
      simp [hx]
    rw [h1]
    simp [box64, Result.andThen]
  rw [e]
  exact hK' _ _ hK
end
def newOk (n : Int) : Bool := decide (0 ≤ n) && decide (n ≤ 1099511627776)
set_option maxRecDepth 100000 in
theorem new_any (now : Int) (w : World) : Calls Try.prog 9 #[.int .i64 now] w fun e w' =>
    (newOk now = false → e = .returned (.tuple #[.pointer none, .int .i64 1])) ∧ (newOk now = true → ∃ g F, e = .returned (.tuple #[.pointer (some ⟨g, 0, none⟩), .int .i64 0]) ∧ WO w' g F ⟨now, fun _ => [], []⟩ ∧ ∀ i, F i → w.heap.size ≤ i) ∧ Upd w w' Nope := by
  have hmm := @run_makeMap Try.prog
  cases hr : newOk now with
  | false =>
    have h1 : decide (now < 0) = true ∨ (decide (now < 0) = false ∧ decide (1099511627776 < now) = true) := by
      simp only [newOk, Bool.and_eq_false_iff, decide_eq_false_iff_not, decide_eq_true_eq] at hr ⊢
      omega
    clear hr
    rcases h1 with h1 | ⟨h1, h2⟩
    all_goals
      go_enter Try.func9, Try.ntmps9
      go_wp2
      go_ret2
      exact ⟨fun _ => rfl, fun h => absurd h (by decide), Upd.refl _ _⟩
  | true =>
    have h1 : decide (now < 0) = false := by simp [newOk] at hr ⊢; omega
    have h2 : decide (1099511627776 < now) = false := by simp [newOk] at hr ⊢; omega
    clear hr
    go_enter Try.func9, Try.ntmps9
    go_wp2_with (first | (refine wp_build64 rfl _ _ _ rfl rfl rfl rfl ?_) | (refine wp_box64 rfl _ rfl rfl ?_) | go_in)
    go_ret2
    have u : Upd w (((w.alloc (.map #[] 0)).alloc (.map #[] 0)).alloc (.cells (wcells now (fun _ => none) w.heap.size (w.heap.size + 1)) 64)) Nope := (((Upd.refl w _).alloc _).alloc _).alloc _
    have hb := Blk.new ((w.alloc (.map #[] 0)).alloc (.map #[] 0)) (wcells now (fun _ => none) w.heap.size (w.heap.size + 1)) 64
    have e2 : ((w.alloc (.map #[] 0)).alloc (.map #[] 0)).heap.size = w.heap.size + 2 := by simp
    have e1 : (w.alloc (.map #[] 0)).heap.size = w.heap.size + 1 := by simp
    have hp := Mp.new MP (w.alloc (.map #[] 0))
    rw [e1] at hp
    refine ⟨fun h => absurd h (by decide), fun _ => ⟨w.heap.size + 2, _, by simp, ⟨fun _ => none, w.heap.size, w.heap.size + 1, ⟨by rw [← e2]; exact hb, fun _ _ _ => rfl, fun i b _ h => by simp at h, ((Mp.new MI w).alloc _).alloc _, hp.alloc _, fun i j b _ _ h => by simp at h, fun i b _ h => by simp at h, by omega⟩, fun i => Iff.rfl⟩, fun i hi => ?_⟩, u⟩
    rcases hi with rfl | rfl | rfl | ⟨k, _, hb⟩
    · omega
    · omega
    · omega
    · cases hb
end Go.Proofs.Ytejelihioendnaa
