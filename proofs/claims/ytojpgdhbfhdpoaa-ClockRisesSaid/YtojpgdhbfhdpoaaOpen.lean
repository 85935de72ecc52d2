/- A slice that came in, its elements of one cell each, opened as a list: what a law's walk is told of it. -/
import Derived.Test.YtojpgdhbfhdpoaaBase
import Derived.Deep.Slices
import Derived.ProofKit
import Derived.SizedLaws
set_option linter.unusedVariables false
set_option linter.unusedSimpArgs false
namespace Go.Proofs.Ytojpgdhbfhdpoaa
open Go.RowKit Go.ChangeShapes Go.WideShapes

/-- The row of one-cell elements at A reads as l. -/
def Rd1 {α : Type} (f : α → Value) (w : World) (A : Option Addr) (l : List α) : Prop := ∀ i (h : i < l.length), ∃ ad, A = some ad ∧ w.cell? (ad.add i) = some (f (l[i]'h))

theorem Rd1.at_ {α : Type} {f : α → Value} {w : World} {ad : Addr} {l : List α} (h : Rd1 f w (some ad) l) (i : Nat) (hi : i < l.length) : w.cell? (ad.add i) = some (f (l[i]'hi)) := by
  obtain ⟨b, e, hc⟩ := h i hi
  cases e
  exact hc
theorem Rd1.upd {α : Type} {f : α → Value} {w w1 : World} {F : Nat → Prop} {A : Option Addr} {l : List α} (h : Rd1 f w A l) (k : Upd w w1 F) (hF : ∀ i, F i → w.heap.size ≤ i) : Rd1 f w1 A l := by
  intro i hi
  obtain ⟨ad, e, hc⟩ := h i hi
  refine ⟨ad, e, k.cell hc (fun hf => ?_)⟩
  have h1 := World.block_lt_of_cell? w _ hc
  have h2 := hF _ hf
  omega
theorem Rd1.below {α : Type} {f : α → Value} {w w1 : World} {A : Option Addr} {l : List α} (h : Rd1 f w A l) (k : Below w.heap.size w w1) : Rd1 f w1 A l := h.upd (Upd.of_below k Nope) (fun _ h => h.elim)
theorem Rd1.of_drew {α : Type} {f : α → Value} {w w1 : World} {A : Option Addr} {l : List α} (h : Rd1 f w A l) (k : Drew w w1) : Rd1 f w1 A l := h.upd (k.upd Nope) (fun _ h => h.elim)
theorem Rd1.drewN {α : Type} {f : α → Value} {w : World} {A : Option Addr} {l : List α} (h : Rd1 f w A l) (n : Nat) : Rd1 f (w.drewN n) A l := h
theorem Rd1.take {α : Type} {f : α → Value} {w : World} {A : Option Addr} {l : List α} (h : Rd1 f w A l) (k : Nat) : Rd1 f w A (l.take k) := by
  intro i hi
  have hi' : i < l.length := by rw [List.length_take] at hi; omega
  obtain ⟨ad, e, hc⟩ := h i hi'
  exact ⟨ad, e, by rw [hc]; simp⟩

section
variable {H : Type} {enc : TypeId × Value → H} {P : Program} {W : World}

theorem open_row1 {α : Type} (f : α → Value) (ok : α → Prop) {t e : TypeId} {a : Option Addr} {len cap : Nat} {d : DataW H} {ps : List MemPlace}
    (ht : P.underlying t = some (.slice e)) (hc : P.cellsOf e = 1)
    (hE : ∀ n v x, DataW.trod enc P W 0 (fun _ => true) true n e [v] = some x → ∃ y, v = f y ∧ ok y)
    (h : DataW.Trod enc P W 0 (fun _ => true) true t (.slice a len cap) d ps) :
    ∃ l : List α, l.length = len ∧ Rd1 f W a l ∧ len ≤ cap ∧ cap ≤ maxLen ∧ ∀ y ∈ l, ok y := by
  obtain ⟨fuel, hf⟩ := h
  rcases Deep.open_slice1 ht hc hf with ⟨hcs, _⟩ | ⟨x, l, c, m, n, V, D, Pl, hcs, _, hl, hm, hmm, _, hx⟩
  · simp [Value.cells] at hcs
    obtain ⟨rfl, rfl, rfl⟩ := hcs
    exact ⟨[], rfl, fun i hi => absurd hi (by simp), Nat.le_refl _, by simp [maxLen], by simp⟩
  · simp [Value.cells] at hcs
    obtain ⟨rfl, rfl, rfl⟩ := hcs
    have hlm : len ≤ m := by rw [hmm]; split <;> omega
    have hy : ∀ i, i < len → ∃ y, V i = f y ∧ ok y := fun i hi => hE n (V i) _ (hx i (by omega)).2
    obtain ⟨l, hll, hlv⟩ : ∃ l : List α, l.length = len ∧ ∀ i (h : i < l.length), V i = f (l[i]'h) ∧ ok (l[i]'h) := by
      clear hx hl hmm hlm hf
      rename_i hdp
      clear hdp
      induction len with
      | zero => exact ⟨[], rfl, fun i hi => absurd hi (by simp)⟩
      | succ k ih =>
        obtain ⟨l, hl, hv⟩ := ih (fun i hi => hy i (by omega))
        obtain ⟨y, hyk, hok⟩ := hy k (by omega)
        refine ⟨l ++ [y], by simp [hl], fun i hi => ?_⟩
        by_cases hik : i < l.length
        · rw [List.getElem_append_left hik]
          exact hv i hik
        · have e : i = k := by simp at hi; omega
          subst e
          rw [List.getElem_append_right (by omega)]
          simpa [hl] using ⟨hyk, hok⟩
    refine ⟨l, hll, fun i hi => ⟨x, rfl, ?_⟩, hl, hm, fun y hy => ?_⟩
    · rw [← (hlv i hi).1]
      exact (hx i (by omega)).1
    · obtain ⟨i, hi, rfl⟩ := List.mem_iff_getElem.1 hy
      exact (hlv i hi).2

theorem elem_int {k : IntKind} {e : TypeId} (he : P.underlying e = some (.int k)) (n : Nat) (v : Value) (x : DataW H × List MemPlace) (h : DataW.trod enc P W 0 (fun _ => true) true n e [v] = some x) :
    ∃ y : Int, v = .int k y ∧ (Lit.int k y).wf = true := by
  obtain ⟨y, hy, _, hw⟩ := DataW.trod_int he h
  exact ⟨y, by simpa using hy, hw⟩
theorem elem_bool {e : TypeId} (he : P.underlying e = some .bool) (n : Nat) (v : Value) (x : DataW H × List MemPlace) (h : DataW.trod enc P W 0 (fun _ => true) true n e [v] = some x) :
    ∃ y : Bool, v = .bool y ∧ True := by
  obtain ⟨y, hy, _⟩ := DataW.trod_bool he h
  exact ⟨y, by simpa using hy, trivial⟩
theorem elem_string {e : TypeId} (he : P.underlying e = some .string) (n : Nat) (v : Value) (x : DataW H × List MemPlace) (h : DataW.trod enc P W 0 (fun _ => true) true n e [v] = some x) :
    ∃ y : ByteArray, v = .string y ∧ y.size ≤ maxLen := by
  obtain ⟨y, hy, _, hw⟩ := DataW.trod_string he h
  exact ⟨y, by simpa using hy, hw⟩
end
theorem wf_i64 {x : Int} (h : (Lit.int .i64 x).wf = true) : -9223372036854775808 ≤ x ∧ x ≤ 9223372036854775807 := by
  simpa [Lit.wf, IntKind.min, IntKind.max, IntKind.signed, IntKind.bits] using h
theorem wf_u8 {x : Int} (h : (Lit.int .u8 x).wf = true) : 0 ≤ x ∧ x ≤ 255 := by
  simpa [Lit.wf, IntKind.min, IntKind.max, IntKind.signed, IntKind.bits] using h
theorem wf_u32 {x : Int} (h : (Lit.int .u32 x).wf = true) : 0 ≤ x ∧ x ≤ 4294967295 := by
  simpa [Lit.wf, IntKind.min, IntKind.max, IntKind.signed, IntKind.bits] using h
end Go.Proofs.Ytojpgdhbfhdpoaa
