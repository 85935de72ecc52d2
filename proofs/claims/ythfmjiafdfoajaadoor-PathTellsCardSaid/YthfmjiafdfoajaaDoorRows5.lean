/- A slice of structs that came in, opened as a list: the cells of each element. -/
import Derived.Test.YthfmjiafdfoajaaDoorOpen
import Derived.Deep.Slices
import Derived.Deep.Fields
import Derived.ChangeSame
set_option linter.unusedVariables false
set_option linter.unusedSimpArgs false
namespace Go.Proofs.YthfmjiafdfoajaaDoor
open Go.RowKit Go.ChangeShapes Go.WideShapes Go.Deep

/-- The row of elements of k cells each at A reads as l. -/
def RdS {α : Type} (k : Nat) (f : α → List Value) (w : World) (A : Option Addr) (l : List α) : Prop :=
  ∀ i (h : i < l.length), ∃ ad, A = some ad ∧ ∀ j v, (f (l[i]'h))[j]? = some v → w.cell? (ad.add (i * k + j)) = some v
theorem RdS.at_ {α : Type} {k : Nat} {f : α → List Value} {w : World} {ad : Addr} {l : List α} (h : RdS k f w (some ad) l) (i : Nat) (hi : i < l.length) : ∀ j v, (f (l[i]'hi))[j]? = some v → w.cell? (ad.add (i * k + j)) = some v := by
  obtain ⟨b, e, hc⟩ := h i hi
  cases e
  exact hc
theorem RdS.upd {α : Type} {k : Nat} {f : α → List Value} {w w1 : World} {F : Nat → Prop} {A : Option Addr} {l : List α} (h : RdS k f w A l) (u : Upd w w1 F) (hF : ∀ i, F i → w.heap.size ≤ i) : RdS k f w1 A l := by
  intro i hi
  obtain ⟨ad, e, hc⟩ := h i hi
  refine ⟨ad, e, fun j v hv => u.cell (hc j v hv) (fun hf => ?_)⟩
  have h1 := World.block_lt_of_cell? w _ (hc j v hv)
  have h2 := hF _ hf
  omega
theorem RdS.nn {α : Type} {k : Nat} {f : α → List Value} {w w1 : World} {A : Option Addr} {l : List α} (h : RdS k f w A l) (u : Upd w w1 Nope) : RdS k f w1 A l := h.upd u (fun _ h => h.elim)
/-- A field's cell, as the walk spells its address. -/
theorem RdS.f0 {α : Type} {k : Nat} {f : α → List Value} {w : World} {ad : Addr} {l : List α} (h : RdS k f w (some ad) l) {i : Nat} (hi : i < l.length) {v : Value} (hv : (f (l[i]'hi))[0]? = some v) : w.cell? (ad.add (i * k)) = some v := h.at_ i hi 0 v hv
theorem RdS.fs {α : Type} {k : Nat} {f : α → List Value} {w : World} {ad : Addr} {l : List α} (h : RdS k f w (some ad) l) {i : Nat} (hi : i < l.length) (j : Nat) {v : Value} (hv : (f (l[i]'hi))[j + 1]? = some v) :
    w.cell? ⟨(ad.add (i * k)).block, (ad.add (i * k)).off + (j + 1), none⟩ = some v := by
  have e := h.at_ i hi (j + 1) v hv
  rw [← Go.Deep.add_add] at e
  exact e
/-- All cells of the row lie below the world's end. -/
theorem RdS.lt {α : Type} {k : Nat} {f : α → List Value} {w : World} {ad : Addr} {l : List α} (h : RdS k f w (some ad) l) {i : Nat} (hi : i < l.length) {j : Nat} {v : Value} (hv : (f (l[i]'hi))[j]? = some v) : ad.block < w.heap.size := by
  have h1 := World.block_lt_of_cell? w _ (h.at_ i hi j v hv)
  have e : (ad.add (i * k + j)).block = ad.block := by unfold Addr.add; split <;> rfl
  omega

section
variable {H : Type} {enc : TypeId × Value → H} {P : Program} {W : World}
/-- An element's cells, opened by hE, with what the size of the whole input says of it. -/
theorem open_rowS {α : Type} (k : Nat) (f : α → List Value) (ok : α → Prop) (hk : ∀ y, (f y).length = k) {t e : TypeId} {a : Option Addr} {len cap : Nat} {d : DataW H} {ps : List MemPlace}
    (ht : P.underlying t = some (.slice e)) (hc : P.cellsOf e = k)
    (hE : ∀ n cs x, cs.length = k → DataW.trod enc P W 0 (fun _ => true) true n e cs = some x → (∀ m ∈ x.1.weights P e, m ≤ reachBytes) → ∃ y, cs = f y ∧ ok y)
    (h : DataW.Trod enc P W 0 (fun _ => true) true t (.slice a len cap) d ps) (hw : ∀ m ∈ d.weights P t, m ≤ reachBytes) :
    ∃ l : List α, l.length = len ∧ RdS k f W a l ∧ len ≤ cap ∧ cap ≤ maxLen ∧ (∀ y ∈ l, ok y) ∧ (a = none → cap = 0) := by
  obtain ⟨fuel, hf⟩ := h
  rcases open_slice ht hf with ⟨hcs, _⟩ | ⟨x, l, c, m, n, D, Pl, hcs, _, hl, hm, hmm, hd, hx⟩
  · simp [Value.cells] at hcs
    obtain ⟨rfl, rfl, rfl⟩ := hcs
    exact ⟨[], rfl, fun i hi => absurd hi (by simp), Nat.le_refl _, by simp [maxLen], by simp, fun _ => rfl⟩
  · simp [Value.cells] at hcs
    obtain ⟨rfl, rfl, rfl⟩ := hcs
    have hlm : len ≤ m := by rw [hmm]; split <;> omega
    injection hd with hd _
    have hy : ∀ i, i < len → ∃ y, (∀ j v, (f y)[j]? = some v → W.cell? (x.add (i * k + j)) = some v) ∧ ok y := fun i hi => by
      obtain ⟨cs', hcc, ht'⟩ := hx i (by omega)
      rw [hc] at hcc
      obtain ⟨_, hcl, hat⟩ := World.cells?_some hcc
      obtain ⟨y, rfl, hoky⟩ := hE n cs' _ (by simpa using hcl) ht' (fun q hq => hw q (by
        rw [hd, DataW.weights, ht]
        exact List.mem_cons_of_mem _ (List.mem_append_left _ (weightsAll_mem hq (List.mem_map_of_mem (List.mem_range.2 hi))))))
      refine ⟨y, fun j v hv => ?_, hoky⟩
      have hjl : j < k := by rw [← hk y]; exact (List.getElem?_eq_some_iff.1 hv).1
      rw [← Go.Deep.add_add, hat j (by omega), hv]
    obtain ⟨l, hll, hlv⟩ : ∃ l : List α, l.length = len ∧ ∀ i (h : i < l.length), (∀ j v, (f (l[i]'h))[j]? = some v → W.cell? (x.add (i * k + j)) = some v) ∧ ok (l[i]'h) := by
      clear hx hl hmm hlm hf hd
      induction len with
      | zero => exact ⟨[], rfl, fun i hi => absurd hi (by simp)⟩
      | succ k ih =>
        obtain ⟨l, hl, hv⟩ := ih (fun i hi => hy i (by omega))
        obtain ⟨y, hyk, hok⟩ := hy k (by omega)
        refine ⟨l ++ [y], by simp [hl], fun i hi => ?_⟩
        by_cases hik : i < l.length
        · rw [List.getElem_append_left hik]
          exact hv i hik
        · have e : i = k := by simp at hi; omega
          subst e
          rw [List.getElem_append_right (by omega)]
          simpa [hl] using ⟨hyk, hok⟩
    refine ⟨l, hll, fun i hi => ⟨x, rfl, (hlv i hi).1⟩, hl, hm, fun y hy => ?_, fun h => by cases h⟩
    obtain ⟨i, hi, rfl⟩ := List.mem_iff_getElem.1 hy
    exact (hlv i hi).2
end
end Go.Proofs.YthfmjiafdfoajaaDoor
