/- Pieces of a slice, and what a row of structs that a call owns reads as. -/
import Derived.Test.YthpilbooolgkiaaRowsA
set_option linter.unusedVariables false
set_option linter.unusedSimpArgs false
namespace Go.Proofs.Ythpilbooolgkiaa
open Go.RowKit

theorem elem_of {P : Program} {t e : TypeId} (ht : P.underlying t = some (.slice e)) : P.elem t = e := by simp [Program.elem, ht]
theorem add_zero' (A : Option Addr) : (A.map fun x => x.add 0) = A := by cases A <;> simp [Addr.add]
/-- s[:k]. -/
theorem cut_hi {P : Program} {t e : TypeId} (ht : P.underlying t = some (.slice e)) {i : TypeInfo} (hi : P.info? e = some i) (A : Option Addr) (n c k : Nat) (x : Int) (hx : x = k) (hk : k ≤ c) (W : World) :
    (Instr.slice t (.slice A n c) none (some (.int .i64 x)) none).run P W = .ok (.slice A k c) W := by
  subst hx
  have hu : P.underlying t = some (.slice (P.elem t)) := by rw [elem_of ht]; exact ht
  rw [run_slice_h W t A n c hu .i64 (k : Int) (by omega) (by omega), elem_of ht]
  simp [sizeOf, typeInfo, hi, sliced, Result.andThen, add_zero']
/-- Where s[k:] begins. -/
def dropA (A : Option Addr) (c k s : Nat) : Option Addr := if c = k then A else A.map (·.add (k * s))
/-- s[k:]. -/
theorem cut_lo {P : Program} {t e : TypeId} (ht : P.underlying t = some (.slice e)) {i : TypeInfo} {s : Nat} (hi : P.info? e = some i) (hs : i.size = s) (A : Option Addr) (n c k : Nat) (x : Int) (hx : x = k) (hk : k ≤ n) (W : World) :
    (Instr.slice t (.slice A n c) (some (.int .i64 x)) none none).run P W = .ok (.slice (dropA A c k s) (n - k) (c - k)) W := by
  subst hx hs
  have hu : P.underlying t = some (.slice (P.elem t)) := by rw [elem_of ht]; exact ht
  rw [run_slice_l W t A n c hu .i64 (k : Int) (by omega) (by omega), elem_of ht]
  simp [sizeOf, typeInfo, hi, sliced, Result.andThen, dropA]
theorem dropA_none (c k s : Nat) : dropA none c k s = none := by unfold dropA; split <;> rfl
theorem dropA_nil {A : Option Addr} {c k s : Nat} (hn : A = none → c = 0) (h : dropA A c k s = none) : c - k = 0 := by
  unfold dropA at h
  split at h
  · omega
  · cases A with
    | none => have := hn rfl; omega
    | some a => cases h
theorem dropA_blk {A : Option Addr} {c k s : Nat} {Q : Nat → Prop} (h : ∀ ad, A = some ad → Q ad.block) : ∀ ad, dropA A c k s = some ad → Q ad.block := by
  intro ad he
  unfold dropA at he
  split at he
  · exact h ad he
  · cases A with
    | none => cases he
    | some a =>
      cases he
      have e : (a.add (k * s)).block = a.block := by unfold Addr.add; split <;> rfl
      simp only [e]
      exact h a rfl
theorem RdS.dropA {α : Type} {k : Nat} {f : α → List Value} {w : World} {A : Option Addr} {l : List α} (h : RdS k f w A l) (n c : Nat) (hc : l.length ≤ c) : RdS k f w (dropA A c n k) (l.drop n) := by
  by_cases e : n < l.length
  · obtain ⟨ad, rfl, _⟩ := h n e
    unfold Go.Proofs.Ythpilbooolgkiaa.dropA
    rw [if_neg (by omega)]
    exact h.drop n
  · rw [List.drop_eq_nil_of_le (by omega)]
    intro i hi
    simp at hi
end Go.Proofs.Ythpilbooolgkiaa
