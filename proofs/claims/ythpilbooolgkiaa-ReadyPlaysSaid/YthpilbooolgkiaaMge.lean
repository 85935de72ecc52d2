/- Two sorted neighbours merged: whatever their lengths. -/
import Derived.Test.YthpilbooolgkiaaMgd
set_option linter.unusedVariables false
set_option linter.unusedSimpArgs false
namespace Go.Proofs.Ythpilbooolgkiaa
open Go.RowKit

theorem symMerge_any (q cap pN pR g : Nat) (now age : Int) (n : Nat) : ∀ (K : Nat) (w : World) (P L R S : List En) (a m b : Nat), L.length + R.length ≤ K → Mg w q cap P L R S pN pR g now age a m b n →
    Calls Try.prog 44 #[.slice (some ⟨q, 0, none⟩) n cap, .int .i64 a, .int .i64 m, .int .i64 b, askF pN pR] w (MgPost w q cap P L R S now age) := by
  intro K
  induction K with
  | zero => intro w P L R S a m b hK h; have := h.l1; omega
  | succ K ih =>
    intro w P L R S a m b hK h
    by_cases h1 : L.length = 1
    · obtain ⟨x, rfl⟩ := List.length_eq_one_iff.1 h1
      exact merge_left w q cap P R S x pN pR g now age a m b n h
    · by_cases h2 : R.length = 1
      · obtain ⟨y, rfl⟩ := List.length_eq_one_iff.1 h2
        exact merge_right w q cap P L S y (by have := h.l1; omega) pN pR g now age a m b n h
      · exact merge_both (L.length + R.length) q cap pN pR g now age n (fun w' P' L' R' S' a' m' b' h' hk => ih w' P' L' R' S' a' m' b' (by omega) h') w P L R S a m b h rfl (by have := h.l1; omega) (by have := h.r1; omega)
end Go.Proofs.Ythpilbooolgkiaa
