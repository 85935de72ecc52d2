/- The reference's advance, as plain lists. -/
import Derived.Test.YtejelihioendnaaWlr
set_option linter.unusedVariables false
set_option linter.unusedSimpArgs false
namespace Go.Proofs.Ytejelihioendnaa
open Go.RowKit
/-- The reference's advance: one by one. -/
def refA (tt : Int) (most : Nat) : List (Int × Int) → List Int → Int × List (Int × Int) × List Int
  | [], fired => (tt, [], fired)
  | (n, x) :: T, fired =>
    if tt < n then (tt, (n, x) :: T, fired)
    else if most ≤ fired.length + 1 ∧ (∀ q ∈ T.head?, n < q.1) then (n, T, fired ++ [x])
    else refA tt most T (fired ++ [x])
theorem refA_cons (tt : Int) (most : Nat) (n x : Int) (T : List (Int × Int)) (fired : List Int) : refA tt most ((n, x) :: T) fired =
    if tt < n then (tt, (n, x) :: T, fired) else if most ≤ fired.length + 1 ∧ (∀ q ∈ T.head?, n < q.1) then (n, T, fired ++ [x]) else refA tt most T (fired ++ [x]) := rfl
theorem refA_grp {tt n : Int} {most : Nat} (hn : n ≤ tt) : ∀ (G R : List (Int × Int)) (fired : List Int), G ≠ [] → (∀ p ∈ G, p.1 = n) → (∀ q ∈ R.head?, n < q.1) →
    refA tt most (G ++ R) fired = if most ≤ (fired ++ G.map (·.2)).length then (n, R, fired ++ G.map (·.2)) else refA tt most R (fired ++ G.map (·.2))
  | [], _, _, h, _, _ => absurd rfl h
  | [p], R, fired, _, hp, hr => by
    obtain ⟨a, x⟩ := p
    obtain rfl : a = n := hp (a, x) List.mem_cons_self
    show refA tt most ((a, x) :: R) fired = _
    rw [refA_cons, if_neg (by omega)]
    by_cases h : most ≤ fired.length + 1
    · rw [if_pos ⟨h, hr⟩, if_pos (by simpa using h)]; rfl
    · rw [if_neg (fun k => h k.1), if_neg (by simpa using h)]; rfl
  | p :: q :: G, R, fired, _, hp, hr => by
    obtain ⟨a, x⟩ := p
    obtain rfl : a = n := hp (a, x) List.mem_cons_self
    show refA tt most ((a, x) :: (q :: G ++ R)) fired = _
    have hq := hp q (List.mem_cons_of_mem _ List.mem_cons_self)
    rw [refA_cons, if_neg (by omega), if_neg (fun k => by have := k.2 q (by simp); omega), refA_grp hn (q :: G) R (fired ++ [x]) (by simp) (fun p hp' => hp p (List.mem_cons_of_mem _ hp')) hr]
    simp
theorem split_grp {n : Int} : ∀ {L : List (Int × Int)}, Srt L → (∀ p ∈ L, n ≤ p.1) → L.filter (fun p => decide (p.1 = n)) ++ rest n L = L
  | [], _, _ => rfl
  | a :: T, hs, h => by
    have hs' := List.pairwise_cons.1 hs
    have ih := split_grp hs'.2 (fun p hp => h p (List.mem_cons_of_mem _ hp))
    unfold rest at ih ⊢
    by_cases e : a.1 = n
    · rw [List.filter_cons_of_pos (by simpa using e), List.filter_cons_of_neg (by simpa using e), List.cons_append, ih]
    · have hall : ∀ p ∈ T, p.1 ≠ n := fun p hp => by
        have h1 := hs'.1 p hp
        have h2 := h a List.mem_cons_self
        unfold lt2 at h1
        omega
      have e1 : T.filter (fun p => decide (p.1 = n)) = [] := List.filter_eq_nil_iff.2 fun p hp => by simpa using hall p hp
      have e2 : T.filter (fun p => !decide (p.1 = n)) = T := List.filter_eq_self.2 fun p hp => by simpa using hall p hp
      rw [List.filter_cons_of_neg (by simpa using e), List.filter_cons_of_pos (by simpa using e), e1, e2]
      rfl
theorem refA_adv {tt : Int} {most : Nat} (now : Int) (L : List (Int × Int)) (fired : List Int) (hs : Srt L) (hf : fired.length < most) : refA tt most L fired = adv tt most now L fired := by
  induction now, L, fired using adv.induct (tt := tt) (most := most) with
  | case1 now fired h => rw [adv_stop h (fun n x T e => by cases e)]; rfl
  | case2 now fired h n x T hlt => rw [adv_stop h (fun n' x' T' e => by cases e; exact hlt), refA_cons, if_pos hlt]
  | case3 now fired h n x T hlt ih =>
    rw [adv_go h (by omega)]
    have hsp := split_grp hs (head_le hs)
    have hg : ((n, x) :: T).filter (fun p => decide (p.1 = n)) ≠ [] := by simp
    have hm := refA_grp (tt := tt) (most := most) (n := n) (by omega) (((n, x) :: T).filter (fun p => decide (p.1 = n))) (rest n ((n, x) :: T)) fired hg (fun p hp => by simpa using (List.mem_filter.1 hp).2) (fun q hq => by
      have h1 := mem_rest.1 (List.mem_of_mem_head? hq)
      have h2 := head_le hs q h1.1
      omega)
    rw [hsp] at hm
    rw [hm]
    show (if most ≤ (fired ++ grp n ((n, x) :: T)).length then _ else refA tt most _ (fired ++ grp n ((n, x) :: T))) = _
    by_cases hfull : most ≤ (fired ++ grp n ((n, x) :: T)).length
    · rw [if_pos hfull, adv_full (by omega)]; rfl
    · rw [if_neg hfull]
      exact ih (srt_rest hs) (by omega)
  | case4 now L fired h => exact absurd hf h
end Go.Proofs.Ytejelihioendnaa
