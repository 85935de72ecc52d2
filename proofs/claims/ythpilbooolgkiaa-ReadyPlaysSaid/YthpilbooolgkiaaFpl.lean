/- Who is taken, in plain words. -/
import Derived.Test.YthpilbooolgkiaaOmp
set_option linter.unusedVariables false
set_option linter.unusedSimpArgs false
namespace Go.Proofs.Ythpilbooolgkiaa
open Go.RowKit

theorem filter_srtK {ky : En → Int} {p : En → Bool} {L : List En} : (srtK ky L).filter p = srtK ky (L.filter p) := by
  refine srtK_of ?_ ((same_srtK L).filter p)
  have := sd_srtK (ky := ky) L
  unfold Sd at this ⊢
  exact this.filter p
theorem find_filter {p : En → Bool} {l : List En} : l.find? p = (l.filter p).head? := by
  induction l with
  | nil => rfl
  | cons a l ih =>
    by_cases h : p a = true
    · rw [List.find?_cons_of_pos h, List.filter_cons_of_pos h]; rfl
    · rw [List.find?_cons_of_neg h, List.filter_cons_of_neg h]; exact ih
theorem take_eq {now age limit : Int} {L : List En} {fly : List (Int × ByteArray)} : takeR now age limit L fly = (srtK (En.key now age) (L.filter (freeB limit fly))).head? := by
  unfold takeR
  rw [find_filter, filter_srtK]
theorem take_none {now age limit : Int} {L : List En} {fly : List (Int × ByteArray)} (h : takeR now age limit L fly = none) : ∀ y ∈ L, freeB limit fly y = false := by
  intro y hy
  unfold takeR at h
  have := List.find?_eq_none.1 h y ((same_srtK L).symm.mem hy)
  simpa using this
/-- The first of the greatest ranks of those that are free is taken. -/
theorem take_of {now age limit : Int} {P S : List En} {x : En} {fly : List (Int × ByteArray)} (hx : freeB limit fly x = true) (hP : ∀ y ∈ P, freeB limit fly y = true → En.key now age x < En.key now age y) (hS : ∀ y ∈ S, freeB limit fly y = true → En.key now age x ≤ En.key now age y) :
    takeR now age limit (P ++ x :: S) fly = some x := by
  rw [take_eq, List.filter_append, List.filter_cons_of_pos hx, srtK_mid (fun y hy => hP y (List.mem_filter.1 hy).1 (List.mem_filter.1 hy).2) (fun y hy => hS y (List.mem_filter.1 hy).1 (List.mem_filter.1 hy).2)]
  rfl
theorem take_no {now age limit : Int} {L : List En} {fly : List (Int × ByteArray)} (h : ∀ y ∈ L, freeB limit fly y = false) : takeR now age limit L fly = none := by
  rw [take_eq, List.filter_eq_nil_iff.2 (fun y hy => by rw [h y hy]; simp)]
  rfl
theorem take_some {now age limit : Int} {L : List En} {x : En} {fly : List (Int × ByteArray)} (hn : (L.map (·.id)).Nodup) (h : takeR now age limit L fly = some x) :
    ∃ P S, L = P ++ x :: S ∧ freeB limit fly x = true ∧ (∀ y ∈ P, freeB limit fly y = true → En.key now age x < En.key now age y) ∧ (∀ y ∈ S, freeB limit fly y = true → En.key now age x ≤ En.key now age y) := by
  rw [take_eq] at h
  generalize hky : En.key now age = ky at *
  have hc : ∃ r, srtK ky (L.filter (freeB limit fly)) = x :: r := by
    cases hs : srtK ky (L.filter (freeB limit fly)) with
    | nil => rw [hs] at h; cases h
    | cons a r => rw [hs] at h; cases h; exact ⟨r, rfl⟩
  obtain ⟨r, hs⟩ := hc
  have hsd := sd_srtK (ky := ky) (L.filter (freeB limit fly))
  have hsm := same_srtK (ky := ky) (L.filter (freeB limit fly))
  have hmem : ∀ y, y ∈ L.filter (freeB limit fly) → ky x ≤ ky y := fun y hy => by
    have := hsm.symm.mem hy
    rw [hs] at this hsd
    unfold Sd at hsd
    rw [List.pairwise_cons] at hsd
    rcases List.mem_cons.1 this with rfl | h1
    · exact Int.le_refl _
    · exact hsd.1 y h1
  have hx : x ∈ L.filter (freeB limit fly) := hsm.mem (by rw [hs]; simp)
  obtain ⟨hxL, hxf⟩ := List.mem_filter.1 hx
  obtain ⟨P, S, rfl⟩ := List.append_of_mem hxL
  refine ⟨P, S, rfl, hxf, fun y hy hf => ?_, fun y hy hf => hmem y (List.mem_filter.2 ⟨by simp [hy], hf⟩)⟩
  have h1 := hmem y (List.mem_filter.2 ⟨by simp [hy], hf⟩)
  suffices hne : ky x ≠ ky y by omega
  intro e
  have h2 := hsm (ky x)
  rw [hs, List.filter_cons_of_pos (by simp), List.filter_append, List.filter_append] at h2
  have h3 : y ∈ (P.filter (freeB limit fly)).filter (fun z => decide (ky z = ky x)) := List.mem_filter.2 ⟨List.mem_filter.2 ⟨hy, hf⟩, by simp [e]⟩
  cases hq : (P.filter (freeB limit fly)).filter (fun z => decide (ky z = ky x)) with
  | nil => rw [hq] at h3; cases h3
  | cons a T =>
    rw [hq] at h2
    injection h2 with h4 _
    have ha : a ∈ P := by
      have : a ∈ (P.filter (freeB limit fly)).filter (fun z => decide (ky z = ky x)) := by rw [hq]; simp
      exact (List.mem_filter.1 (List.mem_filter.1 this).1).1
    rw [List.map_append, List.map_cons, List.nodup_append] at hn
    exact hn.2.2 a.id (List.mem_map_of_mem ha) x.id (by simp) (by rw [← h4])
theorem cnt_put (a : Int) (d : ByteArray) (l : List (Int × ByteArray)) : cntD d (put a d l) ≤ cntD d l + 1 := by
  unfold cntD
  induction l with
  | nil => simp [put, List.filter_cons]
  | cons p l ih =>
    obtain ⟨b, e⟩ := p
    unfold put
    split
    · rw [List.filter_cons, List.filter_cons]
      split <;> split <;> simp <;> omega
    · rw [List.filter_cons, List.filter_cons]
      split
      · simpa using ih
      · exact ih
theorem put_len1 (a : Int) (d : ByteArray) (l : List (Int × ByteArray)) : (put a d l).length ≤ l.length + 1 := by
  rw [put_len]
  split <;> omega
theorem del_len1 {β : Type} (a : Int) (l : List (Int × β)) : (del a l).length ≤ l.length := List.length_filter_le _ _
theorem remL_len {p : En → Bool} {L : List En} : (remL p L).length ≤ L.length := List.length_eraseP_le
theorem nodup_put {L : List En} {x : En} (hn : (L.map (·.id)).Nodup) (hx : (L.any fun e => e.id == x.id) = false) : ((L ++ [x]).map (·.id)).Nodup := by
  rw [List.map_append, List.nodup_append]
  refine ⟨hn, by simp, fun a ha b hb => ?_⟩
  obtain ⟨e, he, rfl⟩ := List.mem_map.1 ha
  simp at hb
  rw [hb]
  intro h
  rw [List.any_eq_false] at hx
  exact hx e he (by simpa using h)
theorem uniq_at {P S : List En} {x : En} (hn : ((P ++ x :: S).map (·.id)).Nodup) {k : Nat} (hk : k < (P ++ x :: S).length) (hne : k ≠ P.length) : ((P ++ x :: S)[k]).id ≠ x.id := by
  intro h
  have hp := List.pairwise_iff_getElem.1 hn
  have hx : (P ++ x :: S)[P.length]'(by simp) = x := by simp
  rcases Nat.lt_or_gt_of_ne hne with h1 | h1
  · have := hp k P.length (by simpa using hk) (by simp) h1
    simp only [List.getElem_map, hx] at this
    exact this h
  · have := hp P.length k (by simp) (by simpa using hk) h1
    simp only [List.getElem_map, hx] at this
    exact this h.symm
theorem rem_take {P S : List En} {x : En} (hn : ((P ++ x :: S).map (·.id)).Nodup) : remL (fun e => e.id == x.id) (P ++ x :: S) = (P ++ x :: S).take P.length ++ (P ++ x :: S).drop (P.length + 1) := by
  rw [remL_at (by simp) (fun e he => by
    rw [List.map_append, List.map_cons, List.nodup_append] at hn
    simpa using hn.2.2 e.id (List.mem_map_of_mem he) x.id (by simp))]
  simp
end Go.Proofs.Ythpilbooolgkiaa
