/- Two sorted neighbours merged, in halves: plain. -/
import Derived.Test.YthpilbooolgkiaaMgb
set_option linter.unusedVariables false
set_option linter.unusedSimpArgs false
namespace Go.Proofs.Ythpilbooolgkiaa
open Go.RowKit

theorem srt_halves {ky : En → Int} {L1 L2 R1 R2 : List En} (hA : ∀ x ∈ L1, ∀ y ∈ R2, ky x ≤ ky y) (hB : ∀ y ∈ R1, ∀ x ∈ L2, ky y < ky x) (hL : Sd ky (L1 ++ L2)) (hR : Sd ky (R1 ++ R2)) :
    srtK ky (L1 ++ R1) ++ srtK ky (L2 ++ R2) = srtK ky ((L1 ++ L2) ++ (R1 ++ R2)) := by
  obtain ⟨l1, l2, l3⟩ := sd_append.1 hL
  obtain ⟨r1, r2, r3⟩ := sd_append.1 hR
  have m1 := same_srtK (ky := ky) (L1 ++ R1)
  have m2 := same_srtK (ky := ky) (L2 ++ R2)
  refine srtK_of (sd_append.2 ⟨sd_srtK _, sd_srtK _, fun a ha b hb => ?_⟩) ?_
  · have ha := m1.mem ha
    have hb := m2.mem hb
    rcases List.mem_append.1 ha with ha | ha <;> rcases List.mem_append.1 hb with hb | hb
    · exact l3 a ha b hb
    · exact hA a ha b hb
    · have := hB a ha b hb; omega
    · exact r3 a ha b hb
  · refine (m1.append m2).trans ?_
    have e : (L1 ++ R1) ++ (L2 ++ R2) = L1 ++ ((R1 ++ L2) ++ R2) := by simp only [List.append_assoc]
    have e' : (L1 ++ L2) ++ (R1 ++ R2) = L1 ++ ((L2 ++ R1) ++ R2) := by simp only [List.append_assoc]
    rw [e, e']
    exact (SameBy.refl L1).append ((SameBy.comm (X := R1) (Y := L2) (fun y hy x hx => by have := hB y hy x hx; omega)).append (SameBy.refl R2))
theorem srt_self {ky : En → Int} {l : List En} (h : Sd ky l) : srtK ky l = l := (srtK_of h (SameBy.refl l)).symm
/-- Where a merge parts its rows. -/
structure Part (P L R S : List En) (now age : Int) (a m b mid s en : Nat) : Prop where
  h1 : a ≤ s
  h2 : s ≤ m
  h3 : m ≤ en
  h4 : en ≤ b
  h5 : s + en = mid + m
  hA : ∀ x ∈ L.take (s - a), ∀ y ∈ R.drop (en - m), x.key now age ≤ y.key now age
  hB : ∀ y ∈ R.take (en - m), ∀ x ∈ L.drop (s - a), y.key now age < x.key now age
section
variable {w : World} {q cap : Nat} {P L R S : List En} {pN pR g : Nat} {now age : Int} {a m b n : Nat} (h : Mg w q cap P L R S pN pR g now age a m b n)
include h
/-- The search has come to its end. -/
theorem Mg.part {mid s s0 r0 : Nat} (hmid : mid = (a + b) / 2) (hc : (mid < m ∧ s0 = mid + m - b ∧ r0 = mid) ∨ (m ≤ mid ∧ s0 = a ∧ r0 = m)) (hs : s0 ≤ s) (hr : s ≤ r0)
    (hlo : s0 < s → ∀ e e', (P ++ L ++ R ++ S)[s - 1]? = some e → (P ++ L ++ R ++ S)[mid + m - s]? = some e' → e.key now age ≤ e'.key now age)
    (hhi : s < r0 → ∀ e e', (P ++ L ++ R ++ S)[s]? = some e → (P ++ L ++ R ++ S)[mid + m - 1 - s]? = some e' → e'.key now age < e.key now age) : Part P L R S now age a m b mid s (mid + m - s) := by
  have ha := h.ha
  have hm := h.hm
  have hb := h.hb
  have hn := h.hn
  have l1 := h.l1
  have r1 := h.r1
  have hlen := h.len
  refine ⟨by omega, by omega, by omega, by omega, by omega, fun x hx y hy => ?_, fun y hy x hx => ?_⟩
  · obtain ⟨d, hd, he⟩ := List.mem_take_iff_getElem.1 hx
    obtain ⟨d', hd', he'⟩ := List.mem_drop_iff_getElem.1 hy
    have x1 := at_L' (P := P) (L := L) (R := R) (S := S) (d := d) (by omega)
    have y1 := at_R' (P := P) (L := L) (R := R) (S := S) (d := mid + m - s - m + d') (by omega)
    rw [he] at x1
    rw [he'] at y1
    obtain ⟨e, hE⟩ := h.get (d := s - 1) (by omega)
    obtain ⟨e2, hE2⟩ := h.get (d := mid + m - s) (by omega)
    have k1 := hlo (by omega) e e2 hE hE2
    have k2 := h.left (d := P.length + d) (d' := s - 1) (by omega) (by omega) (by omega) x1 hE
    have k3 := h.right (d := mid + m - s) (d' := P.length + L.length + (mid + m - s - m + d')) (by omega) (by omega) (by omega) hE2 y1
    omega
  · obtain ⟨d', hd', he'⟩ := List.mem_take_iff_getElem.1 hy
    obtain ⟨d, hd, he⟩ := List.mem_drop_iff_getElem.1 hx
    have y1 := at_R' (P := P) (L := L) (R := R) (S := S) (d := d') (by omega)
    have x1 := at_L' (P := P) (L := L) (R := R) (S := S) (d := s - a + d) (by omega)
    rw [he] at x1
    rw [he'] at y1
    obtain ⟨e, hE⟩ := h.get (d := s) (by omega)
    obtain ⟨e2, hE2⟩ := h.get (d := mid + m - 1 - s) (by omega)
    have k1 := hhi (by omega) e e2 hE hE2
    have k2 := h.left (d := s) (d' := P.length + (s - a + d)) (by omega) (by omega) (by omega) hE x1
    have k3 := h.right (d := P.length + L.length + d') (d' := mid + m - 1 - s) (by omega) (by omega) (by omega) y1 hE2
    omega
end
end Go.Proofs.Ythpilbooolgkiaa
