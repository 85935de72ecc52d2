/- The reference: rows of its entries; find, Rank, Right. -/
import Derived.Test.YthpilbooolgkiaaRowsB
import Derived.Test.YthpilbooolgkiaaIdx
set_option linter.unusedVariables false
set_option linter.unusedSimpArgs false
namespace Go.Proofs.Ythpilbooolgkiaa
open Go.RowKit

/-- A row of the reference's entries. -/
structure RE (w : World) (A : Option Addr) (cap : Nat) (L : List En) : Prop where
  rd : RdS 4 En.vals w A L
  nil : A = none → cap = 0
  le : L.length ≤ cap
  max : cap ≤ maxLen
  lt : ∀ ad, A = some ad → ad.block < w.heap.size
theorem addB' (ad : Addr) (i : Nat) : (ad.add i).block = ad.block := by unfold Addr.add; split <;> rfl
theorem RdS.away {α : Type} {k : Nat} {f : α → List Value} {w w1 : World} {F : Nat → Prop} {A : Option Addr} {l : List α} (h : RdS k f w A l) (u : Upd w w1 F) (hA : ∀ ad, A = some ad → ¬ F ad.block) : RdS k f w1 A l := by
  intro i hi
  obtain ⟨ad, e, hc⟩ := h i hi
  exact ⟨ad, e, fun j v hv => u.cell (hc j v hv) (by rw [addB']; exact hA ad e)⟩
section
variable {w w' : World} {A : Option Addr} {cap : Nat} {L : List En} (h : RE w A cap L)
include h
theorem RE.away {F : Nat → Prop} (u : Upd w w' F) (hA : ∀ ad, A = some ad → ¬ F ad.block) : RE w' A cap L := ⟨h.rd.away u hA, h.nil, h.le, h.max, fun ad e => Nat.lt_of_lt_of_le (h.lt ad e) u.size⟩
theorem RE.nn (u : Upd w w' Nope) : RE w' A cap L := h.away u (fun _ _ h => h)
/-- The cells of entry i. -/
theorem RE.at_ {i : Nat} (hi : i < L.length) : ∃ ad, A = some ad ∧ w.cell? (ad.add (i * 4)) = some (.int .i64 L[i].id) ∧ w.cell? ⟨(ad.add (i * 4)).block, (ad.add (i * 4)).off + 1, none⟩ = some (.string L[i].dest) ∧
    w.cell? ⟨(ad.add (i * 4)).block, (ad.add (i * 4)).off + 2, none⟩ = some (.int .i64 L[i].pri) ∧ w.cell? ⟨(ad.add (i * 4)).block, (ad.add (i * 4)).off + 3, none⟩ = some (.int .i64 L[i].at_) := by
  obtain ⟨ad, rfl, _⟩ := h.rd i hi
  refine ⟨ad, rfl, h.rd.f0 hi rfl, ?_, ?_, ?_⟩
  · have := h.rd.fs hi 0 (v := .string L[i].dest) rfl; simpa using this
  · have := h.rd.fs hi 1 (v := .int .i64 L[i].pri) rfl; simpa using this
  · have := h.rd.fs hi 2 (v := .int .i64 L[i].at_) rfl; simpa using this
end
theorem RE.empty (w : World) : RE w none 0 [] := ⟨fun i hi => absurd hi (by simp), fun _ => rfl, Nat.le_refl _, by simp [maxLen], fun ad e => by cases e⟩

set_option maxHeartbeats 1000000 in
theorem find_any (w : World) (A : Option Addr) (cap : Nat) (L : List En) (hr : RE w A cap L) (hl : L.length ≤ 5000) (id : Int) :
    Calls Try.prog 27 #[.slice A L.length cap, .int .i64 id] w fun r w' => r = .returned (.int .i64 (posOf (fun e => e.id == id) L)) ∧ Upd w w' Nope := by
  have HR := Lib.hid hr
  clear hr
  generalize hpp : (fun e : En => e.id == id) = pp
  have HPP := Lib.hid hpp
  clear hpp
  go_enter Try.func27, Try.ntmps27
  go_wp2
  go_loopw [5] (fun i wr => ∃ k : Nat, i = .int .i64 k ∧ k ≤ L.length ∧ Upd w wr Nope ∧ posF pp k (L.drop k) = posOf pp L) (fun i _ => L.length - (intOf i).toNat)
  case atStart => exact ⟨0, rfl, by omega, Upd.refl _ _, rfl⟩
  case round =>
    obtain ⟨k, rfl, hk, hU, hpos⟩ := hrel
    by_cases hlt : k < L.length
    · obtain ⟨ad, rfl, x0, _, _, _⟩ := (HR.out.nn hU).at_ hlt
      rw [List.drop_eq_getElem_cons hlt] at hpos
      have HPOS := Lib.hid hpos
      have HU := Lib.hid hU
      clear hpos hU
      cases he : (L[k].id == id) with
      | true =>
        have hfin : posOf pp L = (k : Int) := by
          have := HPOS.out
          unfold posF at this
          rw [if_pos (by rw [← HPP.out]; exact he)] at this
          exact this.symm
        have HF := Lib.hid hfin
        clear hfin
        go_wp2
        go_ret
        exact ⟨by rw [HF.out]; rfl, HU.out⟩
      | false =>
        have hn : posF pp (k + 1) (L.drop (k + 1)) = posOf pp L := by
          have := HPOS.out
          unfold posF at this
          rw [if_neg (by rw [← HPP.out]; simpa using he)] at this
          exact this
        have HN := Lib.hid hn
        clear hn
        go_wp2
        go_roundw
        case rel => exact ⟨k + 1, by go_num, by omega, HU.out, HN.out⟩
        case measure => simp [intOf]; omega
    · obtain rfl : k = L.length := by omega
      rw [List.drop_length] at hpos
      have HF := Lib.hid (And.intro hpos hU)
      clear hpos hU
      go_wp2
      go_ret
      exact ⟨by rw [← HF.out.1]; rfl, HF.out.2⟩
end Go.Proofs.Ythpilbooolgkiaa
