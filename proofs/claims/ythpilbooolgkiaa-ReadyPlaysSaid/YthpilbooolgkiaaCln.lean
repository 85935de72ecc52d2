/- A copy of a row of entries. -/
import Derived.Test.YthpilbooolgkiaaMgc
import Derived.WalkSpells
import Derived.Lib.SliceRun
set_option linter.unusedVariables false
set_option linter.unusedSimpArgs false
namespace Go.Proofs.Ythpilbooolgkiaa
open Go.RowKit

/-- A slice of entries, nil or not. -/
def SL (w : World) (A : Option Addr) (cap : Nat) (l : List En) : Prop := (A = none ∧ cap = 0 ∧ l = []) ∨ ∃ q, A = some ⟨q, 0, none⟩ ∧ Arr w q cap l
theorem infoE : (Try.prog.info? 34).map (fun i => (i.zero, i.size, i.bytes)) = some (some (.agg #[.int .i64 0, .string ByteArray.empty, .int .i64 0, .int .i64 0]), 4, 40) := by kernel_rfl
theorem Arr.rd {w : World} {q cap : Nat} {l : List En} (h : Arr w q cap l) : RdS 4 En.vals w (some ⟨q, 0, none⟩) l := fun i hi => ⟨_, rfl, fun j v hv => by
  have hj : j < 4 := by rw [← vals_len (l[i])]; exact (List.getElem?_eq_some_iff.1 hv).1
  have := h.cell_ hi hj
  rw [hv] at this
  rw [show (⟨q, 0, none⟩ : Addr).add (i * 4 + j) = ⟨q, i * 4 + j, none⟩ by simp only [Addr.add]; split <;> simp_all]
  exact this⟩
theorem arr_of_owns {w : World} {B n : Nat} {v : Value} {l : List En} (h : w.ownsRow B 34 4 v n (l.flatMap En.vals)) (hv : v ≠ .slice none 0 0) : ∃ q cap, v = .slice (some ⟨q, 0, none⟩) n cap ∧ n = l.length ∧ Arr w q cap l ∧ B ≤ q := by
  obtain ⟨hlen, h2⟩ := h
  rw [flat_len vals_len] at hlen
  have hn : n = l.length := by omega
  rcases h2 with ⟨rfl, h0⟩ | ⟨g, cap, cur, rfl, hb, hg, hnc, hcm, hcs, htk⟩
  · exact absurd rfl hv
  · exact ⟨g, cap, rfl, hn, ⟨cur, hg, by omega, hcm, hcs, by rw [← hn]; exact htk⟩, hb⟩
def CloneP (w : World) (l : List En) (e : Ending) (w' : World) : Prop := ∃ A' cap', e = .returned (.slice A' l.length cap') ∧ SL w' A' cap' l ∧ Upd w w' Nope ∧ ∀ ad, A' = some ad → w.heap.size ≤ ad.block
theorem ownBlock_nil {P : Program} : (Value.slice none 0 0).ownBlock = none := rfl
set_option maxHeartbeats 1000000 in
theorem clone_any (w : World) (A : Option Addr) (cap : Nat) (l : List En) (h : SL w A cap l) (hl : l.length ≤ 1000) : Calls Try.prog 37 #[.slice A l.length cap] w (CloneP w l) := by
  rcases h with ⟨rfl, rfl, rfl⟩ | ⟨q, rfl, hA⟩
  · have hnil := fun W => Lib.run_eql_slice_nil (P := Try.prog) W 58 34 none 0 0 0 0 Try.underlying58
    go_enter Try.func37, Try.ntmps37
    go_wp2
    go_ret
    exact ⟨none, 0, rfl, .inl ⟨rfl, rfl, rfl⟩, Upd.refl _ _, fun ad e => by cases e⟩
  · have HA := Lib.hid hA
    clear hA
    have hnil := fun W => Lib.run_eql_slice_nil (P := Try.prog) W 58 34 (some ⟨q, 0, none⟩) l.length cap 0 0 Try.underlying58
    obtain ⟨i0, hi, hz0, hz1, hz2⟩ := info_parts infoE
    have hown : (w.alloc (.cells #[] 34)).ownsRow w.heap.size 34 4 (.slice (some ⟨w.heap.size, 0, none⟩) 0 0) 0 (([] : List En).flatMap En.vals) := ⟨rfl, .inr ⟨w.heap.size, 0, #[], rfl, Nat.le_refl _, heap_alloc_new w _, Nat.le_refl _, by simp [maxLen], rfl, rfl⟩⟩
    obtain ⟨v', w', h1, h2, h3, h4⟩ := append_rowS (f := En.vals) vals_len (by decide) (P := Try.prog) w.heap.size 58 Try.underlying58 hi hz0 hz1 hz2 rfl (fun x u hu => by simp [En.vals] at hu; rcases hu with rfl | rfl | rfl | rfl <;> rfl) hown (A := some ⟨q, 0, none⟩) (c := cap) (l := l) ((HA.out.upd ((Upd.refl w Nope).alloc _) (fun h => h)).rd) (by intro h; cases h) (by unfold maxLen; omega) (by omega) (by simp)
    have hv : v' ≠ .slice none 0 0 := fun e => by rw [e] at h4; rcases h4 with h4 | h4 <;> cases h4
    rw [Nat.zero_add, List.nil_append] at h2
    obtain ⟨q', cap', rfl, _, hA', hB'⟩ := arr_of_owns h2 hv
    have hU : Upd w w' Nope := ((Upd.refl w Nope).alloc (.cells #[] 34)).grown h3 (fun k e => .inr (by cases e; exact Nat.le_refl _))
    have HF := Lib.hid (And.intro hA' (And.intro hB' hU))
    clear hi hz0 hz1 hz2 hown h2 h3 h4 hv hA' hB' hU
    go_enter Try.func37, Try.ntmps37
    go_wp2_with (first | (at_builtin; refine wpList_append_eq _ _ rfl rfl h1 rfl rfl rfl ?_) | fail)
    go_ret
    exact ⟨_, cap', rfl, .inr ⟨q', rfl, HF.out.1⟩, HF.out.2.2, fun ad e => by cases e; exact HF.out.2.1⟩
end Go.Proofs.Ythpilbooolgkiaa
