/- A wheel, as it lies. -/
import Derived.Test.YtejelihioendnaaMapL
import Derived.Test.YtejelihioendnaaOpen
import Derived.Test.YtejelihioendnaaSeq
import Derived.Handy
import Derived.WalkMore
import Derived.Deep.Cut
import Derived.Deep.CutRange
import Derived.Deep.RegionLaw
import Derived.Deep.RegionWith
import Derived.BigRegion
set_option linter.unusedVariables false
set_option linter.unusedSimpArgs false
set_option linter.unusedSectionVars false
namespace Go.Proofs.Ytejelihioendnaa
open Go.RowKit
open Go.Maps (int_keyed keyOf_int_mk)

def okI (a : Int) : Prop := (Lit.int .i64 a).wf = true
theorem okI_of {a : Int} (h : -9223372036854775808 ≤ a) (h' : a ≤ 9223372036854775807) : okI a := by
  simp [okI, Lit.wf, IntKind.min, IntKind.max, IntKind.signed, IntKind.bits]
  omega
/-- A slot: timers, and when they fire. -/
def MI : MK Try.prog 3 Int Int where
  kv := .int .i64
  ok := okI
  vv := .int .i64
  K := int_keyed Try.underlying3
  key a h := ⟨_, keyOf_int_mk Try.underlying3 h⟩
  inj a b h := by injection h
  vinj a b h := by injection h
  tT := 59
  eT := 3
  under := Try.underlying59
  zero := 0
  zrun w := by kernel_rfl
/-- A place: a wheel, and a slot. -/
def pv (p : Int × Int) : Value := .agg #[.int .i64 p.1, .int .i64 p.2]
def MP : MK Try.prog 3 Int (Int × Int) where
  kv := .int .i64
  ok := okI
  vv := pv
  K := int_keyed Try.underlying3
  key a h := ⟨_, keyOf_int_mk Try.underlying3 h⟩
  inj a b h := by injection h
  vinj a b h := by
    cases a; cases b
    simp [pv] at h
    simp [h]
  tT := 60
  eT := 67
  under := Try.underlying60
  zero := (0, 0)
  zrun w := by kernel_rfl

/-- A wheel's state: the tick, the slots (256: the far list), the places. -/
structure Wh where
  now : Int
  sl : Nat → List (Int × Int)
  pl : List (Int × (Int × Int))
def wlist (now : Int) (bs : Nat → Option Nat) (bf bp : Nat) : List Value := .int .i64 now :: ((List.range 256).map fun i => Value.map (bs i)) ++ [.map (some bf), .map (some bp)]
def wcells (now : Int) (bs : Nat → Option Nat) (bf bp : Nat) : Array Value := (wlist now bs bf bp).toArray
section
variable (now : Int) (bs : Nat → Option Nat) (bf bp : Nat)
theorem wc_0 : (wcells now bs bf bp)[0]? = some (.int .i64 now) := rfl
theorem wc_s {i : Nat} (h : i < 256) : (wcells now bs bf bp)[1 + i]? = some (.map (bs i)) := by
  unfold wcells wlist
  rw [List.getElem?_toArray, List.cons_append, Nat.add_comm, List.getElem?_cons_succ, List.getElem?_append_left (by simpa using h)]
  simp [h]
theorem wc_f : (wcells now bs bf bp)[257]? = some (.map (some bf)) := by
  unfold wcells wlist
  rw [List.getElem?_toArray, List.cons_append, List.getElem?_cons_succ, List.getElem?_append_right (by simp)]
  simp
theorem wc_p : (wcells now bs bf bp)[258]? = some (.map (some bp)) := by
  unfold wcells wlist
  rw [List.getElem?_toArray, List.cons_append, List.getElem?_cons_succ, List.getElem?_append_right (by simp)]
  simp
theorem wc_now (n : Int) : (wcells now bs bf bp).setIfInBounds 0 (.int .i64 n) = wcells n bs bf bp := by
  unfold wcells wlist
  simp
def upB (bs : Nat → Option Nat) (i : Nat) (b : Nat) : Nat → Option Nat := fun j => if j = i then some b else bs j
theorem wc_set {i : Nat} (h : i < 256) (b : Nat) : (wcells now bs bf bp).setIfInBounds (1 + i) (.map (some b)) = wcells now (upB bs i b) bf bp := by
  unfold wcells wlist
  rw [List.setIfInBounds_toArray, List.cons_append, Nat.add_comm, List.set_cons_succ, List.set_append_left _ _ (by simpa using h)]
  congr 3
  apply List.ext_getElem?
  intro j
  by_cases hj : j = i
  · subst hj
    simp [h, upB]
  · rw [List.getElem?_set_ne (by omega)]
    simp only [List.getElem?_map]
    by_cases hj2 : j < 256
    · simp [hj2, upB, hj]
    · simp [hj2]
end
/-- .. as it lies: the struct at g, the slots' maps at bs, the far list at bf, the places at bp. -/
structure WH (w : World) (g : Nat) (bs : Nat → Option Nat) (bf bp : Nat) (s : Wh) : Prop where
  blk : Blk w g (wcells s.now bs bf bp) 64
  nil_ : ∀ i, i < 256 → bs i = none → s.sl i = []
  slot : ∀ i b, i < 256 → bs i = some b → Mp MI w b (s.sl i)
  far : Mp MI w bf (s.sl 256)
  place : Mp MP w bp s.pl
  inj : ∀ i j b, i < 256 → j < 256 → bs i = some b → bs j = some b → i = j
  nf : ∀ i b, i < 256 → bs i = some b → b ≠ bf ∧ b ≠ bp
  fp : bf ≠ bp
/-- The blocks that a wheel owns. -/
def FT (g : Nat) (bs : Nat → Option Nat) (bf bp : Nat) (i : Nat) : Prop := i = g ∨ i = bf ∨ i = bp ∨ ∃ k, k < 256 ∧ bs k = some i
theorem WH.upd {w w' : World} {g : Nat} {bs : Nat → Option Nat} {bf bp : Nat} {s : Wh} {F : Nat → Prop} (h : WH w g bs bf bp s) (u : Upd w w' F) (hn : ∀ i, FT g bs bf bp i → ¬ F i) : WH w' g bs bf bp s :=
  ⟨h.blk.upd u (hn _ (.inl rfl)), h.nil_, fun i b hi hb => (h.slot i b hi hb).upd u (hn _ (.inr (.inr (.inr ⟨i, hi, hb⟩)))), h.far.upd u (hn _ (.inr (.inl rfl))), h.place.upd u (hn _ (.inr (.inr (.inl rfl)))), h.inj, h.nf, h.fp⟩
theorem WH.nn {w w' : World} {g : Nat} {bs : Nat → Option Nat} {bf bp : Nat} {s : Wh} (h : WH w g bs bf bp s) (u : Upd w w' Nope) : WH w' g bs bf bp s := h.upd u (fun _ _ h => h)
theorem WH.lt {w : World} {g : Nat} {bs : Nat → Option Nat} {bf bp : Nat} {s : Wh} (h : WH w g bs bf bp s) {i : Nat} (hi : FT g bs bf bp i) : i < w.heap.size := by
  rcases hi with rfl | rfl | rfl | ⟨k, hk, hb⟩
  · exact h.blk.lt
  · exact h.far.lt
  · exact h.place.lt
  · exact (h.slot k i hk hb).lt
/-- .. with the blocks that it owns, however its maps lie. -/
def WO (w : World) (g : Nat) (F : Nat → Prop) (s : Wh) : Prop := ∃ bs bf bp, WH w g bs bf bp s ∧ ∀ i, F i ↔ FT g bs bf bp i
/-- What a call may do to a wheel's memory. -/
structure Gr (w w' : World) (F F' : Nat → Prop) : Prop where
  upd : Upd w w' F
  new : ∀ i, F' i → F i ∨ w.heap.size ≤ i
theorem WO.nn {w w' : World} {g : Nat} {F : Nat → Prop} {s : Wh} (h : WO w g F s) (u : Upd w w' Nope) : WO w' g F s := by
  obtain ⟨bs, bf, bp, h1, h2⟩ := h
  exact ⟨bs, bf, bp, h1.nn u, h2⟩
theorem WO.apart {w w' : World} {g : Nat} {F G : Nat → Prop} {s : Wh} (h : WO w g F s) (u : Upd w w' G) (hd : ∀ i, F i → ¬ G i) : WO w' g F s := by
  obtain ⟨bs, bf, bp, h1, h2⟩ := h
  exact ⟨bs, bf, bp, h1.upd u (fun i hi => hd i ((h2 i).2 hi)), h2⟩
theorem WO.lt {w : World} {g : Nat} {F : Nat → Prop} {s : Wh} (h : WO w g F s) {i : Nat} (hi : F i) : i < w.heap.size := by
  obtain ⟨bs, bf, bp, h1, h2⟩ := h
  exact h1.lt ((h2 i).1 hi)
theorem Gr.same {w w' : World} {F : Nat → Prop} (u : Upd w w' Nope) : Gr w w' F F := ⟨u.mono (fun _ _ h => h.elim), fun _ h => .inl h⟩
theorem Gr.trans {w w1 w2 : World} {F F1 F2 : Nat → Prop} (h : Gr w w1 F F1) (k : Gr w1 w2 F1 F2) : Gr w w2 F F2 :=
  ⟨h.upd.trans k.upd (fun _ _ h => h) (fun i hi hf => by rcases h.new i hf with h | h; exact h; omega), fun i hi => by
    have := h.upd.size
    rcases k.new i hi with h1 | h1
    · exact h.new i h1
    · exact .inr (by omega)⟩
theorem Gr.pre {w w1 w2 : World} {F F1 : Nat → Prop} (u : Upd w w1 Nope) (h : Gr w1 w2 F F1) : Gr w w2 F F1 := (Gr.same u).trans h
theorem Gr.post {w w1 w2 : World} {F F1 : Nat → Prop} (h : Gr w w1 F F1) (u : Upd w1 w2 Nope) : Gr w w2 F F1 := h.trans (Gr.same u)

/-- The number of a slot. -/
def idx (p : Int × Int) : Nat := if p.1 = 4 then 256 else (p.1 * 64 + p.2).toNat
def okp (p : Int × Int) : Prop := (p.1 = 4 ∧ p.2 = 0) ∨ (0 ≤ p.1 ∧ p.1 < 4 ∧ 0 ≤ p.2 ∧ p.2 < 64)
theorem idx_lt {p : Int × Int} (h : okp p) (h4 : p.1 ≠ 4) : idx p < 256 ∧ (idx p : Int) = p.1 * 64 + p.2 := by
  unfold idx
  rw [if_neg h4]
  rcases h with ⟨h, _⟩ | ⟨h1, h2, h3, h5⟩
  · exact absurd h h4
  · omega
theorem idx_le {p : Int × Int} (h : okp p) : idx p ≤ 256 := by
  by_cases h4 : p.1 = 4
  · unfold idx; rw [if_pos h4]; exact Nat.le_refl _
  · exact Nat.le_of_lt (idx_lt h h4).1
end Go.Proofs.Ytejelihioendnaa
