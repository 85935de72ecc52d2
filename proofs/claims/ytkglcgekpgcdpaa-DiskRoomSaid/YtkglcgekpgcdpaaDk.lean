/- A disk, as it lies, and its small functions. -/
import Derived.Test.YtkglcgekpgcdpaaMapL
import Derived.Test.YtkglcgekpgcdpaaOpen
import Derived.Handy
import Derived.WalkMore
import Derived.Deep.Cut
import Derived.Deep.CutRange
import Derived.Deep.RegionLaw
import Derived.Deep.RegionWith
import Derived.BigRegion
set_option linter.unusedVariables false
set_option linter.unusedSimpArgs false
namespace Go.Proofs.Ytkglcgekpgcdpaa
open Go.RowKit
open Go.Maps (string_keyed keyOf_int_mk)

/-- A file. -/
structure Fl where
  s : ByteArray
  n : Int
def Fl.val (f : Fl) : Value := .agg #[.string f.s, .int .i64 f.n]
def MF : MK Try.prog 9 ByteArray Fl where
  kv := .string
  ok s := s.size ≤ maxLen
  vv := Fl.val
  K := string_keyed Try.underlying9
  key a h := ⟨_, Go.WideMaps.keyOf_string_mk Try.underlying9 h⟩
  inj a b h := by injection h
  vinj a b h := by
    cases a; cases b
    simp [Fl.val] at h
    simp [h]
  tT := 49
  eT := 57
  under := Try.underlying49
  zero := ⟨ByteArray.empty, 0⟩
  zrun w := by kernel_rfl

/-- A disk's state. -/
structure Dk where
  room : Int
  L : List (ByteArray × Fl)
  off : Bool
  at_ : Int
  keep : Int
  ch : Int
def Dk.cells (d : Dk) (b : Nat) : Array Value := #[.int .i64 d.room, .map (some b), .bool d.off, .int .i64 d.at_, .int .i64 d.keep, .int .i64 d.ch]
/-- .. as it lies: the struct at g, the map at b. -/
structure DK (w : World) (g b : Nat) (d : Dk) : Prop where
  blk : Blk w g (d.cells b) 51
  mp : Mp MF w b d.L
theorem DK.ne {w : World} {g b : Nat} {d : Dk} (h : DK w g b d) : b ≠ g := h.mp.ne_blk h.blk
theorem DK.upd {w w' : World} {g b : Nat} {d : Dk} {F : Nat → Prop} (h : DK w g b d) (u : Upd w w' F) (h1 : ¬ F g) (h2 : ¬ F b) : DK w' g b d := ⟨h.blk.upd u h1, h.mp.upd u h2⟩
theorem DK.nn {w w' : World} {g b : Nat} {d : Dk} (h : DK w g b d) (u : Upd w w' Nope) : DK w' g b d := h.upd u id id

section
variable {w : World} {g b : Nat} {d : Dk} (h : DK w g b d)
include h
theorem DK.c0 : w.cell? ⟨g, 0, none⟩ = some (.int .i64 d.room) := (h.blk.cell 0).trans rfl
theorem DK.c1 : w.cell? ⟨g, 1, none⟩ = some (.map (some b)) := (h.blk.cell 1).trans rfl
theorem DK.c2 : w.cell? ⟨g, 2, none⟩ = some (.bool d.off) := (h.blk.cell 2).trans rfl
theorem DK.c3 : w.cell? ⟨g, 3, none⟩ = some (.int .i64 d.at_) := (h.blk.cell 3).trans rfl
theorem DK.c4 : w.cell? ⟨g, 4, none⟩ = some (.int .i64 d.keep) := (h.blk.cell 4).trans rfl
theorem DK.c5 : w.cell? ⟨g, 5, none⟩ = some (.int .i64 d.ch) := (h.blk.cell 5).trans rfl
theorem down_any : Calls Try.prog 12 #[.pointer (some ⟨g, 0, none⟩)] w fun e w' => e = .returned (.bool d.off) ∧ w' = w := by
  have c := h.c2
  clear h
  go_enter Try.func12, Try.ntmps12
  go_wp2
  go_ret
  exact ⟨rfl, rfl⟩
theorem changes_any : Calls Try.prog 13 #[.pointer (some ⟨g, 0, none⟩)] w fun e w' => e = .returned (.int .i64 d.ch) ∧ w' = w := by
  have c := h.c5
  clear h
  go_enter Try.func13, Try.ntmps13
  go_wp2
  go_ret
  exact ⟨rfl, rfl⟩
theorem start_any : Calls Try.prog 14 #[.pointer (some ⟨g, 0, none⟩)] w fun e w' => e = .returned (.tuple #[]) ∧ DK w' g b { d with off := false } ∧ Upd w w' (· = g) := by
  have hb := h.blk
  have hm := h.mp
  have hne := h.ne
  have c := h.c2
  have f := hb.frozen 2
  clear h
  go_enter Try.func14, Try.ntmps14
  go_wp2
  go_end0
  exact ⟨rfl, ⟨by simpa [Dk.cells] using hb.set 2 (.bool false), hm.set hne _⟩, (Upd.refl w _).set _ _ (.inl rfl)⟩
theorem arm_any (a k : Int) : Calls Try.prog 10 #[.pointer (some ⟨g, 0, none⟩), .agg #[.int .i64 a, .int .i64 k]] w fun e w' => e = .returned (.tuple #[]) ∧ DK w' g b { d with at_ := a, keep := k, ch := 0 } ∧ Upd w w' (· = g) := by
  have hb := h.blk
  have hm := h.mp
  have hne := h.ne
  have hlt := hb.lt
  have hlm := hm.lt
  have c3 := h.c3
  have c4 := h.c4
  have c5 := h.c5
  have f3 := hb.frozen 3
  have f4 := hb.frozen 4
  have f5 := hb.frozen 5
  clear h
  go_enter Try.func10, Try.ntmps10
  go_wp2
  go_end0
  refine ⟨rfl, ⟨?_, ?_⟩, ?_⟩
  · have := (((hb.set 3 (.int .i64 a)).set 4 (.int .i64 k)).set 5 (.int .i64 0)).alloc (.cells #[.int .i64 a, .int .i64 k] 31)
    simpa [Dk.cells] using this
  · exact (((hm.set (a := ⟨g, 3, none⟩) hne _).set (a := ⟨g, 4, none⟩) hne _).set (a := ⟨g, 5, none⟩) hne _).alloc _
  · exact ((((Upd.refl w (· = g)).set ⟨g, 3, none⟩ _ (.inl rfl)).set ⟨g, 4, none⟩ _ (.inl rfl)).set ⟨g, 5, none⟩ _ (.inl rfl)).alloc _
end

def newOk (room : Int) : Bool := decide (1 ≤ room) && decide (room ≤ 1048576)
theorem new_any (room : Int) (w : World) : Calls Try.prog 9 #[.int .i64 room] w fun e w' =>
    (newOk room = false → e = .returned (.tuple #[.pointer none, .int .i64 1])) ∧ (newOk room = true → ∃ g b, e = .returned (.tuple #[.pointer (some ⟨g, 0, none⟩), .int .i64 0]) ∧ DK w' g b ⟨room, [], false, 0, 0, 0⟩ ∧ w.heap.size ≤ g ∧ w.heap.size ≤ b) ∧ Upd w w' Nope := by
  have hmm := @run_makeMap Try.prog
  cases hr : newOk room with
  | false =>
    have h1 : decide (room < 1) = true ∨ (decide (room < 1) = false ∧ decide (1048576 < room) = true) := by
      simp only [newOk, Bool.and_eq_false_iff, decide_eq_false_iff_not, decide_eq_true_eq] at hr ⊢
      omega
    clear hr
    rcases h1 with h1 | ⟨h1, h2⟩
    all_goals
      go_enter Try.func9, Try.ntmps9
      go_wp2
      go_ret2
      exact ⟨fun _ => rfl, fun h => absurd h (by decide), Upd.refl _ _⟩
  | true =>
    have h1 : decide (room < 1) = false := by simp [newOk] at hr ⊢; omega
    have h2 : decide (1048576 < room) = false := by simp [newOk] at hr ⊢; omega
    clear hr
    go_enter Try.func9, Try.ntmps9
    go_wp2
    go_ret2
    refine ⟨fun h => absurd h (by decide), fun _ => ⟨_, _, rfl, ⟨?_, (Mp.new MF w).alloc _⟩, by simp, by simp⟩, ((Upd.refl w _).alloc _).alloc _⟩
    simpa [Dk.cells] using Blk.new (w.alloc (.map #[] 0)) #[.int .i64 room, .map (some w.heap.size), .bool false, .int .i64 0, .int .i64 0, .int .i64 0] 51
end Go.Proofs.Ytkglcgekpgcdpaa
