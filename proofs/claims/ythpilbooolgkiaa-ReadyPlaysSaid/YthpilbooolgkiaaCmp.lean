/- The order of entries, as the program asks it. -/
import Derived.Test.YthpilbooolgkiaaEnt
import Derived.Test.YthpilbooolgkiaaRowsB
import Derived.Test.YthpilbooolgkiaaSeqt
import Derived.Test.YthpilbooolgkiaaSrt
set_option linter.unusedVariables false
set_option linter.unusedSimpArgs false
namespace Go.Proofs.Ythpilbooolgkiaa
open Go.RowKit

def cmp3 (x y : Int) : Int := if x < y then -1 else if y < x then 1 else 0
theorem isNaN_any (x : Int) (w : World) : Calls Try.prog 42 #[.int .i64 x] w fun e w' => e = .returned (.bool false) ∧ w' = w := by
  have h : (x != x) = false := by simp
  go_enter Try.func42, Try.ntmps42
  go_wp2
  go_ret
  exact ⟨rfl, rfl⟩
theorem compare_any (x y : Int) (w : World) : Calls Try.prog 40 #[.int .i64 x, .int .i64 y] w fun e w' => e = .returned (.int .i64 (cmp3 x y)) ∧ w' = w := by
  have hc : (decide (x < y) = true ∧ cmp3 x y = -1) ∨ (decide (x < y) = false ∧ decide (y < x) = true ∧ cmp3 x y = 1) ∨ (decide (x < y) = false ∧ decide (y < x) = false ∧ cmp3 x y = 0) := by
    unfold cmp3
    by_cases h1 : x < y
    · exact .inl ⟨by simpa using h1, by rw [if_pos h1]⟩
    · by_cases h2 : y < x
      · exact .inr (.inl ⟨by simpa using h1, by simpa using h2, by rw [if_neg h1, if_pos h2]⟩)
      · exact .inr (.inr ⟨by simpa using h1, by simpa using h2, by rw [if_neg h1, if_neg h2]⟩)
  rcases hc with ⟨h1, h2⟩ | ⟨h1, h2, h3⟩ | ⟨h1, h2, h3⟩
  · rw [h2]
    clear h2
    go_enter Try.func40, Try.ntmps40
    go_wp2_with (go_at_call 42; refine (isNaN_any _ _).mono ?_; rintro e w' ⟨rfl, rfl⟩)
    go_ret
    exact ⟨rfl, rfl⟩
  · rw [h3]
    clear h3
    go_enter Try.func40, Try.ntmps40
    go_wp2_with (go_at_call 42; refine (isNaN_any _ _).mono ?_; rintro e w' ⟨rfl, rfl⟩)
    go_ret
    exact ⟨rfl, rfl⟩
  · rw [h3]
    clear h3
    go_enter Try.func40, Try.ntmps40
    go_wp2_with (go_at_call 42; refine (isNaN_any _ _).mono ?_; rintro e w' ⟨rfl, rfl⟩)
    go_ret
    exact ⟨rfl, rfl⟩
/-- An entry that the queue may hold. -/
structure En.ok (e : En) : Prop where
  i0 : 0 ≤ e.id
  i1 : e.id ≤ 9223372036854775807
  p0 : -9 ≤ e.pri
  p1 : e.pri ≤ 9
  a0 : 0 ≤ e.at_
  a1 : e.at_ ≤ 1099511627776
  d : e.dest.size ≤ 255
def En.rank (e : En) (now age : Int) : Int := Go.Proofs.Ythpilbooolgkiaa.rank e.pri e.at_ now age
theorem rank_ok (e : En) (he : e.ok) (now age : Int) (h1 : -2199023255552 ≤ now) (h2 : now ≤ 2199023255552) (h3 : 1 ≤ age) (h4 : age ≤ 1048576) (w : World) :
    Calls Try.prog 26 #[.agg #[.int .i64 e.id, .string e.dest, .int .i64 e.pri, .int .i64 e.at_], .int .i64 now, .int .i64 age] w fun r w' => r = .returned (.int .i64 (e.rank now age)) ∧ Upd w w' Nope :=
  rank_any e now age w (by omega) (by omega) (by have := he.a0; omega) (by have := he.a1; omega) (by have := he.p0; omega) (by have := he.p1; omega) (by omega) (by omega)
/-- What the order's question captured: the tick, the queue, its age. -/
structure Cap (w : World) (pN pR : Nat) (g : Nat) (now age : Int) : Prop where
  n : w.cell? ⟨pN, 0, none⟩ = some (.int .i64 now)
  r : w.cell? ⟨pR, 0, none⟩ = some (.pointer (some ⟨g, 0, none⟩))
  a : w.cell? ⟨g, 0, none⟩ = some (.int .i64 age)
theorem Cap.upd {w w' : World} {pN pR g : Nat} {now age : Int} {F : Nat → Prop} (h : Cap w pN pR g now age) (u : Upd w w' F) (h1 : ¬ F pN) (h2 : ¬ F pR) (h3 : ¬ F g) : Cap w' pN pR g now age := ⟨u.cell h.n h1, u.cell h.r h2, u.cell h.a h3⟩
theorem Cap.lt {w : World} {pN pR g : Nat} {now age : Int} (h : Cap w pN pR g now age) : pN < w.heap.size ∧ pR < w.heap.size ∧ g < w.heap.size :=
  ⟨World.block_lt_of_cell? w _ h.n, World.block_lt_of_cell? w _ h.r, World.block_lt_of_cell? w _ h.a⟩
set_option maxHeartbeats 1000000 in
theorem ask_any (w : World) (pN pR g : Nat) (now age : Int) (hc : Cap w pN pR g now age) (x y : En) (hx : x.ok) (hy : y.ok) (h1 : -2199023255552 ≤ now) (h2 : now ≤ 2199023255552) (h3 : 1 ≤ age) (h4 : age ≤ 1048576) :
    Calls Try.prog 39 #[.agg #[.int .i64 x.id, .string x.dest, .int .i64 x.pri, .int .i64 x.at_], .agg #[.int .i64 y.id, .string y.dest, .int .i64 y.pri, .int .i64 y.at_], .pointer (some ⟨pN, 0, none⟩), .pointer (some ⟨pR, 0, none⟩)] w
      fun r w' => r = .returned (.int .i64 (cmp3 (y.rank now age) (x.rank now age))) ∧ Upd w w' Nope := by
  obtain ⟨l1, l2, l3⟩ := hc.lt
  have HX := Lib.hid (fun W => rank_ok x hx now age h1 h2 h3 h4 W)
  have HY := Lib.hid (fun W => rank_ok y hy now age h1 h2 h3 h4 W)
  have n1 := hc.n
  have r1 := hc.r
  have a1 := hc.a
  clear hx hy h1 h2 h3 h4
  have lN : pN < w.heap.size + 1 := by omega
  have lR : pR < w.heap.size + 1 := by omega
  have lg : g < w.heap.size + 1 := by omega
  go_enter Try.func39, Try.ntmps39
  go_wp2_with fail
  have hB := (Blk.new w #[.int .i64 x.id, .string x.dest, .int .i64 x.pri, .int .i64 x.at_] 34).alloc (.cells #[.int .i64 y.id, .string y.dest, .int .i64 y.pri, .int .i64 y.at_] 34)
  have hC := Blk.new (w.alloc (.cells #[.int .i64 x.id, .string x.dest, .int .i64 x.pri, .int .i64 x.at_] 34)) #[.int .i64 y.id, .string y.dest, .int .i64 y.pri, .int .i64 y.at_] 34
  have hU : Upd w ((w.alloc (.cells #[.int .i64 x.id, .string x.dest, .int .i64 x.pri, .int .i64 x.at_] 34)).alloc (.cells #[.int .i64 y.id, .string y.dest, .int .i64 y.pri, .int .i64 y.at_] 34)) Nope := ((Upd.refl w _).alloc _).alloc _
  have hz : (w.alloc (.cells #[.int .i64 x.id, .string x.dest, .int .i64 x.pri, .int .i64 x.at_] 34)).heap.size = w.heap.size + 1 := by simp
  rw [hz] at hC
  have hD := hc.upd hU (fun h => h) (fun h => h) (fun h => h)
  clear hz n1 r1 a1
  generalize (w.alloc (.cells #[.int .i64 x.id, .string x.dest, .int .i64 x.pri, .int .i64 x.at_] 34)).alloc (.cells #[.int .i64 y.id, .string y.dest, .int .i64 y.pri, .int .i64 y.at_] 34) = w2 at *
  have X1 := fun (x : UW w2) => x.cell hD.n
  have X2 := fun (x : UW w2) => x.cell hD.r
  have X3 := fun (x : UW w2) => x.cell hD.a
  have x0 : w2.cell? ⟨w.heap.size, 0, none⟩ = some (.int .i64 x.id) := (hB.cell 0).trans rfl
  have x1 : w2.cell? ⟨w.heap.size, 1, none⟩ = some (.string x.dest) := (hB.cell 1).trans rfl
  have x2 : w2.cell? ⟨w.heap.size, 2, none⟩ = some (.int .i64 x.pri) := (hB.cell 2).trans rfl
  have x3 : w2.cell? ⟨w.heap.size, 3, none⟩ = some (.int .i64 x.at_) := (hB.cell 3).trans rfl
  have y0 : w2.cell? ⟨w.heap.size + 1, 0, none⟩ = some (.int .i64 y.id) := (hC.cell 0).trans rfl
  have y1 : w2.cell? ⟨w.heap.size + 1, 1, none⟩ = some (.string y.dest) := (hC.cell 1).trans rfl
  have y2 : w2.cell? ⟨w.heap.size + 1, 2, none⟩ = some (.int .i64 y.pri) := (hC.cell 2).trans rfl
  have y3 : w2.cell? ⟨w.heap.size + 1, 3, none⟩ = some (.int .i64 y.at_) := (hC.cell 3).trans rfl
  have X4 := fun (z : UW w2) => z.cell x0
  have X5 := fun (z : UW w2) => z.cell x1
  have X6 := fun (z : UW w2) => z.cell x2
  have X7 := fun (z : UW w2) => z.cell x3
  have Y4 := fun (z : UW w2) => z.cell y0
  have Y5 := fun (z : UW w2) => z.cell y1
  have Y6 := fun (z : UW w2) => z.cell y2
  have Y7 := fun (z : UW w2) => z.cell y3
  have HU := Lib.hid hU
  have HCM := Lib.hid (fun (z : UW w2) => (compare_any (y.rank now age) (x.rank now age) z.val).mono (fun e w' (h : e = Ending.returned (.int .i64 (cmp3 (y.rank now age) (x.rank now age))) ∧ w' = z.val) => (⟨h.1, by rw [h.2]; exact Upd.refl _ _⟩ : e = Ending.returned (.int .i64 (cmp3 (y.rank now age) (x.rank now age))) ∧ Upd z.val w' Nope)))
  clear hB hC hU hD x0 x1 x2 x3 y0 y1 y2 y3
  refine region_uw (by kernel_rfl) (by kernel_rfl) ?_
  repeat (first
    | go_big_quiet_skip
    | (go_big_quiet_want; go_big_quiet_op; first | go_big_quiet_on | go_big_quiet_call (first | (go_at_call 26; first | (with_reducible exact UW.call (HX.out _)) | (with_reducible exact UW.call (HY.out _))) | (go_at_call 40; exact UW.call (HCM.out _)))))
  refine wpQuiet_nil ?_
  rintro _ ⟨z, rfl⟩
  go_wp2
  go_ret
  exact ⟨rfl, HU.out.nn z.ok⟩
end Go.Proofs.Ythpilbooolgkiaa
