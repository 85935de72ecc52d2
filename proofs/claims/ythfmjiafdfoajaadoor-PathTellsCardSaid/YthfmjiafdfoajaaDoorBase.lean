/- Words on worlds that this seat's walks share: what a call may have turned (Upd), and blocks carried over it. -/
import Derived.Test.YthfmjiafdfoajaaDoorProg
import Derived.WalkKit
import Derived.Tactics2
import Derived.Defers
import Derived.Outline
import Derived.Deep.QuietTactic
import Derived.BigQuiet
import Derived.Deep.Draws
import Derived.Deep.LoopGhost
import Derived.Lib.Hide
import Derived.WalkLawsBesides
set_option linter.unusedVariables false
set_option linter.unusedSimpArgs false
namespace Go.Proofs.YthfmjiafdfoajaaDoor
open Go.RowKit

/-- w' is w with new blocks; of what was there only blocks in F may have turned. -/
structure Upd (w w' : World) (F : Nat → Prop) : Prop where
  os : w'.os = w.os
  tape : w'.tape = w.tape
  output : w'.output = w.output
  size : w.heap.size ≤ w'.heap.size
  block : ∀ k, k < w.heap.size → ¬ F k → w'.heap[k]? = w.heap[k]?

/-- Nothing that was there. -/
abbrev Nope : Nat → Prop := fun _ => False

theorem Upd.refl (w : World) (F : Nat → Prop) : Upd w w F := ⟨rfl, rfl, rfl, Nat.le_refl _, fun _ _ _ => rfl⟩
theorem Upd.mono {w w' : World} {F G : Nat → Prop} (h : Upd w w' F) (hs : ∀ k, k < w.heap.size → F k → G k) : Upd w w' G :=
  ⟨h.os, h.tape, h.output, h.size, fun k hk hn => h.block k hk (fun hf => hn (hs k hk hf))⟩
theorem Upd.trans {w w1 w2 : World} {F G H : Nat → Prop} (h : Upd w w1 F) (k : Upd w1 w2 G) (hF : ∀ i, i < w.heap.size → F i → H i) (hG : ∀ i, i < w.heap.size → G i → H i) : Upd w w2 H :=
  ⟨k.os.trans h.os, k.tape.trans h.tape, k.output.trans h.output, Nat.le_trans h.size k.size,
    fun i hi hn => (k.block i (Nat.lt_of_lt_of_le hi h.size) (fun hg => hn (hG i hi hg))).trans (h.block i hi (fun hf => hn (hF i hi hf)))⟩
theorem Upd.then_ {w w1 w2 : World} {F : Nat → Prop} (h : Upd w w1 F) (k : Upd w1 w2 F) : Upd w w2 F := h.trans k (fun _ _ h => h) (fun _ _ h => h)
theorem Upd.alloc {w w1 : World} {F : Nat → Prop} (h : Upd w w1 F) (o : Obj) : Upd w (w1.alloc o) F :=
  h.then_ ⟨rfl, rfl, rfl, by simp, fun k hk _ => Below.heap_alloc _ _ _ hk⟩
theorem Upd.drew {w w1 : World} {F : Nat → Prop} (h : Upd w w1 F) : Upd w w1.drew F := ⟨h.os, h.tape, h.output, h.size, h.block⟩
theorem Upd.drewN {w w1 : World} {F : Nat → Prop} (h : Upd w w1 F) (n : Nat) : Upd w (w1.drewN n) F := ⟨h.os, h.tape, h.output, h.size, h.block⟩
theorem Upd.set {w w1 : World} {F : Nat → Prop} (h : Upd w w1 F) (p : Addr) (u : Value) (hp : F p.block ∨ w.heap.size ≤ p.block) : Upd w (w1.setCell p u) F :=
  ⟨h.os, h.tape, h.output, by simpa [World.setCell] using h.size, fun k hk hn =>
    (Below.heap_setCell _ _ _ _ (by rintro rfl; rcases hp with hp | hp; exact hn hp; omega)).trans (h.block k hk hn)⟩
theorem Upd.grown {w w1 w2 : World} {F : Nat → Prop} {row : Option Nat} (h : Upd w w1 F) (hg : w1.grownBy w2 row) (hr : ∀ k, row = some k → F k ∨ w.heap.size ≤ k) : Upd w w2 F :=
  ⟨hg.os.trans h.os, hg.tape.trans h.tape, hg.output.trans h.output, Nat.le_trans h.size hg.size, fun k hk hn =>
    (hg.block k (Nat.lt_of_lt_of_le hk h.size) (fun e => by rcases hr k e.symm with hp | hp; exact hn hp; omega)).trans (h.block k hk hn)⟩
theorem Upd.of_grown {w w2 : World} {F : Nat → Prop} {row : Option Nat} (hg : w.grownBy w2 row) (hr : ∀ k, row = some k → F k ∨ w.heap.size ≤ k) : Upd w w2 F := (Upd.refl w F).grown hg hr
theorem Upd.of_below {w w1 : World} (h : Below w.heap.size w w1) (F : Nat → Prop) : Upd w w1 F := ⟨h.os, h.tape, h.output, h.size, fun k hk _ => h.block k hk⟩
theorem Upd.below {w w1 : World} {F : Nat → Prop} (h : Upd w w1 F) (hF : ∀ k, F k → w.heap.size ≤ k) : Below w.heap.size w w1 :=
  ⟨h.os, h.tape, h.output, h.size, fun k hk => h.block k hk (fun hf => by have := hF k hf; omega)⟩
/-- Below grows on by a call that turns what lies at or beyond B alone. -/
theorem Upd.onto {B : Nat} {w w1 w2 : World} {F : Nat → Prop} (h : Below B w w1) (k : Upd w1 w2 F) (hB : B ≤ w1.heap.size) (hF : ∀ i, F i → B ≤ i) : Below B w w2 :=
  h.trans ⟨k.os, k.tape, k.output, k.size, fun i hi => k.block i (by omega) (fun hf => by have := hF i hf; omega)⟩
theorem Upd.blk {w w1 : World} {F : Nat → Prop} {g : Nat} {o : Obj} (h : Upd w w1 F) (hb : w.heap[g]? = some o) (hn : ¬ F g) : w1.heap[g]? = some o :=
  (h.block g (Array.getElem?_eq_some_iff.1 hb).1 hn).trans hb
theorem Upd.cell {w w1 : World} {F : Nat → Prop} {a : Addr} {v : Value} (h : Upd w w1 F) (hc : w.cell? a = some v) (hn : ¬ F a.block) : w1.cell? a = some v :=
  (World.cell?_of_block (h.block a.block (World.block_lt_of_cell? w a hc) hn)).trans hc

theorem Upd.on {w w1 w2 : World} {g : Nat} (h : Upd w w1 Nope) (k : Upd w1 w2 (· = g)) (hg : w.heap.size ≤ g) : Upd w w2 Nope := h.trans k (fun _ _ h => h) (fun i hi e => by omega)
theorem Upd.nn {w w1 w2 : World} (h : Upd w w1 Nope) (k : Upd w1 w2 Nope) : Upd w w2 Nope := h.then_ k
/-- w' is w, some orders having been drawn. -/
structure Drew (w w' : World) : Prop where mk :: (out : ∃ n, w' = w.drewN n)
theorem Drew.refl (w : World) : Drew w w := ⟨⟨0, rfl⟩⟩
theorem Drew.one (w : World) : Drew w w.drew := ⟨⟨1, rfl⟩⟩
theorem Drew.step {w w' : World} (h : Drew w w') (n : Nat) : Drew w (w'.drewN n) := by
  obtain ⟨m, rfl⟩ := h.out
  exact ⟨⟨m + n, World.drewN_drewN ..⟩⟩
theorem Drew.drew {w w' : World} (h : Drew w w') : Drew w w'.drew := h.step 1
theorem Drew.trans {w w1 w2 : World} (h : Drew w w1) (k : Drew w1 w2) : Drew w w2 := by
  obtain ⟨m, rfl⟩ := k.out
  exact h.step m
theorem Drew.cell {w w' : World} (h : Drew w w') (a : Addr) : w'.cell? a = w.cell? a := by obtain ⟨n, rfl⟩ := h.out; rfl
theorem Drew.heap {w w' : World} (h : Drew w w') : w'.heap = w.heap := by obtain ⟨n, rfl⟩ := h.out; rfl
theorem Drew.upd {w w' : World} (h : Drew w w') (F : Nat → Prop) : Upd w w' F := by obtain ⟨n, rfl⟩ := h.out; exact (Upd.refl w F).drewN n
theorem Upd.dr {w w1 w2 : World} {F : Nat → Prop} (h : Upd w w1 F) (k : Drew w1 w2) : Upd w w2 F := h.then_ (k.upd F)
theorem Drew.quiet {P : Program} {f : FuncId} {args : Array Value} {w : World} {n : Nat} {v : Value}
    (h : Calls P f args (w.drewN n) fun e w' => e = .returned v ∧ Drew (w.drewN n) w') : Calls P f args (w.drewN n) fun e w'' => e = .returned v ∧ ∃ m, w'' = w.drewN m :=
  h.mono fun _ _ ⟨he, hd⟩ => ⟨he, by obtain ⟨m, rfl⟩ := hd.out; exact ⟨n + m, World.drewN_drewN ..⟩⟩

/-- A world that grew out of w: nothing that was there has turned. -/
structure UW (w : World) where mk :: (val : World) (ok : Upd w val Nope)
instance (w : World) : Nonempty (UW w) := ⟨⟨w, Upd.refl _ _⟩⟩
/-- A region that draws its order, whose operations read, and whose calls read or make memory: walked once, in the order of the text. -/
theorem region_uw {P : Program} {id : Nat} {Q : Exit → Act → World → Prop} {a : Act} {w : World} {l : List Oper} (hm : P.follows .mixedOrders = true) (hB : Region.lexB .any l.toArray = true)
    (h : wpQuiet P l.toArray (fun w' => ∃ x : UW w, w' = x.val) (fun a' => ∀ w', (∃ x : UW w, w' = x.val) → Q .normal a' w') l a) : (Code.region id l.toArray true).wp P Q a w :=
  wp_region_quiet (C := fun w' => ∃ x : UW w, w' = x.val) hm hB ⟨⟨w.drew, (Upd.refl _ _).drew⟩, rfl⟩ (by simpa using h)
theorem UW.call {P : Program} {f : FuncId} {args : Array Value} {w : World} {x : UW w} {v : Value} (h : Calls P f args x.val fun e w' => e = .returned v ∧ Upd x.val w' Nope) :
    Calls P f args x.val fun e w'' => e = .returned v ∧ ∃ y : UW w, w'' = y.val :=
  h.mono fun _ w'' ⟨he, hu⟩ => ⟨he, ⟨w'', x.ok.nn hu⟩, rfl⟩
theorem UW.cell {w : World} (x : UW w) {a : Addr} {v : Value} (h : w.cell? a = some v) : x.val.cell? a = some v := x.ok.cell h id

/-- A block of cells, none of them frozen. -/
def Blk (w : World) (g : Nat) (cs : Array Value) (t : TypeId) : Prop := w.heap[g]? = some (.cells cs t (0, 0))
theorem Blk.lt {w : World} {g : Nat} {cs : Array Value} {t : TypeId} (h : Blk w g cs t) : g < w.heap.size := (Array.getElem?_eq_some_iff.1 h).1
theorem Blk.cell {w : World} {g : Nat} {cs : Array Value} {t : TypeId} (h : Blk w g cs t) (i : Nat) : w.cell? ⟨g, i, none⟩ = cs[i]? := cell_of_row w g i cs t (0, 0) h
theorem Blk.frozen {w : World} {g : Nat} {cs : Array Value} {t : TypeId} (h : Blk w g cs t) (i : Nat) : w.frozen? ⟨g, i, none⟩ = false := by
  unfold Blk at h
  simp [World.frozen?, h]
theorem Blk.new (w : World) (cs : Array Value) (t : TypeId) : Blk (w.alloc (.cells cs t)) w.heap.size cs t := heap_alloc_new w _
theorem Blk.alloc {w : World} {g : Nat} {cs : Array Value} {t : TypeId} (h : Blk w g cs t) (o : Obj) : Blk (w.alloc o) g cs t := (Below.heap_alloc w o g h.lt).trans h
theorem Blk.drew {w : World} {g : Nat} {cs : Array Value} {t : TypeId} (h : Blk w g cs t) : Blk w.drew g cs t := h
theorem Blk.drewN {w : World} {g : Nat} {cs : Array Value} {t : TypeId} (h : Blk w g cs t) (n : Nat) : Blk (w.drewN n) g cs t := h
theorem Blk.set {w : World} {g : Nat} {cs : Array Value} {t : TypeId} (h : Blk w g cs t) (i : Nat) (u : Value) : Blk (w.setCell ⟨g, i, none⟩ u) g (cs.setIfInBounds i u) t := by
  unfold Blk at *
  simp [World.setCell, Array.getElem?_modify, h]
theorem Blk.far {w : World} {g : Nat} {cs : Array Value} {t : TypeId} (h : Blk w g cs t) {p : Addr} (hp : g ≠ p.block) (u : Value) : Blk (w.setCell p u) g cs t := (Below.heap_setCell w p u g hp).trans h
theorem Blk.upd {w w1 : World} {F : Nat → Prop} {g : Nat} {cs : Array Value} {t : TypeId} (h : Blk w g cs t) (k : Upd w w1 F) (hn : ¬ F g) : Blk w1 g cs t := k.blk h hn
theorem Blk.ne {w : World} {g g' : Nat} {cs cs' : Array Value} {t t' : TypeId} (h : Blk w g cs t) (h' : Blk w g' cs' t') (hne : t ≠ t') : g ≠ g' := by
  rintro rfl
  unfold Blk at h h'
  rw [h] at h'
  injection h' with h'
  injection h' with _ e
  exact hne e
/-- Go's min and max of two, as numbers. -/
def imin (x y : Int) : Int := if y < x then y else x
def imax (x y : Int) : Int := if x < y then y else x
theorem imin_eq (x y : Int) : imin x y = min x y := by unfold imin; split <;> omega
theorem imax_eq (x y : Int) : imax x y = max x y := by unfold imax; split <;> omega
theorem bmin2 (k k' : IntKind) (x y : Int) : Builtin.min2 (.int k x) (.int k' y) = pure (.int k (imin x y)) := by simp only [Builtin.min2, imin]
theorem bmax2 (k k' : IntKind) (x y : Int) : Builtin.max2 (.int k x) (.int k' y) = pure (.int k (imax x y)) := by simp only [Builtin.max2, imax, gt_iff_lt]
theorem bmin_two (ats : Array TypeId) (ty : TypeId) (a b : Value) : Builtin.min_ ats ty #[a, b] = (Builtin.min2 a b >>= fun s => pure s) := by simp only [Builtin.min_, List.foldlM_cons, List.foldlM_nil]
theorem bmax_two (ats : Array TypeId) (ty : TypeId) (a b : Value) : Builtin.max_ ats ty #[a, b] = (Builtin.max2 a b >>= fun s => pure s) := by simp only [Builtin.max_, List.foldlM_cons, List.foldlM_nil]
theorem makeFunc_run {P : Program} (fn : Fn) (first cap : Array Value) (w : World) : (Instr.makeFunc fn first cap).run P w = .ok (.func fn first cap) w := rfl
theorem wrap64_in {x : Int} (h : -9223372036854775808 ≤ x) (h' : x ≤ 9223372036854775807) : wrap64 x = x := by unfold wrap64; omega
/-- s[a:b], the bounds brought to Nat first. -/
theorem slice_str {P : Program} {T : TypeId} (hT : P.underlying T = some .string) (t : ByteArray) (i j : Int) (a b : Nat) (hi : i = a) (hj : j = b) (hab : a ≤ b) (hb : b ≤ t.size) (W : World) :
    (Instr.slice T (.string t) (some (.int .i64 i)) (some (.int .i64 j)) none).run P W = .ok (.string (t.extract a b)) W := by
  subst hi hj
  rw [run_slice_string W T t .i64 .i64 (a : Int) (b : Int) hT (by omega) (by omega) (by omega)]
  simp
theorem ext_list (t : ByteArray) (i j : Nat) : (t.extract i j).data.toList = (t.data.toList.drop i).take (j - i) := by
  simp [ByteArray.extract, ByteArray.copySlice, List.drop_take]
theorem ret_eq {u v : Value} (h : u = v) : Ending.returned u = .returned v := by rw [h]
end Go.Proofs.YthfmjiafdfoajaaDoor
