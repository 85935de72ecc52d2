/- A range over strings.SplitSeq at a dot: the loop's law, by its own book-keeping. -/
import Derived.RangeFuncFrom
import Derived.Test.YthfmjiafdfoajaaDoorSpl
set_option linter.unusedVariables false
set_option linter.unusedSimpArgs false
namespace Go.Proofs.YthfmjiafdfoajaaDoor
open Go.RowKit Go.Shelf

/-- How the body of a round may be left. -/
def rndPost (b1 b2 b3 : Nat) (I Ix : List ByteArray → World → Prop) (xs : List ByteArray) (W : World) : Exit → Act → World → Prop
  | .normal, _, W' => KeepsOthers W W' ∧ Kb b1 b2 b3 W W' ∧ I xs W'
  | .ret, _, W' => KeepsOthers W W' ∧ Ix xs W'
  | _, _, _ => False
theorem Kb.trans {b1 b2 b3 : Nat} {A B C : World} (h : Kb b1 b2 b3 A B) (k : Kb b1 b2 b3 B C) : Kb b1 b2 b3 A C :=
  ⟨Nat.le_trans h.1 k.1, k.2.1.trans h.2.1, k.2.2.1.trans h.2.2.1, k.2.2.2.trans h.2.2.2⟩
theorem Kb.refl {b1 b2 b3 : Nat} {A : World} : Kb b1 b2 b3 A A := ⟨Nat.le_refl _, rfl, rfl, rfl⟩
theorem Kb.putObj {b1 b2 b3 l : Nat} {A : World} (o : Obj) (h : b1 ≠ l ∧ b2 ≠ l ∧ b3 ≠ l) : Kb b1 b2 b3 A (A.putObj l o) :=
  ⟨by simp [World.putObj], World.putObj_heap_other (by omega), World.putObj_heap_other (by omega), World.putObj_heap_other (by omega)⟩
theorem Kb.of_below {b1 b2 b3 N : Nat} {A B : World} (h : Below N A B) (h1 : b1 < N ∧ b2 < N ∧ b3 < N) : Kb b1 b2 b3 A B :=
  ⟨h.size, h.block b1 h1.1, h.block b2 h1.2.1, h.block b3 h1.2.2⟩

set_option maxRecDepth 100000 in
set_option maxHeartbeats 2000000 in
theorem wpIn_rangeSpl {g : Operand} {ps : Array Tmp} {assign body : Code} {Q : Exit → Act → World → Prop} {a : Act} {w : World} {n : Nat} (h1 : 3 ≤ n) (n0 b1 b2 b3 : Nat) (s : ByteArray) (hs : s.size < 4294967281)
    (hg : a.eval g = .func (.func 67) #[] #[.pointer (some ⟨b1, 0, none⟩), .pointer (some ⟨b2, 0, none⟩), .pointer (some ⟨b3, 0, none⟩)])
    (hb : b1 ≠ b2 ∧ b3 ≠ b2) (hn0 : n0 ≤ b1 ∧ n0 ≤ b2 ∧ n0 ≤ b3) (hbw : b1 < w.heap.size ∧ b2 < w.heap.size ∧ b3 < w.heap.size) (hB : Bx w b1 b2 b3 s) (hps : ps.size = 1)
    (I Ix : List ByteArray → World → Prop) (hI : ∀ pre A B, I pre A → Below n0 A B → I pre B) (hIx : ∀ pre A B, Ix pre A → Below n0 A B → Ix pre B) (h0 : I [] w) (a₁ : ByteArray → Act)
    (hassign : ∀ (l : Nat) (x : ByteArray) (W : World) (K : Act → World → Prop), K (a₁ x) W →
      assign.wpIn (Fence.wide.inRound l) (n - 1 - 1) Tryd.prog (Exit.then K (fun _ _ _ => False)) { tmps := (ps.zip #[Value.string x]).foldl (fun t (p, v) => t.setIfInBounds p v) a.tmps, defers := [] } W)
    (hbody : ∀ (l : Nat) (pre : List ByteArray) (x : ByteArray) (W : World), I pre W → w.heap.size ≤ W.heap.size → (pre ++ [x]) <+: pcs s → body.wpIn (Fence.wide.inRound l) (n - 1 - 1) Tryd.prog (rndPost b1 b2 b3 I Ix (pre ++ [x]) W) (a₁ x) W)
    (hdone : ∀ (D : Nat) (W : World), w.heap.size ≤ D → I (pcs s) W → W.heap[D]? = some (.deferred (some [])) → Q .normal { a with defers := { target := .collected D, args := #[] } :: a.defers } W)
    (hstop : ∀ (D : Nat) (pre : List ByteArray) (W : World), w.heap.size ≤ D → pre <+: pcs s → Ix pre W → W.heap[D]? = some (.deferred (some [])) → Code.ret.wpIn Fence.wide n Tryd.prog Q { a with defers := { target := .collected D, args := #[] } :: a.defers } W) :
    (Code.rangeFunc g ps assign body).wpIn Fence.wide n Tryd.prog Q a w := by
  refine wpIn_rangeFunc ?_
  intro fn hfn
  rw [show Fence.wide.round = none from rfl]
  obtain ⟨rec, hrec⟩ : ∃ rec : LoopState → Option Code → Loop, rec = fun st pe => { state := st, pending := pe, fn, tmps := a.tmps, params := ps, assign, body, defers := w.heap.size } := ⟨_, rfl⟩
  obtain ⟨W1, hW1⟩ : ∃ W1, (w.alloc (.deferred (some []))).alloc (.loop (rec .ready none)) = W1 := ⟨_, rfl⟩
  have hL1 : W1.heap[w.heap.size + 1]? = some (.loop (rec .ready none)) := by
    rw [← hW1]; have := World.alloc_heap_new (w.alloc (.deferred (some []))) (.loop (rec .ready none)); rwa [World.size_alloc] at this
  have hK1 : W1.heap[w.heap.size]? = some (.deferred (some [])) := by
    rw [← hW1]; exact (Below.heap_alloc _ _ _ (by simp)).trans (World.alloc_heap_new w _)
  have hbel : Below w.heap.size w W1 := by rw [← hW1]; exact ((Below.refl _ w).alloc (Nat.le_refl _) _).alloc (by simp) _
  have hn0w : n0 ≤ w.heap.size := by omega
  have hI1 : I [] W1 := hI _ _ _ h0 (hbel.mono hn0w)
  have hB1 : Bx W1 b1 b2 b3 s := hB.kept (Kb.of_below hbel hbw)
  have hput : ∀ (W : World) (o : Obj), Below n0 W (W.putObj (w.heap.size + 1) o) := fun W o => ⟨rfl, rfl, rfl, by simp [World.putObj], fun k hk => World.putObj_heap_other (by omega)⟩
  refine ⟨w.heap.size + 1, [{ target := .collected w.heap.size, args := #[] }], W1, { target := .fn (.func 67) #[.pointer (some ⟨b1, 0, none⟩), .pointer (some ⟨b2, 0, none⟩), .pointer (some ⟨b3, 0, none⟩)], args := #[.func (.yield (w.heap.size + 1)) #[] #[]] }, W1, 67,
    #[.func (.yield (w.heap.size + 1)) #[] #[]] ++ #[.pointer (some ⟨b1, 0, none⟩), .pointer (some ⟨b2, 0, none⟩), .pointer (some ⟨b3, 0, none⟩)], W1, ?_, ?_, ?_, ?_, fun _ => by omega, ?_⟩
  · rw [← hW1, hrec]; exact run_enterLoop_outer _ _ _ _ _
  · simp only [resolve, hg]
    simp [go_sem]
  · intro f' hf'; simp [Target.leads] at hf'; subst hf'; trivial
  · have eg : ∀ args w, (callFunc 67 args).run Tryd.prog w = .ok (.enter 67 args) w := enters_of Tryd.func67 (by kernel_rfl) rfl
    simp [invoke, go_sem, eg]
  · refine (split1_in (n - 1) (by omega) (w.heap.size + 1) b1 b2 b3 hb s hs
      (fun pre W => I pre W ∧ w.heap.size ≤ W.heap.size ∧ W.heap[w.heap.size + 1]? = some (.loop (rec .ready none)) ∧ W.heap[w.heap.size]? = some (.deferred (some [])))
      (fun pre W => Ix pre W ∧ W.heap[w.heap.size + 1]? = some (.loop (rec .done (some .ret))) ∧ W.heap[w.heap.size]? = some (.deferred (some [])))
      ?_ ?_ W1 hB1 ⟨hI1, hbel.size, hL1, hK1⟩).mono ?_
    · rintro pre W v ⟨hi, hz, hl, hk⟩
      refine ⟨hI _ _ _ hi ((Below.refl n0 W).setCell (p := ⟨b2, 0, none⟩) hn0.2.1 _), ?_, ?_, ?_⟩
      · simpa using hz
      · exact (KeepsOthers.setCell W ⟨b2, 0, none⟩ v).same _ _ hl rfl
      · exact (KeepsOthers.setCell W ⟨b2, 0, none⟩ v).same _ _ hk rfl
    · rintro pre x W ⟨hi, hz, hl, hk⟩ hpre
      have hlt : w.heap.size + 1 < W.heap.size := (Array.getElem?_eq_some_iff.1 hl).1
      have hy := run_yield (P := Tryd.prog) (args := #[.string x]) hl (by rw [hrec]; exact hps.symm)
      rw [hrec] at hy
      refine ⟨fn, _, assign, body, hy, roundIn_of_wpIn hfn (hassign _ x W _ ⟨_, run_beginRound hl (by rw [hrec]), ?_⟩)⟩
      have hl2 : (W.putObj (w.heap.size + 1) (.loop { rec .ready none with state := .busy })).heap[w.heap.size + 1]? = some (.loop { rec .ready none with state := .busy }) := World.putObj_heap_same hlt
      have hk2 : (W.putObj (w.heap.size + 1) (.loop { rec .ready none with state := .busy })).heap[w.heap.size]? = some (.deferred (some [])) := (World.putObj_heap_other (by omega)).trans hk
      refine wpIn_mono (hbody _ pre x _ (hI _ _ _ hi (hput _ _)) (by simpa [World.putObj] using hz) hpre) ?_
      have fin : ∀ (jump : Option Code) (W3 : World), KeepsOthers (W.putObj (w.heap.size + 1) (.loop { rec .ready none with state := .busy })) W3 →
          (Instr.endRound (w.heap.size + 1) jump).run Tryd.prog W3 = .ok (.bool jump.isNone) (W3.putObj (w.heap.size + 1) (.loop (rec (if jump.isNone then .ready else .done) jump))) ∧
          (W3.putObj (w.heap.size + 1) (.loop (rec (if jump.isNone then .ready else .done) jump))).heap[w.heap.size + 1]? = some (.loop (rec (if jump.isNone then .ready else .done) jump)) ∧
          (W3.putObj (w.heap.size + 1) (.loop (rec (if jump.isNone then .ready else .done) jump))).heap[w.heap.size]? = some (.deferred (some [])) := fun jump W3 hk3 => by
        have hl3 := hk3.same _ _ hl2 rfl
        have := run_endRound (P := Tryd.prog) jump hl3
        rw [hrec] at this ⊢
        exact ⟨this, World.putObj_heap_same (Array.getElem?_eq_some_iff.1 hl3).1, (World.putObj_heap_other (by omega)).trans (hk3.same _ _ hk2 rfl)⟩
      rintro e a3 W3 hp
      cases e with
      | normal =>
        obtain ⟨hk3, hkp3, hi3⟩ := hp
        obtain ⟨hr, hl4, hk4⟩ := fin none W3 hk3
        have hz3 : w.heap.size ≤ W3.heap.size := Nat.le_trans (by simpa [World.putObj] using hz) hk3.size
        exact ⟨_, _, hr, .inl ⟨rfl, ⟨hI _ _ _ hi3 (hput _ _), by simpa [World.putObj] using hz3, hl4, hk4⟩, ((Kb.putObj _ (by omega)).trans hkp3).trans (Kb.putObj _ (by omega))⟩⟩
      | ret =>
        obtain ⟨hk3, hi3⟩ := hp
        obtain ⟨hr, hl4, hk4⟩ := fin (some .ret) W3 hk3
        exact ⟨_, _, hr, .inr ⟨rfl, hIx _ _ _ hi3 (hput _ _), hl4, hk4⟩⟩
      | exit id => exact hp.elim
      | goto t => exact hp.elim
      | panic ch => exact hp.elim
      | outgrown => exact hp.elim
    · rintro e W2 ⟨⟨v, rfl⟩, (⟨hi, hz, hl, hk⟩ | ⟨pre, hSp, hi, hl, hk⟩)⟩
      · exact ⟨none, _, by have := run_endLoop (P := Tryd.prog) hl (by rw [hrec]; simp); rw [hrec] at this; exact this, hdone _ _ (Nat.le_refl _) (hI _ _ _ hi (hput _ _)) ((World.putObj_heap_other (by omega)).trans hk)⟩
      · exact ⟨some .ret, _, by have := run_endLoop (P := Tryd.prog) hl (by rw [hrec]; simp); rw [hrec] at this; exact this, hstop _ pre _ (Nat.le_refl _) hSp (hIx _ _ _ hi (hput _ _)) ((World.putObj_heap_other (by omega)).trans hk)⟩
end Go.Proofs.YthfmjiafdfoajaaDoor
