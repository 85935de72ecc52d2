/- A region that draws its order, walked as a tree: where several effects may be next, each of them; the last effect turns what the readers read. -/
import Derived.Test.YtejelihioendnaaSeqf
set_option linter.unusedVariables false
set_option linter.unusedSimpArgs false
namespace Go.Proofs.Ytejelihioendnaa
open Go.RowKit

section
variable {P : Program} {ops : Array Oper} {S : World → Prop} {Q : Exit → Act → World → Prop} {md : Region.Mode} {T : List Nat} {m : Nat}
/-- Those operations that have come up. -/
def mkL (n : Nat) (done : List Nat) : Array Bool := done.foldl (fun l i => l.setIfInBounds i true) (Array.replicate n false)
theorem mkL_append (n : Nat) (done seg : List Nat) : mkL n (done ++ seg) = seg.foldl (fun l i => l.setIfInBounds i true) (mkL n done) := by unfold mkL; rw [List.foldl_append]
/-- What holds of the region once and for all. -/
structure RegOk (ops : Array Oper) (Q : Exit → Act → World → Prop) (md : Region.Mode) (T : List Nat) (m : Nat) : Prop where
  sel : Region.noSelect ops = true
  anc : ancB md ops [m] T = true
  pan : ∀ c a d v w, Q (.panic c) (Act.put a d v) w → Q (.panic c) a w
/-- The region, behind those that are done. -/
def WA (P : Program) (md : Region.Mode) (ops : Array Oper) (Q : Exit → Act → World → Prop) (S : World → Prop) (m fuel : Nat) (done : List Nat) (a : Act) (w : World) : Prop :=
  closedL md ops (mkL ops.size done) → S w → wpAnyL P md ops Q S m fuel (mkL ops.size done) a w
/-- The readers that come next. -/
theorem WA.seg (R : RegOk ops Q md T m) {fuel : Nat} (fuel' : Nat) {done : List Nat} (seg : List Nat) {a : Act} {w : World} (hf : fuel = seg.length + fuel')
    (hB : (match schedQF md ops T m seg (mkL ops.size done) with
      | some l => l == mkL ops.size (done ++ seg)
      | none => false) = true)
    (h : wpQuiet P ops S (fun a' => WA P md ops Q S m fuel' (done ++ seg) a' w) (opsAt ops seg) a) : WA P md ops Q S m fuel done a w := by
  intro hcl hS
  subst hf
  split at hB
  · rename_i l hl
    have e : l = mkL ops.size (done ++ seg) := by simpa using hB
    subst e
    exact segF_ok R.anc R.sel R.pan hS (fun hcl' a' hk => hk hcl' hS) seg _ a hcl hl h
  · cases hB
/-- The effects that may come next: each. -/
theorem WA.branch (R : RegOk ops Q md T m) {fuel : Nat} (fuel' : Nat) {done : List Nat} (l : List Nat) {a : Act} {w : World} (hf : fuel = fuel' + 1) (hr : (Region.ready md ops (mkL ops.size done) == l && !l.isEmpty) = true)
    (h : ∀ i ∈ l, ∃ o, ops[i]? = some o ∧ wpList P ops (afterE S (fun a' w' => WA P md ops Q S m fuel' (done ++ [i]) a' w') Q) [o] a w) : WA P md ops Q S m fuel done a w := by
  intro hcl hS
  subst hf
  simp only [Bool.and_eq_true, beq_iff_eq, Bool.not_eq_true', List.isEmpty_eq_false_iff] at hr
  refine ⟨fun h0 => absurd (hr.1.symm.trans h0) hr.2, fun j hj => ?_⟩
  have hj' : j ∈ l := by rw [← hr.1]; exact hj
  obtain ⟨o, ho, hw⟩ := h j hj'
  refine wpOp_mono (fun a' w' hk => ?_) (op_of_afterE ho hw)
  have e : mkL ops.size (done ++ [j]) = (mkL ops.size done).setIfInBounds j true := by rw [mkL_append]; rfl
  have hk2 := hk.2
  unfold WA at hk2
  rw [e] at hk2
  exact ⟨.inr hk.1, hk2 (hcl.step hj) hk.1⟩
theorem opsAt_one {ops : Array Oper} {i : Nat} (h : (ops[i]?).isSome = true) : ∃ o, ops[i]? = some o ∧ opsAt ops [i] = [o] := by
  obtain ⟨o, ho⟩ := Option.isSome_iff_exists.1 h
  exact ⟨o, ho, by rw [opsAt_cons, ho, consO_some, opsAt_nil]⟩
theorem WA.one (R : RegOk ops Q md T m) {fuel : Nat} (fuel' : Nat) {done : List Nat} (i : Nat) {a : Act} {w : World} (hf : fuel = fuel' + 1) (hr : (Region.ready md ops (mkL ops.size done) == [i] && ![i].isEmpty && (ops[i]?).isSome) = true)
    (h : wpList P ops (afterE S (fun a' w' => WA P md ops Q S m fuel' (done ++ [i]) a' w') Q) (opsAt ops [i]) a w) : WA P md ops Q S m fuel done a w := by
  rw [Bool.and_eq_true] at hr
  obtain ⟨o, ho, e⟩ := opsAt_one hr.2
  rw [e] at h
  exact WA.branch R fuel' [i] hf hr.1 fun j hj => by
    obtain rfl : j = i := by simpa using hj
    exact ⟨o, ho, h⟩
theorem WA.two (R : RegOk ops Q md T m) {fuel : Nat} (fuel' : Nat) {done : List Nat} (i k : Nat) {a : Act} {w : World} (hf : fuel = fuel' + 1) (hr : (Region.ready md ops (mkL ops.size done) == [i, k] && ![i, k].isEmpty && (ops[i]?).isSome && (ops[k]?).isSome) = true)
    (h : wpList P ops (afterE S (fun a' w' => WA P md ops Q S m fuel' (done ++ [i]) a' w') Q) (opsAt ops [i]) a w)
    (hk : wpList P ops (afterE S (fun a' w' => WA P md ops Q S m fuel' (done ++ [k]) a' w') Q) (opsAt ops [k]) a w) : WA P md ops Q S m fuel done a w := by
  rw [Bool.and_eq_true, Bool.and_eq_true] at hr
  obtain ⟨o, ho, e⟩ := opsAt_one hr.1.2
  obtain ⟨o2, ho2, e2⟩ := opsAt_one hr.2
  rw [e] at h
  rw [e2] at hk
  exact WA.branch R fuel' [i, k] hf hr.1.1 fun j hj => by
    have hj' : j = i ∨ j = k := by simpa using hj
    rcases hj' with rfl | rfl
    · exact ⟨o, ho, h⟩
    · exact ⟨o2, ho2, hk⟩
/-- The last effect. -/
theorem WA.fin {done : List Nat} {a : Act} {w : World} (hr : (Region.ready md ops (mkL ops.size done) == [m] && (Region.ready md ops ((mkL ops.size done).setIfInBounds m true)).isEmpty && (ops[m]?).isSome) = true)
    (h : wpList P ops Q (opsAt ops [m]) a w) : WA P md ops Q S m 1 done a w := by
  intro hcl hS
  rw [Bool.and_eq_true] at hr
  obtain ⟨om, hom, e⟩ := opsAt_one hr.2
  rw [e] at h
  have hr := hr.1
  simp only [Bool.and_eq_true, beq_iff_eq] at hr
  refine ⟨fun h0 => (by rw [hr.1] at h0; cases h0), fun j hj => ?_⟩
  rw [hr.1] at hj
  obtain rfl : j = m := by simpa using hj
  exact opF hom (fun a'' w'' hk => ⟨.inl getD_self, by simpa using hr.2, hk⟩) h
/-- The same operations, in another order. -/
theorem WA.same {fuel : Nat} {done : List Nat} (done' : List Nat) {a : Act} {w : World} (he : (mkL ops.size done == mkL ops.size done') = true) (h : WA P md ops Q S m fuel done' a w) : WA P md ops Q S m fuel done a w := by
  have e : mkL ops.size done = mkL ops.size done' := by simpa using he
  unfold WA at h ⊢
  rw [e]
  exact h
/-- **The region.** -/
theorem region_tree {id : Nat} {a : Act} {w : World} {l : List Oper} (m : Nat) (T : List Nat) (hm : P.follows .mixedOrders = true) (S : World → Prop) (hB : (Region.noSelect l.toArray && ancB .any l.toArray [m] T) = true)
    (hQ : ∀ c a d v w, Q (.panic c) (Act.put a d v) w → Q (.panic c) a w) (hS : S w.drew)
    (h : RegOk l.toArray Q .any T m → WA P .any l.toArray Q S m l.length [] a w.drew) : (Code.region id l.toArray true).wp P Q a w := by
  simp only [Bool.and_eq_true] at hB
  refine wp_region_any hm (wpAny_of_L (S := S) (m := m) _ _ _ _ ?_)
  have hcl : closedL .any l.toArray (Array.replicate l.length false) := fun j o hj hl e he hb => by
    have hjl : j < l.length := by simpa using (Array.getElem?_eq_some_iff.1 hj).1
    rw [Array.getD] at hl
    simp [hjl] at hl
  have := h ⟨hB.1, hB.2, hQ⟩
  unfold WA mkL at this
  simpa using this (by simpa using hcl) hS
end
end Go.Proofs.Ytejelihioendnaa
