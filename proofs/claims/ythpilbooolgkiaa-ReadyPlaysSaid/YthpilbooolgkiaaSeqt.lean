/- A region that draws its order, walked as a tree: where several effects may be next, each of them; the last effect turns what the readers read. -/
import Derived.Test.YthpilbooolgkiaaSeqf
set_option linter.unusedVariables false
set_option linter.unusedSimpArgs false
namespace Go.Proofs.Ythpilbooolgkiaa
open Go.RowKit

section
variable {P : Program} {ops : Array Oper} {S : World → Prop} {Q : Exit → Act → World → Prop} {md : Region.Mode} {T : List Nat} {m : Nat}
/-- Those operations that have come up. -/
def mkL (n : Nat) (done : List Nat) : Array Bool := done.foldl (fun l i => l.setIfInBounds i true) (Array.replicate n false)
theorem mkL_append (n : Nat) (done seg : List Nat) : mkL n (done ++ seg) = seg.foldl (fun l i => l.setIfInBounds i true) (mkL n done) := by unfold mkL; rw [List.foldl_append]
/-- What holds of the region once and for all. -/
structure RegOk (ops : Array Oper) (Q : Exit → Act → World → Prop) (md : Region.Mode) (T : List Nat) (m : Nat) : Prop where
  sel : Region.noSelect ops = true
  anc : ancB md ops [m] T = true
  pan : ∀ c a d v w, Q (.panic c) (Act.put a d v) w → Q (.panic c) a w
/-- The region, behind those that are done. -/
def WA (P : Program) (md : Region.Mode) (ops : Array Oper) (Q : Exit → Act → World → Prop) (S : World → Prop) (m fuel : Nat) (done : List Nat) (a : Act) (w : World) : Prop :=
  closedL md ops (mkL ops.size done) → S w → wpAnyL P md ops Q S m fuel (mkL ops.size done) a w
/-- The readers that come next. -/
theorem WA.seg (R : RegOk ops Q md T m) {fuel : Nat} (fuel' : Nat) {done : List Nat} (seg : List Nat) {a : Act} {w : World} (hf : fuel = seg.length + fuel')
    (hB : (match schedQF md ops T m seg (mkL ops.size done) with
      | some l => l == mkL ops.size (done ++ seg)
      | none => false) = true)
    (h : wpQuiet P ops S (fun a' => WA P md ops Q S m fuel' (done ++ seg) a' w) (opsAt ops seg) a) : WA P md ops Q S m fuel done a w := by
  intro hcl hS
  subst hf
  split at hB
  · rename_i l hl
    have e : l = mkL ops.size (done ++ seg) := by simpa using hB
    subst e
    exact segF_ok R.anc R.sel R.pan hS (fun hcl' a' hk => hk hcl' hS) seg _ a hcl hl h
  · cases hB
/-- An operation that asks no memory may come at any time. -/
theorem wpAnyL_firstP {m i : Nat} {oi : Oper} {v : Value} (hi : ops[i]? = some oi) (hsel : ∀ (j : Nat) (o : Oper) cs b, ops[j]? = some o → o.op ≠ .select cs b)
    (hQ : ∀ c a w, Q (.panic c) (a.put oi.dst v) w → Q (.panic c) a w) (him : i ≠ m) :
    ∀ (fuel : Nat) (listed : Array Bool) (a : Act) (w : World),
      (∀ j oj, ops[j]? = some oj → j ≠ i → listed.getD j true = false → (∀ e ∈ oj.after, Region.binds md e = true → e.on ≠ i) → oi.apart ops oj = true) →
      i ∈ Region.ready md ops listed → YieldsIf P ops (fun _ => True) oi v a → (listed.getD m true = true ∨ S w) →
      wpAnyL P md ops Q S m fuel (listed.setIfInBounds i true) (a.put oi.dst v) w → wpAnyL P md ops Q S m (fuel + 1) listed a w := by
  intro fuel
  induction fuel with
  | zero =>
    intro listed a w _ hr hy hS H
    refine ⟨fun h => (by rw [h] at hr; cases hr), fun j hj => ?_⟩
    by_cases hji : j = i
    · subst hji
      exact hy.wpOp hi trivial ⟨by rw [getD_set_ne true him]; exact hS, H⟩
    · have := ready_mono hj hji
      rw [H.1] at this
      cases this
  | succ fuel ih =>
    intro listed a w hfree hr hy hS H
    refine ⟨fun h => (by rw [h] at hr; cases hr), fun j hj => ?_⟩
    by_cases hji : j = i
    · subst hji
      exact hy.wpOp hi trivial ⟨by rw [getD_set_ne true him]; exact hS, H⟩
    · have h1 := H.2 j (ready_mono hj hji)
      obtain ⟨hjun, oj, hoj, hall⟩ := mem_ready.1 hj
      have hiun := (mem_ready.1 hr).1
      have hnot : ∀ e ∈ oj.after, Region.binds md e = true → e.on ≠ i := fun e he hb heq => by
        have h1 := getD_tf (hall e he hb)
        rw [heq, hiun] at h1
        cases h1
      have h2 := wpOp_putIf hoj (hfree j oj hoj hji hjun hnot) (fun cs b => hsel i oi cs b hi) (fun cs b => hsel j oj cs b hoj) hQ hy h1
      have hfree' : ∀ k ok, ops[k]? = some ok → k ≠ i → (listed.setIfInBounds j true).getD k true = false →
          (∀ e ∈ ok.after, Region.binds md e = true → e.on ≠ i) → oi.apart ops ok = true := fun k ok hk hki hun hno => by
        refine hfree k ok hk hki ?_ hno
        by_cases hjk : j = k
        · subst hjk; exact hjun
        · rw [getD_set_ne true hjk] at hun; exact hun
      have hSw : ∀ w', ((listed.setIfInBounds i true).setIfInBounds j true).getD m true = true ∨ S w' → (listed.setIfInBounds j true).getD m true = true ∨ S w' := fun w' h => by
        rcases h with h | h
        · left
          rw [Array.setIfInBounds_comm _ _ (Ne.symm hji), getD_set_ne true him] at h
          exact h
        · exact .inr h
      refine wpOp_mono (fun a' w' h3 => ⟨hSw w' h3.2.1, ih (listed.setIfInBounds j true) a' w' hfree' (ready_mono hr (Ne.symm hji)) h3.1 (hSw w' h3.2.1) ?_⟩) h2
      rw [Array.setIfInBounds_comm _ _ hji]
      exact h3.2.2
/-- A world, whatever one. -/
structure AnyW where mk ::
  val : World
def schedQP (md : Region.Mode) (ops : Array Oper) (m : Nat) : List Nat → Array Bool → Option (Array Bool)
  | [], listed => some listed
  | i :: r, listed => if (Region.ready md ops listed).contains i && Region.free md ops listed i && ((ops[i]?).map plainB).getD false && i != m then schedQP md ops m r (listed.setIfInBounds i true) else none
theorem segP_ok {m : Nat} (hs : Region.noSelect ops = true) (hQ : ∀ c a d v w, Q (.panic c) (Act.put a d v) w → Q (.panic c) a w) {w : World} {G : Act → Prop} {fuel : Nat} {l : Array Bool}
    (hG : closedL md ops l → ∀ a, G a → wpAnyL P md ops Q S m fuel l a w) : ∀ (seg : List Nat) (listed : Array Bool) (a : Act), closedL md ops listed → (listed.getD m true = true ∨ S w) → schedQP md ops m seg listed = some l → wpQuiet P ops (fun _ => True) G (opsAt ops seg) a → wpAnyL P md ops Q S m (seg.length + fuel) listed a w
  | [], listed, a, hcl, hS, hB, h => by
    simp [schedQP] at hB
    subst hB
    simpa using hG hcl _ h
  | i :: r, listed, a, hcl, hS, hB, h => by
    unfold schedQP at hB
    split at hB
    · rename_i hc
      simp only [Bool.and_eq_true] at hc
      obtain ⟨⟨⟨hr, hf⟩, hp⟩, him⟩ := hc
      cases hoi : ops[i]? with
      | none => rw [hoi] at hp; simp at hp
      | some o =>
        rw [hoi] at hp
        have hp : plainB o = true := by simpa using hp
        have e : opsAt ops (i :: r) = o :: opsAt ops r := by rw [opsAt_cons, hoi]; rfl
        rw [e] at h
        have key : ∃ v, YieldsIf P ops (fun _ => True) o v a ∧ wpQuiet P ops (fun _ => True) G (opsAt ops r) (a.put o.dst v) := by
          unfold wpQuiet at h
          split at h
          · rename_i hw; exact yields_of_quiet hw hp ⟨w, trivial⟩ h
          · rename_i hw; exact ⟨undef, .inr ⟨by simpa using hw, rfl⟩, h⟩
        obtain ⟨v, hy, hk⟩ := key
        have hr' : i ∈ Region.ready md ops listed := by simpa using hr
        have him' : i ≠ m := by simpa using him
        have := wpAnyL_firstP (fuel := r.length + fuel) hoi (Region.noSelect_spec hs) (fun c a' w' => hQ c a' o.dst v w') him' listed a w (Region.free_spec hoi hf) hr' hy hS
          (segP_ok hs hQ hG r _ _ (hcl.step hr') (by rw [getD_set_ne true him']; exact hS) hB hk)
        simpa [Nat.add_assoc, Nat.add_comm 1] using this
    · cases hB
/-- Those that ask no memory. -/
theorem WA.segP (R : RegOk ops Q md T m) {fuel : Nat} (fuel' : Nat) {done : List Nat} (seg : List Nat) {a : Act} {w : World} (hf : fuel = seg.length + fuel')
    (hB : (match schedQP md ops m seg (mkL ops.size done) with
      | some l => l == mkL ops.size (done ++ seg)
      | none => false) = true)
    (h : wpQuiet P ops (fun w' => ∃ x : AnyW, w' = x.val) (fun a' => WA P md ops Q S m fuel' (done ++ seg) a' w) (opsAt ops seg) a) : WA P md ops Q S m fuel done a w := by
  intro hcl hS
  subst hf
  have e0 : (fun w' => ∃ x : AnyW, w' = x.val) = (fun _ : World => True) := by funext w'; exact propext ⟨fun _ => trivial, fun _ => ⟨⟨w'⟩, rfl⟩⟩
  rw [e0] at h
  split at hB
  · rename_i l hl
    have e : l = mkL ops.size (done ++ seg) := by simpa using hB
    subst e
    exact segP_ok R.sel R.pan (fun hcl' a' hk => hk hcl' hS) seg _ a hcl (.inr hS) hl h
  · cases hB
/-- The effects that may come next: each. -/
theorem WA.branch (R : RegOk ops Q md T m) {fuel : Nat} (fuel' : Nat) {done : List Nat} (l : List Nat) {a : Act} {w : World} (hf : fuel = fuel' + 1) (hr : (Region.ready md ops (mkL ops.size done) == l && !l.isEmpty) = true)
    (h : ∀ i ∈ l, ∃ o, ops[i]? = some o ∧ wpList P ops (afterE S (fun a' w' => WA P md ops Q S m fuel' (done ++ [i]) a' w') Q) [o] a w) : WA P md ops Q S m fuel done a w := by
  intro hcl hS
  subst hf
  simp only [Bool.and_eq_true, beq_iff_eq, Bool.not_eq_true', List.isEmpty_eq_false_iff] at hr
  refine ⟨fun h0 => absurd (hr.1.symm.trans h0) hr.2, fun j hj => ?_⟩
  have hj' : j ∈ l := by rw [← hr.1]; exact hj
  obtain ⟨o, ho, hw⟩ := h j hj'
  refine wpOp_mono (fun a' w' hk => ?_) (op_of_afterE ho hw)
  have e : mkL ops.size (done ++ [j]) = (mkL ops.size done).setIfInBounds j true := by rw [mkL_append]; rfl
  have hk2 := hk.2
  unfold WA at hk2
  rw [e] at hk2
  exact ⟨.inr hk.1, hk2 (hcl.step hj) hk.1⟩
theorem opsAt_one {ops : Array Oper} {i : Nat} (h : (ops[i]?).isSome = true) : ∃ o, ops[i]? = some o ∧ opsAt ops [i] = [o] := by
  obtain ⟨o, ho⟩ := Option.isSome_iff_exists.1 h
  exact ⟨o, ho, by rw [opsAt_cons, ho, consO_some, opsAt_nil]⟩
theorem WA.one (R : RegOk ops Q md T m) {fuel : Nat} (fuel' : Nat) {done : List Nat} (i : Nat) {a : Act} {w : World} (hf : fuel = fuel' + 1) (hr : (Region.ready md ops (mkL ops.size done) == [i] && ![i].isEmpty && (ops[i]?).isSome) = true)
    (h : wpList P ops (afterE S (fun a' w' => WA P md ops Q S m fuel' (done ++ [i]) a' w') Q) (opsAt ops [i]) a w) : WA P md ops Q S m fuel done a w := by
  rw [Bool.and_eq_true] at hr
  obtain ⟨o, ho, e⟩ := opsAt_one hr.2
  rw [e] at h
  exact WA.branch R fuel' [i] hf hr.1 fun j hj => by
    obtain rfl : j = i := by simpa using hj
    exact ⟨o, ho, h⟩
theorem WA.two (R : RegOk ops Q md T m) {fuel : Nat} (fuel' : Nat) {done : List Nat} (i k : Nat) {a : Act} {w : World} (hf : fuel = fuel' + 1) (hr : (Region.ready md ops (mkL ops.size done) == [i, k] && ![i, k].isEmpty && (ops[i]?).isSome && (ops[k]?).isSome) = true)
    (h : wpList P ops (afterE S (fun a' w' => WA P md ops Q S m fuel' (done ++ [i]) a' w') Q) (opsAt ops [i]) a w)
    (hk : wpList P ops (afterE S (fun a' w' => WA P md ops Q S m fuel' (done ++ [k]) a' w') Q) (opsAt ops [k]) a w) : WA P md ops Q S m fuel done a w := by
  rw [Bool.and_eq_true, Bool.and_eq_true] at hr
  obtain ⟨o, ho, e⟩ := opsAt_one hr.1.2
  obtain ⟨o2, ho2, e2⟩ := opsAt_one hr.2
  rw [e] at h
  rw [e2] at hk
  exact WA.branch R fuel' [i, k] hf hr.1.1 fun j hj => by
    have hj' : j = i ∨ j = k := by simpa using hj
    rcases hj' with rfl | rfl
    · exact ⟨o, ho, h⟩
    · exact ⟨o2, ho2, hk⟩
/-- The last effect. -/
theorem WA.fin {done : List Nat} {a : Act} {w : World} (hr : (Region.ready md ops (mkL ops.size done) == [m] && (Region.ready md ops ((mkL ops.size done).setIfInBounds m true)).isEmpty && (ops[m]?).isSome) = true)
    (h : wpList P ops Q (opsAt ops [m]) a w) : WA P md ops Q S m 1 done a w := by
  intro hcl hS
  rw [Bool.and_eq_true] at hr
  obtain ⟨om, hom, e⟩ := opsAt_one hr.2
  rw [e] at h
  have hr := hr.1
  simp only [Bool.and_eq_true, beq_iff_eq] at hr
  refine ⟨fun h0 => (by rw [hr.1] at h0; cases h0), fun j hj => ?_⟩
  rw [hr.1] at hj
  obtain rfl : j = m := by simpa using hj
  exact opF hom (fun a'' w'' hk => ⟨.inl getD_self, by simpa using hr.2, hk⟩) h
/-- The region, behind the effect that turns what the readers read. -/
def WB (P : Program) (md : Region.Mode) (ops : Array Oper) (Q : Exit → Act → World → Prop) (S : World → Prop) (m fuel : Nat) (done : List Nat) (a : Act) (w : World) : Prop :=
  closedL md ops (mkL ops.size done) → (mkL ops.size done).getD m true = true → wpAnyL P md ops Q S m fuel (mkL ops.size done) a w
theorem WA.mid {fuel : Nat} (fuel' : Nat) {done : List Nat} {a : Act} {w : World} (hf : fuel = fuel' + 1) (hr : (Region.ready md ops (mkL ops.size done) == [m] && (ops[m]?).isSome) = true)
    (h : wpList P ops (afterE (fun _ => True) (fun a' w' => WB P md ops Q S m fuel' (done ++ [m]) a' w') Q) (opsAt ops [m]) a w) : WA P md ops Q S m fuel done a w := by
  intro hcl hS
  subst hf
  rw [Bool.and_eq_true] at hr
  obtain ⟨o, ho, e⟩ := opsAt_one hr.2
  rw [e] at h
  have hr : Region.ready md ops (mkL ops.size done) = [m] := by simpa using hr.1
  refine ⟨fun h0 => (by rw [hr] at h0; cases h0), fun j hj => ?_⟩
  have hj' := hj
  rw [hr] at hj
  obtain rfl : j = m := by simpa using hj
  refine wpOp_mono (fun a' w' hk => ?_) (op_of_afterE ho h)
  have e : mkL ops.size (done ++ [j]) = (mkL ops.size done).setIfInBounds j true := by rw [mkL_append]; rfl
  have hk2 := hk.2
  unfold WB at hk2
  rw [e] at hk2
  exact ⟨.inl getD_self, hk2 (hcl.step hj') getD_self⟩
theorem WB.one {fuel : Nat} (fuel' : Nat) {done : List Nat} (i : Nat) {a : Act} {w : World} (hf : fuel = fuel' + 1) (hr : (Region.ready md ops (mkL ops.size done) == [i] && (ops[i]?).isSome) = true)
    (h : wpList P ops (afterE (fun _ => True) (fun a' w' => WB P md ops Q S m fuel' (done ++ [i]) a' w') Q) (opsAt ops [i]) a w) : WB P md ops Q S m fuel done a w := by
  intro hcl hm
  subst hf
  rw [Bool.and_eq_true] at hr
  obtain ⟨o, ho, e⟩ := opsAt_one hr.2
  rw [e] at h
  have hr : Region.ready md ops (mkL ops.size done) = [i] := by simpa using hr.1
  refine ⟨fun h0 => (by rw [hr] at h0; cases h0), fun j hj => ?_⟩
  have hj' := hj
  rw [hr] at hj
  obtain rfl : j = i := by simpa using hj
  refine wpOp_mono (fun a' w' hk => ?_) (op_of_afterE ho h)
  have e : mkL ops.size (done ++ [j]) = (mkL ops.size done).setIfInBounds j true := by rw [mkL_append]; rfl
  have hk2 := hk.2
  unfold WB at hk2
  rw [e] at hk2
  exact ⟨.inl (getD_up hm), hk2 (hcl.step hj') (getD_up hm)⟩
theorem WB.done_ {done : List Nat} {a : Act} {w : World} (hr : (Region.ready md ops (mkL ops.size done)).isEmpty = true) (h : Q .normal a w) : WB P md ops Q S m 0 done a w := fun _ _ => ⟨by simpa using hr, h⟩
/-- The same operations, in another order. -/
theorem WA.same {fuel : Nat} {done : List Nat} (done' : List Nat) {a : Act} {w : World} (he : (mkL ops.size done == mkL ops.size done') = true) (h : WA P md ops Q S m fuel done' a w) : WA P md ops Q S m fuel done a w := by
  have e : mkL ops.size done = mkL ops.size done' := by simpa using he
  unfold WA at h ⊢
  rw [e]
  exact h
/-- **The region.** -/
theorem region_tree {id : Nat} {a : Act} {w : World} {l : List Oper} (m : Nat) (T : List Nat) (hm : P.follows .mixedOrders = true) (S : World → Prop) (hB : (Region.noSelect l.toArray && ancB .any l.toArray [m] T) = true)
    (hQ : ∀ c a d v w, Q (.panic c) (Act.put a d v) w → Q (.panic c) a w) (hS : S w.drew)
    (h : RegOk l.toArray Q .any T m → WA P .any l.toArray Q S m l.length [] a w.drew) : (Code.region id l.toArray true).wp P Q a w := by
  simp only [Bool.and_eq_true] at hB
  refine wp_region_any hm (wpAny_of_L (S := S) (m := m) _ _ _ _ ?_)
  have hcl : closedL .any l.toArray (Array.replicate l.length false) := fun j o hj hl e he hb => by
    have hjl : j < l.length := by simpa using (Array.getElem?_eq_some_iff.1 hj).1
    rw [Array.getD] at hl
    simp [hjl] at hl
  have := h ⟨hB.1, hB.2, hQ⟩
  unfold WA mkL at this
  simpa using this (by simpa using hcl) hS
end
end Go.Proofs.Ythpilbooolgkiaa
