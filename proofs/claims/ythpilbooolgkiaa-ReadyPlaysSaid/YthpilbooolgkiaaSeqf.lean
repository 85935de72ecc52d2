/- A region that draws its order and ends in an effect that turns what the others read: as Seq, but the class of worlds needs not hold behind that effect. -/
import Derived.Test.YthpilbooolgkiaaSeq
set_option linter.unusedVariables false
set_option linter.unusedSimpArgs false
namespace Go.Proofs.Ythpilbooolgkiaa
open Go.RowKit

section
variable {P : Program} {ops : Array Oper} {S : World → Prop} {Q : Exit → Act → World → Prop} {md : Region.Mode}

/-- What has come up has not come up ahead of what it waits for. -/
def closedL (md : Region.Mode) (ops : Array Oper) (listed : Array Bool) : Prop := ∀ j o, ops[j]? = some o → listed.getD j true = true → ∀ e ∈ o.after, Region.binds md e = true → listed.getD e.on true = true
theorem getD_up {listed : Array Bool} {i j : Nat} (h : listed.getD j true = true) : (listed.setIfInBounds i true).getD j true = true := by
  by_cases e : i = j
  · subst e
    simp [Array.getD]
  · rw [getD_set_ne true e]
    exact h
theorem getD_self {listed : Array Bool} {i : Nat} : (listed.setIfInBounds i true).getD i true = true := by simp [Array.getD]
theorem getD_tf {listed : Array Bool} {i : Nat} (h : listed.getD i false = true) : listed.getD i true = true := by
  unfold Array.getD at *
  split at h
  · rename_i hlt
    simpa [hlt] using h
  · cases h
theorem closedL.step {listed : Array Bool} {i : Nat} (h : closedL md ops listed) (hi : i ∈ Region.ready md ops listed) : closedL md ops (listed.setIfInBounds i true) := by
  intro j o hj hl e he hb
  obtain ⟨_, oi, hoi, hall⟩ := mem_ready.1 hi
  by_cases hji : i = j
  · subst hji
    rw [hoi] at hj
    cases hj
    exact getD_up (getD_tf (hall e he hb))
  · rw [getD_set_ne true hji] at hl
    exact getD_up (h j o hj hl e he hb)
/-- The chain by which the last effect waits for all others. -/
def ancB (md : Region.Mode) (ops : Array Oper) : List Nat → List Nat → Bool
  | _, [] => true
  | done, j :: r => (done.any fun p => match ops[p]? with
      | some o => o.after.any fun e => Region.binds md e && e.on == j
      | none => false) && ancB md ops (j :: done) r
theorem anc_ok {listed : Array Bool} (h : closedL md ops listed) : ∀ (todo done : List Nat), (∀ p ∈ done, listed.getD p true = true) → ancB md ops done todo = true → ∀ j ∈ todo, listed.getD j true = true
  | [], _, _, _, j, hj => by cases hj
  | x :: r, done, hd, hB, j, hj => by
    unfold ancB at hB
    rw [Bool.and_eq_true] at hB
    have hx : listed.getD x true = true := by
      obtain ⟨p, hp, hq⟩ := List.any_eq_true.1 hB.1
      cases hop : ops[p]? with
      | none => rw [hop] at hq; cases hq
      | some o =>
        rw [hop] at hq
        obtain ⟨e, he, hb⟩ := Array.any_eq_true'.1 hq
        rw [Bool.and_eq_true, beq_iff_eq] at hb
        rw [← hb.2]
        exact h p o hop (hd p hp) e he hb.1
    rcases List.mem_cons.1 hj with rfl | hj
    · exact hx
    · exact anc_ok h r (x :: done) (fun p hp => by
        rcases List.mem_cons.1 hp with rfl | hp
        · exact hx
        · exact hd p hp) hB.2 j hj

/-- Whatever order is picked; S holds behind every operation but number m. -/
def wpAnyL (P : Program) (md : Region.Mode) (ops : Array Oper) (Q : Exit → Act → World → Prop) (S : World → Prop) (m : Nat) : Nat → Array Bool → Act → World → Prop
  | 0, listed, a, w => Region.ready md ops listed = [] ∧ Q .normal a w
  | fuel + 1, listed, a, w =>
    (Region.ready md ops listed = [] → Q .normal a w) ∧
    ∀ i ∈ Region.ready md ops listed, wpOp P ops Q i (fun a' w' => ((listed.setIfInBounds i true).getD m true = true ∨ S w') ∧ wpAnyL P md ops Q S m fuel (listed.setIfInBounds i true) a' w') a w
theorem wpAny_of_L {m : Nat} : ∀ (fuel : Nat) (listed : Array Bool) (a : Act) (w : World), wpAnyL P md ops Q S m fuel listed a w → wpAny P md ops Q fuel listed a w
  | 0, _, _, _, h => h
  | fuel + 1, _, _, _, h => ⟨h.1, fun i hi => wpOp_mono (fun a' w' h' => wpAny_of_L fuel _ a' w' h'.2) (h.2 i hi)⟩
theorem wpAnyL_first {m i : Nat} {oi : Oper} {v : Value} (hi : ops[i]? = some oi) (hsel : ∀ (j : Nat) (o : Oper) cs b, ops[j]? = some o → o.op ≠ .select cs b)
    (hQ : ∀ c a w, Q (.panic c) (a.put oi.dst v) w → Q (.panic c) a w) (him : i ≠ m) (hanc : ∀ l, closedL md ops l → l.getD m true = true → l.getD i true = true) :
    ∀ (fuel : Nat) (listed : Array Bool) (a : Act) (w : World), closedL md ops listed →
      (∀ j oj, ops[j]? = some oj → j ≠ i → listed.getD j true = false → (∀ e ∈ oj.after, Region.binds md e = true → e.on ≠ i) → oi.apart ops oj = true) →
      i ∈ Region.ready md ops listed → YieldsIf P ops S oi v a → S w →
      wpAnyL P md ops Q S m fuel (listed.setIfInBounds i true) (a.put oi.dst v) w → wpAnyL P md ops Q S m (fuel + 1) listed a w := by
  intro fuel
  induction fuel with
  | zero =>
    intro listed a w hcl _ hr hy hS H
    refine ⟨fun h => (by rw [h] at hr; cases hr), fun j hj => ?_⟩
    by_cases hji : j = i
    · subst hji; exact hy.wpOp hi hS ⟨.inr hS, H⟩
    · have := ready_mono hj hji
      rw [H.1] at this
      cases this
  | succ fuel ih =>
    intro listed a w hcl hfree hr hy hS H
    refine ⟨fun h => (by rw [h] at hr; cases hr), fun j hj => ?_⟩
    by_cases hji : j = i
    · subst hji; exact hy.wpOp hi hS ⟨.inr hS, H⟩
    · have h1 := H.2 j (ready_mono hj hji)
      obtain ⟨hjun, oj, hoj, hall⟩ := mem_ready.1 hj
      have hiun := (mem_ready.1 hr).1
      have hnot : ∀ e ∈ oj.after, Region.binds md e = true → e.on ≠ i := fun e he hb heq => by
        have h1 := getD_tf (hall e he hb)
        rw [heq, hiun] at h1
        cases h1
      have h2 := wpOp_putIf hoj (hfree j oj hoj hji hjun hnot) (fun cs b => hsel i oi cs b hi) (fun cs b => hsel j oj cs b hoj) hQ hy h1
      have hcl' := hcl.step hj
      have hfree' : ∀ k ok, ops[k]? = some ok → k ≠ i → (listed.setIfInBounds j true).getD k true = false →
          (∀ e ∈ ok.after, Region.binds md e = true → e.on ≠ i) → oi.apart ops ok = true := fun k ok hk hki hun hno => by
        refine hfree k ok hk hki ?_ hno
        by_cases hjk : j = k
        · subst hjk; exact hjun
        · rw [getD_set_ne true hjk] at hun; exact hun
      have hSw : ∀ w', ((listed.setIfInBounds i true).setIfInBounds j true).getD m true = true ∨ S w' → S w' := fun w' h => by
        rcases h with h | h
        · exfalso
          have h3 : (listed.setIfInBounds j true).getD m true = true := by
            rw [Array.setIfInBounds_comm _ _ (Ne.symm hji), getD_set_ne true him] at h
            exact h
          have h4 := hanc _ hcl' h3
          rw [getD_set_ne true hji, hiun] at h4
          cases h4
        · exact h
      refine wpOp_mono (fun a' w' h3 => ⟨.inr (hSw w' h3.2.1), ih (listed.setIfInBounds j true) a' w' hcl' hfree' (ready_mono hr (Ne.symm hji)) h3.1 (hSw w' h3.2.1) ?_⟩) h2
      rw [Array.setIfInBounds_comm _ _ hji]
      exact h3.2.2
/-- The walk: pieces that only read, an effect behind each; a last piece, and the last effect. -/
def wpSF (P : Program) (ops : Array Oper) (S : World → Prop) (Q : Exit → Act → World → Prop) : List (List Oper × Oper) → List Oper × Oper → Act → World → Prop
  | [], fin, a, w => wpQuiet P ops S (fun a' => wpList P ops Q [fin.2] a' w) fin.1 a
  | (seg, o) :: r, fin, a, w => wpQuiet P ops S (fun a' => wpList P ops (afterE S (wpSF P ops S Q r fin) Q) [o] a' w) seg a
theorem wpSF_seg {seg : List Oper} {fin : List Oper × Oper} {o : Oper} {r : List (List Oper × Oper)} {a : Act} {w : World} (h : wpQuiet P ops S (fun a' => wpList P ops (afterE S (wpSF P ops S Q r fin) Q) [o] a' w) seg a) : wpSF P ops S Q ((seg, o) :: r) fin a w := h
theorem wpSF_fin {seg : List Oper} {o : Oper} {a : Act} {w : World} (h : wpQuiet P ops S (fun a' => wpList P ops Q [o] a' w) seg a) : wpSF P ops S Q [] (seg, o) a w := h
def schedQF (md : Region.Mode) (ops : Array Oper) (T : List Nat) (m : Nat) : List Nat → Array Bool → Option (Array Bool)
  | [], listed => some listed
  | i :: r, listed => if (Region.ready md ops listed).contains i && Region.free md ops listed i && ((ops[i]?).map plainB).getD false && T.contains i && i != m then schedQF md ops T m r (listed.setIfInBounds i true) else none
def schedF (md : Region.Mode) (ops : Array Oper) (T : List Nat) (m : Nat) : List (List Nat × Nat) → List Nat → Array Bool → Bool
  | [], seg, listed => match schedQF md ops T m seg listed with
    | some l => Region.ready md ops l == [m] && (Region.ready md ops (l.setIfInBounds m true)).isEmpty
    | none => false
  | (s, i) :: r, seg, listed => match schedQF md ops T m s listed with
    | some l => (Region.ready md ops l == [i]) && schedF md ops T m r seg (l.setIfInBounds i true)
    | none => false
theorem segF_ok {T : List Nat} {m : Nat} (hA : ancB md ops [m] T = true) (hs : Region.noSelect ops = true) (hQ : ∀ c a d v w, Q (.panic c) (Act.put a d v) w → Q (.panic c) a w) {w : World} (hS : S w) {G : Act → Prop} {fuel : Nat} {l : Array Bool}
    (hG : closedL md ops l → ∀ a, G a → wpAnyL P md ops Q S m fuel l a w) : ∀ (seg : List Nat) (listed : Array Bool) (a : Act), closedL md ops listed → schedQF md ops T m seg listed = some l → wpQuiet P ops S G (opsAt ops seg) a → wpAnyL P md ops Q S m (seg.length + fuel) listed a w
  | [], listed, a, hcl, hB, h => by
    simp [schedQF] at hB
    subst hB
    simpa using hG hcl _ h
  | i :: r, listed, a, hcl, hB, h => by
    unfold schedQF at hB
    split at hB
    · rename_i hc
      simp only [Bool.and_eq_true] at hc
      obtain ⟨⟨⟨⟨hr, hf⟩, hp⟩, hT⟩, him⟩ := hc
      cases hoi : ops[i]? with
      | none => rw [hoi] at hp; simp at hp
      | some o =>
        rw [hoi] at hp
        have hp : plainB o = true := by simpa using hp
        have e : opsAt ops (i :: r) = o :: opsAt ops r := by rw [opsAt_cons, hoi]; rfl
        rw [e] at h
        have key : ∃ v, YieldsIf P ops S o v a ∧ wpQuiet P ops S G (opsAt ops r) (a.put o.dst v) := by
          unfold wpQuiet at h
          split at h
          · rename_i hw; exact yields_of_quiet hw hp ⟨w, hS⟩ h
          · rename_i hw; exact ⟨undef, .inr ⟨by simpa using hw, rfl⟩, h⟩
        obtain ⟨v, hy, hk⟩ := key
        have hr' : i ∈ Region.ready md ops listed := by simpa using hr
        have := wpAnyL_first (fuel := r.length + fuel) hoi (Region.noSelect_spec hs) (fun c a' w' => hQ c a' o.dst v w') (by simpa using him)
          (fun l' hl' hm' => anc_ok hl' T [m] (fun p hp => by
            have e : p = m := by simpa using hp
            rw [e]; exact hm') hA i (by simpa using hT)) listed a w hcl (Region.free_spec hoi hf) hr' hy hS
          (segF_ok hA hs hQ hS hG r _ _ (hcl.step hr') hB hk)
        simpa [Nat.add_assoc, Nat.add_comm 1] using this
    · cases hB
theorem opF {o : Oper} {i : Nat} {K : Act → World → Prop} {a : Act} {w : World} (hi : ops[i]? = some o) (hK : ∀ a' w', Q .normal a' w' → K a' w') (h : wpList P ops Q [o] a w) : wpOp P ops Q i K a w := by
  unfold wpOp
  simp only [hi]
  unfold wpList at h
  split
  · rename_i hw
    rw [if_pos hw] at h
    rcases h with h | ⟨h1, a', w', h2⟩
    · refine .inl ?_
      unfold Oper.wp at *
      generalize (execOp a.eval o).run P w = r at *
      cases r with
      | ok n w' =>
        cases n <;> simp only [Oper.upon] at h ⊢
        case value u => exact hK _ _ h
        case skip => exact hK _ _ h
        case defer d => exact hK _ _ h
        case enter f args =>
          refine Calls.mono h fun e w'' he => ?_
          cases e with
          | returned u => exact hK _ _ he
          | panicked c => exact he
          | outgrown => exact he
        case row row args => exact Rows.mono h fun u w'' he => hK _ _ he
      | halt x w' => cases x <;> simp only [Oper.upon] at h ⊢ <;> exact h
    · exact .inr ⟨h1, a', w', h2⟩
  · rename_i hw
    rw [if_neg hw] at h
    exact hK _ _ h
theorem wpSF_any {T : List Nat} {m : Nat} {om : Oper} (hom : ops[m]? = some om) (hA : ancB md ops [m] T = true) (hs : Region.noSelect ops = true) (hQ : ∀ c a d v w, Q (.panic c) (Act.put a d v) w → Q (.panic c) a w) (seg : List Nat) : ∀ (segs : List (List Nat × Nat)) (listed : Array Bool) (a : Act) (w : World), closedL md ops listed → S w →
    schedF md ops T m segs seg listed = true → wpSF P ops S Q (segsAt ops segs) (opsAt ops seg, om) a w → ∃ fuel, fuel = (segs.map fun x => x.1.length + 1).sum + (seg.length + 1) ∧ wpAnyL P md ops Q S m fuel listed a w
  | [], listed, a, w, hcl, hS, hB, h => by
    unfold schedF at hB
    split at hB
    · rename_i l hl
      simp only [Bool.and_eq_true, beq_iff_eq] at hB
      refine ⟨_, rfl, ?_⟩
      have := segF_ok (fuel := 1) hA hs hQ hS (l := l) (G := fun a' => wpList P ops Q [om] a' w) (fun _ a' hq => ⟨fun h0 => (by rw [hB.1] at h0; cases h0), fun j hj => by
        rw [hB.1] at hj
        obtain rfl : j = m := by simpa using hj
        exact opF hom (fun a'' w'' hk => ⟨.inl getD_self, by simpa using hB.2, hk⟩) hq⟩) seg listed a hcl hl (by simpa [wpSF, segsAt_nil] using h)
      simpa using this
    · cases hB
  | (s, i) :: r, listed, a, w, hcl, hS, hB, h => by
    unfold schedF at hB
    split at hB
    · rename_i l hl
      simp only [Bool.and_eq_true, beq_iff_eq] at hB
      obtain ⟨hr, hB⟩ := hB
      have hil : i ∈ Region.ready md ops l := by rw [hr]; simp
      cases hoi : ops[i]? with
      | none =>
        exfalso
        obtain ⟨_, o, ho, _⟩ := mem_ready.1 hil
        rw [hoi] at ho
        cases ho
      | some o =>
        rw [segsAt_cons, hoi, pairO_some, consO_some] at h
        unfold wpSF at h
        refine ⟨_, rfl, ?_⟩
        have := segF_ok (fuel := ((r.map fun x => x.1.length + 1).sum + (seg.length + 1)) + 1) hA hs hQ hS (l := l) (fun hcl' a' hq => ⟨fun h0 => (by rw [hr] at h0; cases h0), fun j hj => by
          rw [hr] at hj
          obtain rfl : j = i := by simpa using hj
          exact wpOp_mono (fun a'' w'' hk => by
            obtain ⟨hS', hk⟩ := hk
            obtain ⟨fuel, rfl, hf⟩ := wpSF_any hom hA hs hQ seg r _ a'' w'' (hcl'.step hil) hS' hB hk
            exact ⟨.inr hS', hf⟩) (op_of_afterE hoi hq)⟩) s listed a hcl hl h
        simp only [List.map_cons, List.sum_cons]
        have e : s.length + ((r.map fun x => x.1.length + 1).sum + (seg.length + 1) + 1) = s.length + 1 + (r.map fun x => x.1.length + 1).sum + (seg.length + 1) := by omega
        rw [e] at this
        exact this
    · cases hB
/-- **The region.** segs, seg, m: the schedule by numbers; T: the chain by which m waits for all that read. -/
theorem region_seqF {id : Nat} {a : Act} {w : World} {l : List Oper} (segs : List (List Nat × Nat)) (seg : List Nat) (m : Nat) (T : List Nat) (om : Oper) (hm : P.follows .mixedOrders = true) (S : World → Prop) (hom : l.toArray[m]? = some om)
    (hB : (Region.noSelect l.toArray && schedF .any l.toArray T m segs seg (Array.replicate l.length false) && ancB .any l.toArray [m] T && decide ((segs.map fun x => x.1.length + 1).sum + (seg.length + 1) = l.length)) = true)
    (hQ : ∀ c a d v w, Q (.panic c) (Act.put a d v) w → Q (.panic c) a w) (hS : S w.drew)
    (h : wpSF P l.toArray S Q (segsAt l.toArray segs) (opsAt l.toArray seg, om) a w.drew) : (Code.region id l.toArray true).wp P Q a w := by
  simp only [Bool.and_eq_true, decide_eq_true_eq] at hB
  obtain ⟨⟨⟨h1, h2⟩, h4⟩, h3⟩ := hB
  refine wp_region_any hm (wpAny_of_L (S := S) (m := m) _ _ _ _ ?_)
  have hcl : closedL .any l.toArray (Array.replicate l.length false) := fun j o hj hl e he hb => by
    have hjl : j < l.length := by simpa using (Array.getElem?_eq_some_iff.1 hj).1
    rw [Array.getD] at hl
    simp [hjl] at hl
  obtain ⟨fuel, rfl, hf⟩ := wpSF_any (md := .any) hom h4 h1 hQ seg segs _ a w.drew hcl hS h2 h
  rw [h3] at hf
  have e : l.toArray.size = l.length := by simp
  rw [e]
  exact hf
end
end Go.Proofs.Ythpilbooolgkiaa
