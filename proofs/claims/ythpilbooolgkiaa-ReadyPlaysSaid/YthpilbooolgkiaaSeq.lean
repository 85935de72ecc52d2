/- A region that draws its order, whose effects (calls, new memory, stores) wait for one another: walked once, in a schedule: what only reads is shown in every world of a class, effects are walked as they come. -/
import Derived.Test.YthpilbooolgkiaaBase
import Derived.OrdersHeld
import Derived.BigQuiet
set_option linter.unusedVariables false
set_option linter.unusedSimpArgs false
namespace Go.Proofs.Ythpilbooolgkiaa
open Go.RowKit

/-- An operation that leaves a value and turns nothing, if it ends. -/
def plainB (o : Oper) : Bool := match o.op with
  | .move _ | .assign _ | .load .. | .binOp .. | .unOp .. | .convert .. | .slice .. | .fieldAddr .. | .field .. | .indexAddr .. | .index .. | .lookup .. | .extract .. | .pick .. | .build .. | .nilCheck _ => true
  | .call c => match c.callee with
    | .builtin .len => true
    | _ => false
  | _ => false
section
variable {P : Program}
theorem value_of {s : Sem Value} {w w' : World} {n : Next} (h : (do pure (Next.value (← s)) : Sem Next).run P w = .ok n w') : ∃ v, n = .value v := by
  simp only [Sem.run_bind, Sem.run_pure] at h
  cases hs : s.run P w with
  | ok u w1 => rw [hs] at h; simp [Result.andThen] at h; exact ⟨u, h.1.symm⟩
  | halt x w1 => rw [hs] at h; simp [Result.andThen] at h
theorem value_bind {α : Type} {s : Sem α} {f : α → Sem Next} (hf : ∀ a w n w', (f a).run P w = .ok n w' → ∃ v, n = .value v) {w w' : World} {n : Next} (h : (s >>= f).run P w = .ok n w') : ∃ v, n = .value v := by
  simp only [Sem.run_bind] at h
  cases hs : s.run P w with
  | ok u w1 => rw [hs] at h; simp only [Result.andThen] at h; exact hf _ _ _ _ h
  | halt x w1 => rw [hs] at h; simp [Result.andThen] at h
theorem value_pure {w w' : World} {v : Value} {n : Next} (h : (pure (.value v) : Sem Next).run P w = .ok n w') : ∃ v, n = .value v := by
  simp only [Sem.run_pure] at h
  injection h with h _
  exact ⟨_, h.symm⟩
theorem plain_value {o : Oper} {ρ : Operand → Value} {w w' : World} {n : Next} (hp : plainB o = true) (h : (execOp ρ o).run P w = .ok n w') : ∃ v, n = .value v := by
  unfold plainB at hp
  unfold execOp at h
  split at hp
  all_goals first
    | (rename_i e; simp only [e] at h; exact value_of h)
    | (rename_i e; simp only [e] at h; simp at h; exact ⟨_, h.1.symm⟩)
    | skip
  · rename_i c a b e
    simp only [e] at h
    exact value_of (s := do pure (if ← asBool (ρ c) then ρ a else ρ b)) (by simpa using h)
  · rename_i x e
    simp only [e] at h
    split at h
    · cases h
    · cases h
    · cases h
    · split at h
      · cases h
      · refine value_bind (fun a w1 n w2 h2 => ?_) h
        refine value_bind (fun b w3 n w4 h4 => ?_) h2
        split at h4
        · exact value_bind (fun _ _ _ _ h5 => value_pure h5) h4
        · exact value_pure h4
      · exact value_pure h
    · exact value_pure h
  · rename_i c e
    split at hp
    · rename_i e2
      simp only [e, resolve, e2] at h
      simp only [Sem.run_bind, Sem.run_pure, Result.andThen, invoke] at h
      exact value_of (s := Builtin.len_ c.argTypes o.type (c.args.map ρ)) h
    · cases hp
  · cases hp

variable {ops : Array Oper} {S : World → Prop} {Q : Exit → Act → World → Prop} {md : Region.Mode}

theorem yields_of_quiet {o : Oper} {a : Act} {K : Act → Prop} (hw : Region.wanted o (yielded ops a.tmps) = true) (hp : plainB o = true) (hS : ∃ w, S w) (h : o.quiet P a S K) : ∃ v, YieldsIf P ops S o v a ∧ K (a.put o.dst v) := by
  obtain ⟨v, h1, h2⟩ := h
  refine ⟨v, .inl ⟨hw, fun w hw' => ?_⟩, h2⟩
  have h3 := h1 w hw'
  unfold Oper.quietAt at h3
  cases hr : (execOp a.eval o).run P w with
  | ok n w' =>
    obtain ⟨u, rfl⟩ := plain_value hp hr
    rw [hr] at h3
    obtain ⟨e1, e2⟩ := h3
    rw [e1, e2]
  | halt x w' => rw [hr] at h3; exact h3.elim

/-- What stands behind an effect. -/
def afterE (S : World → Prop) (K : Act → World → Prop) (Q : Exit → Act → World → Prop) : Exit → Act → World → Prop
  | .normal, a, w => S w ∧ K a w
  | e, a, w => Q e a w
theorem op_of_afterE {o : Oper} {i : Nat} {K : Act → World → Prop} {a : Act} {w : World} (hi : ops[i]? = some o) (h : wpList P ops (afterE S K Q) [o] a w) : wpOp P ops Q i (fun a' w' => S w' ∧ K a' w') a w := by
  unfold wpOp
  simp only [hi]
  unfold wpList at h
  split
  · rename_i hw
    rw [if_pos hw] at h
    rcases h with h | ⟨h1, a', w', h2⟩
    · refine .inl ?_
      unfold Oper.wp at *
      generalize (execOp a.eval o).run P w = r at *
      cases r with
      | ok n w' =>
        cases n <;> simp only [Oper.upon] at h ⊢ <;> exact h
      | halt x w' => cases x <;> simp only [Oper.upon] at h ⊢ <;> exact h
    · exact .inr ⟨h1, a', w', h2⟩
  · rename_i hw
    rw [if_neg hw] at h
    exact h

/-- The walk: pieces that only read, an effect behind each; the last piece. -/
def wpS (P : Program) (ops : Array Oper) (S : World → Prop) (Q : Exit → Act → World → Prop) : List (List Oper × Oper) → List Oper → Act → World → Prop
  | [], last, a, w => wpQuiet P ops S (fun a' => Q .normal a' w) last a
  | (seg, o) :: r, last, a, w => wpQuiet P ops S (fun a' => wpList P ops (afterE S (wpS P ops S Q r last) Q) [o] a' w) seg a
theorem wpS_seg {seg last : List Oper} {o : Oper} {r : List (List Oper × Oper)} {a : Act} {w : World} (h : wpQuiet P ops S (fun a' => wpList P ops (afterE S (wpS P ops S Q r last) Q) [o] a' w) seg a) : wpS P ops S Q ((seg, o) :: r) last a w := h
theorem wpS_last {last : List Oper} {a : Act} {w : World} (h : wpQuiet P ops S (fun a' => Q .normal a' w) last a) : wpS P ops S Q [] last a w := h
/-- The schedule, by numbers: may it be gone through? -/
def schedQ (md : Region.Mode) (ops : Array Oper) : List Nat → Array Bool → Option (Array Bool)
  | [], listed => some listed
  | i :: r, listed => if (Region.ready md ops listed).contains i && Region.free md ops listed i && ((ops[i]?).map plainB).getD false then schedQ md ops r (listed.setIfInBounds i true) else none
def schedB (md : Region.Mode) (ops : Array Oper) : List (List Nat × Nat) → List Nat → Array Bool → Bool
  | [], last, listed => match schedQ md ops last listed with
    | some l => (Region.ready md ops l).isEmpty
    | none => false
  | (seg, i) :: r, last, listed => match schedQ md ops seg listed with
    | some l => (Region.ready md ops l == [i]) && schedB md ops r last (l.setIfInBounds i true)
    | none => false
def consO {α : Type} : Option α → List α → List α
  | none, l => l
  | some o, l => List.cons o l
theorem consO_some {α : Type} (o : α) (l : List α) : consO (some o) l = List.cons o l := rfl
def opsAt (ops : Array Oper) : List Nat → List Oper
  | [] => []
  | i :: r => consO ops[i]? (opsAt ops r)
theorem opsAt_nil (ops : Array Oper) : opsAt ops [] = [] := rfl
theorem opsAt_cons (ops : Array Oper) (i : Nat) (r : List Nat) : opsAt ops (i :: r) = consO ops[i]? (opsAt ops r) := rfl
def pairO (l : List Oper) (o : Option Oper) : Option (List Oper × Oper) := o.map fun o => (l, o)
theorem pairO_some (l : List Oper) (o : Oper) : pairO l (some o) = some (l, o) := rfl
def segsAt (ops : Array Oper) : List (List Nat × Nat) → List (List Oper × Oper)
  | [] => []
  | x :: r => consO (pairO (opsAt ops x.1) ops[x.2]?) (segsAt ops r)
theorem segsAt_nil (ops : Array Oper) : segsAt ops [] = [] := rfl
theorem segsAt_cons (ops : Array Oper) (l : List Nat) (i : Nat) (r : List (List Nat × Nat)) : segsAt ops ((l, i) :: r) = consO (pairO (opsAt ops l) ops[i]?) (segsAt ops r) := rfl

theorem seg_ok (hs : Region.noSelect ops = true) (hQ : ∀ c a d v w, Q (.panic c) (Act.put a d v) w → Q (.panic c) a w) {w : World} (hS : S w) {G : Act → Prop} {fuel : Nat} {l : Array Bool}
    (hG : ∀ a, G a → wpAnyH P md ops Q S fuel l a w) : ∀ (seg : List Nat) (listed : Array Bool) (a : Act), schedQ md ops seg listed = some l → wpQuiet P ops S G (opsAt ops seg) a → wpAnyH P md ops Q S (seg.length + fuel) listed a w
  | [], listed, a, hB, h => by
    simp [schedQ] at hB
    subst hB
    simpa using hG _ h
  | i :: r, listed, a, hB, h => by
    unfold schedQ at hB
    split at hB
    · rename_i hc
      simp only [Bool.and_eq_true] at hc
      obtain ⟨⟨hr, hf⟩, hp⟩ := hc
      cases hoi : ops[i]? with
      | none => rw [hoi] at hp; simp at hp
      | some o =>
        rw [hoi] at hp
        have hp : plainB o = true := by simpa using hp
        have e : opsAt ops (i :: r) = o :: opsAt ops r := by rw [opsAt_cons, hoi]; rfl
        rw [e] at h
        have key : ∃ v, YieldsIf P ops S o v a ∧ wpQuiet P ops S G (opsAt ops r) (a.put o.dst v) := by
          unfold wpQuiet at h
          split at h
          · rename_i hw; exact yields_of_quiet hw hp ⟨w, hS⟩ h
          · rename_i hw; exact ⟨undef, .inr ⟨by simpa using hw, rfl⟩, h⟩
        obtain ⟨v, hy, hk⟩ := key
        have := wpAnyH_take (fuel := r.length + fuel) hoi hs hf hr (fun c a' w' => hQ c a' o.dst v w') hy hS (seg_ok hs hQ hS hG r _ _ hB hk)
        simpa [Nat.add_assoc, Nat.add_comm 1] using this
    · cases hB

theorem wpS_any (hs : Region.noSelect ops = true) (hQ : ∀ c a d v w, Q (.panic c) (Act.put a d v) w → Q (.panic c) a w) (last : List Nat) : ∀ (segs : List (List Nat × Nat)) (listed : Array Bool) (a : Act) (w : World), S w →
    schedB md ops segs last listed = true → wpS P ops S Q (segsAt ops segs) (opsAt ops last) a w → ∃ fuel, fuel = (segs.map fun x => x.1.length + 1).sum + last.length ∧ wpAnyH P md ops Q S fuel listed a w
  | [], listed, a, w, hS, hB, h => by
    unfold schedB at hB
    split at hB
    · rename_i l hl
      refine ⟨_, rfl, ?_⟩
      have := seg_ok (fuel := 0) hs hQ hS (l := l) (G := fun a' => Q .normal a' w) (fun a' hq => ⟨by simpa using hB, hq⟩) last listed a hl (by simpa [wpS, segsAt_nil] using h)
      simpa using this
    · cases hB
  | (seg, i) :: r, listed, a, w, hS, hB, h => by
    unfold schedB at hB
    split at hB
    · rename_i l hl
      simp only [Bool.and_eq_true, beq_iff_eq] at hB
      obtain ⟨hr, hB⟩ := hB
      cases hoi : ops[i]? with
      | none =>
        exfalso
        have : i ∈ Region.ready md ops l := by rw [hr]; simp
        obtain ⟨_, o, ho, _⟩ := mem_ready.1 this
        rw [hoi] at ho
        cases ho
      | some o =>
        rw [segsAt_cons, hoi, pairO_some, consO_some] at h
        unfold wpS at h
        refine ⟨_, rfl, ?_⟩
        have := seg_ok (fuel := ((r.map fun x => x.1.length + 1).sum + last.length) + 1) hs hQ hS (l := l) (fun a' hq => wpAnyH_all hr (by simp) (fun j hj => by
          obtain rfl : j = i := by simpa using hj
          exact wpOp_mono (fun a'' w'' hk => by
            obtain ⟨hS', hk⟩ := hk
            obtain ⟨fuel, rfl, hf⟩ := wpS_any hs hQ last r _ a'' w'' hS' hB hk
            exact ⟨hS', hf⟩) (op_of_afterE hoi hq))) seg listed a hl h
        simp only [List.map_cons, List.sum_cons]
        have e : seg.length + ((r.map fun x => x.1.length + 1).sum + last.length + 1) = seg.length + 1 + (r.map fun x => x.1.length + 1).sum + last.length := by omega
        rw [e] at this
        exact this
    · cases hB
/-- **The region.** segs, last: the schedule by numbers; ssegs, slast: the operations themselves. -/
theorem region_seq {id : Nat} {a : Act} {w : World} {l : List Oper} (segs : List (List Nat × Nat)) (last : List Nat) (hm : P.follows .mixedOrders = true) (S : World → Prop)
    (hB : (Region.noSelect l.toArray && schedB .any l.toArray segs last (Array.replicate l.length false) && decide ((segs.map fun x => x.1.length + 1).sum + last.length = l.length)) = true)
    (hQ : ∀ c a d v w, Q (.panic c) (Act.put a d v) w → Q (.panic c) a w) (hS : S w.drew)
    (h : wpS P l.toArray S Q (segsAt l.toArray segs) (opsAt l.toArray last) a w.drew) : (Code.region id l.toArray true).wp P Q a w := by
  simp only [Bool.and_eq_true, decide_eq_true_eq] at hB
  obtain ⟨⟨h1, h2⟩, h3⟩ := hB
  refine wp_region_held hm (S := S) ?_
  obtain ⟨fuel, rfl, hf⟩ := wpS_any (md := .any) h1 hQ last segs _ a w.drew hS h2 h
  rw [h3] at hf
  have e : l.toArray.size = l.length := by simp
  rw [e]
  exact hf
end
end Go.Proofs.Ythpilbooolgkiaa
