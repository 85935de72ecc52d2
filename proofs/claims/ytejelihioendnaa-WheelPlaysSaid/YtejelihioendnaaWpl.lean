/- What a wheel's calls do to its timers: plain lists and numbers. -/
import Derived.Test.YtejelihioendnaaWnx
set_option linter.unusedVariables false
set_option linter.unusedSimpArgs false
set_option linter.unusedSectionVars false
namespace Go.Proofs.Ytejelihioendnaa
open Go.RowKit

abbrev Apart {β : Type} (L : List (Int × β)) : Prop := L.Pairwise (fun p q => p.1 ≠ q.1)
theorem apart_del {β : Type} {L : List (Int × β)} (h : Apart L) (k : Int) : Apart (del k L) := h.sublist List.filter_sublist
theorem apart_put {β : Type} {L : List (Int × β)} (h : Apart L) (k : Int) (c : β) : Apart (put k c L) := by
  induction L with
  | nil => simp [put, Apart]
  | cons p r ih =>
    obtain ⟨h1, h2⟩ := List.pairwise_cons.1 h
    unfold put
    split
    · rename_i e
      exact List.pairwise_cons.2 ⟨fun q hq => by rw [← e]; exact h1 q hq, h2⟩
    · rename_i e
      refine List.pairwise_cons.2 ⟨fun q hq => ?_, ih h2⟩
      rcases mem_put hq with rfl | hq | hq
      · exact e
      · exact h1 q hq.1
      · exact h1 q hq
theorem look_of_mem {β : Type} {L : List (Int × β)} (h : Apart L) {a : Int} {c : β} (hm : (a, c) ∈ L) : look a L = some c := by
  obtain ⟨j, hj⟩ := List.getElem?_of_mem hm
  exact (at_there h hj).1

/-- When a timer fires. -/
def dueOf (s : Wh) (x : Int) : Option Int := (look x s.pl).bind fun p => look x (s.sl (idx p))
/-- A wheel as it stands, but for one number. -/
structure InvX (no : Int → Prop) (s : Wh) : Prop where
  n0 : 0 ≤ s.now
  n1 : s.now ≤ 1099511627776
  ok : ∀ x p, ¬ no x → look x s.pl = some p → okp p
  to_ : ∀ i x d, i ≤ 256 → look x (s.sl i) = some d → ¬ no x ∧ ∃ p, look x s.pl = some p ∧ idx p = i
  of_ : ∀ x p, ¬ no x → look x s.pl = some p → ∃ d, look x (s.sl (idx p)) = some d
  b : ∀ i x d, i ≤ 256 → look x (s.sl i) = some d → s.now ≤ d ∧ d ≤ 2199023255552 ∧ 0 ≤ x ∧ x ≤ 9223372036854775807
  l0 : ∀ i x d, i < 64 → look x (s.sl i) = some d → d - s.now < 64 ∧ (i : Int) = d % 64
  ap : ∀ i, i ≤ 256 → Apart (s.sl i)
  app : Apart s.pl
abbrev Inv (s : Wh) : Prop := InvX (fun _ => False) s
theorem Inv.plok {s : Wh} (h : Inv s) : plok s := fun x p hp => h.ok x p id hp
theorem Inv.due {s : Wh} (h : Inv s) {i : Nat} {x d : Int} (hi : i ≤ 256) (hl : look x (s.sl i) = some d) : dueOf s x = some d := by
  obtain ⟨_, p, hp, e⟩ := h.to_ i x d hi hl
  unfold dueOf
  rw [hp]
  show look x (s.sl (idx p)) = _
  rw [e, hl]
theorem Inv.slot {s : Wh} (h : Inv s) {x d : Int} (hd : dueOf s x = some d) : ∃ i, i ≤ 256 ∧ look x (s.sl i) = some d := by
  unfold dueOf at hd
  cases hp : look x s.pl with
  | none => rw [hp] at hd; cases hd
  | some p => rw [hp] at hd; exact ⟨idx p, idx_le (h.plok x p hp), hd⟩
theorem Inv.none_ {s : Wh} (h : Inv s) (x : Int) : dueOf s x = none ↔ look x s.pl = none := by
  unfold dueOf
  cases hp : look x s.pl with
  | none => simp
  | some p =>
    obtain ⟨d, hd⟩ := h.of_ x p id hp
    simp [hd]
theorem Inv.bnd {s : Wh} (h : Inv s) {x d : Int} (hd : dueOf s x = some d) : s.now ≤ d ∧ d ≤ 2199023255552 ∧ 0 ≤ x ∧ x ≤ 9223372036854775807 := by
  obtain ⟨i, hi, hl⟩ := h.slot hd
  exact h.b i x d hi hl
theorem inv_new {now : Int} (h0 : 0 ≤ now) (h1 : now ≤ 1099511627776) : Inv ⟨now, fun _ => [], []⟩ :=
  ⟨h0, h1, fun x p _ h => by simp [look] at h, fun i x d _ h => by simp [look] at h, fun x p _ h => by simp [look] at h, fun i x d _ h => by simp [look] at h, fun i x d _ h => by simp [look] at h, fun _ _ => List.Pairwise.nil, List.Pairwise.nil⟩
theorem upS_look (sl : Nat → List (Int × Int)) (i j : Nat) (L : List (Int × Int)) (x : Int) : look x (upS sl i L j) = if j = i then look x L else look x (sl j) := by
  unfold upS
  split <;> rfl

/-! ### laying -/
theorem place_near {now due : Int} (h0 : 0 ≤ now) (h : now ≤ due) : (idx (placeR now due) < 64 ↔ due - now < 64) ∧ (due - now < 64 → (idx (placeR now due) : Int) = due % 64) := by
  unfold placeR idx
  repeat' split
  all_goals (try simp only at *)
  all_goals omega
theorem lay_inv {no : Int → Prop} {s : Wh} {id due : Int} (h : InvX no s) (hno : ∀ x, no x ↔ x = id) (hd : s.now ≤ due) (hd2 : due ≤ 2199023255552) (h0 : 0 ≤ id) (h1 : id ≤ 9223372036854775807) :
    Inv (layR s id due) ∧ ∀ x, dueOf (layR s id due) x = if x = id then some due else dueOf s x := by
  have hp := placeR_ok s.now due
  have hpl := idx_le hp
  have hnear := place_near h.n0 hd
  have hsl : ∀ j x, look x ((layR s id due).sl j) = if j = idx (placeR s.now due) then (if x = id then some due else look x (s.sl j)) else look x (s.sl j) := by
    intro j x
    show look x (upS s.sl _ _ j) = _
    rw [upS_look]
    split
    · rename_i e; rw [look_put, e]
    · rfl
  have hpls : ∀ x, look x (layR s id due).pl = if x = id then some (placeR s.now due) else look x s.pl := fun x => look_put ..
  have hnone : ∀ j, j ≤ 256 → look id (s.sl j) = none := fun j hj => by
    cases hl : look id (s.sl j) with
    | none => rfl
    | some d => exact absurd ((hno id).2 rfl) (h.to_ j id d hj hl).1
  refine ⟨⟨h.n0, h.n1, fun x p _ hl => ?_, fun i x d hi hl => ⟨fun h => h, ?_⟩, fun x p _ hl => ?_, fun i x d hi hl => ?_, fun i x d hi hl => ?_, fun i hi => ?_, apart_put h.app _ _⟩, fun x => ?_⟩
  · rw [hpls] at hl
    split at hl
    · injection hl with hl; rw [← hl]; exact hp
    · rename_i e; exact h.ok x p (fun hn => e ((hno x).1 hn)) hl
  · rw [hsl] at hl
    rw [hpls]
    split at hl
    · rename_i e
      split at hl
      · rename_i e2; rw [if_pos e2]; exact ⟨_, rfl, e.symm⟩
      · rename_i e2
        rw [if_neg e2]
        exact (h.to_ i x d hi hl).2
    · rename_i e
      have hne : x ≠ id := fun e2 => by subst e2; rw [hnone i hi] at hl; cases hl
      rw [if_neg hne]
      exact (h.to_ i x d hi hl).2
  · rw [hpls] at hl
    split at hl
    · rename_i e
      injection hl with hl
      subst hl
      exact ⟨due, by rw [hsl, if_pos rfl, if_pos e]⟩
    · rename_i e
      obtain ⟨d, hd⟩ := h.of_ x p (fun hn => e ((hno x).1 hn)) hl
      exact ⟨d, by rw [hsl]; simp only [if_neg e, ite_self]; exact hd⟩
  · rw [hsl] at hl
    show s.now ≤ d ∧ _
    split at hl
    · split at hl
      · rename_i e; injection hl with hl; subst hl; subst e; exact ⟨hd, hd2, h0, h1⟩
      · exact h.b i x d hi hl
    · exact h.b i x d hi hl
  · rw [hsl] at hl
    show d - s.now < 64 ∧ _
    split at hl
    · rename_i e
      split at hl
      · injection hl with hl
        subst hl
        have := hnear.1.1 (by omega)
        exact ⟨this, by rw [e]; exact hnear.2 this⟩
      · exact h.l0 i x d hi hl
    · exact h.l0 i x d hi hl
  · show Apart (upS s.sl _ _ i)
    unfold upS
    split
    · rename_i e; exact apart_put (h.ap _ hpl) _ _
    · exact h.ap i hi
  · unfold dueOf
    rw [hpls]
    split
    · rename_i e
      show look x ((layR s id due).sl (idx (placeR s.now due))) = _
      rw [hsl, if_pos rfl, if_pos e]
    · rename_i e
      cases hx : look x s.pl with
      | none => rfl
      | some p =>
        show look x ((layR s id due).sl (idx p)) = look x (s.sl (idx p))
        rw [hsl]
        simp only [if_neg e, ite_self]

/-! ### cancelling -/
theorem cancel_inv {s : Wh} (h : Inv s) (id : Int) : Inv (cancelR s id).1 ∧ (∀ x, dueOf (cancelR s id).1 x = if x = id then none else dueOf s x) ∧ (cancelR s id).2 = (dueOf s id).isSome ∧ (cancelR s id).1.now = s.now ∧ look id (cancelR s id).1.pl = none := by
  unfold cancelR
  cases hl : look id s.pl with
  | none =>
    have hn := (h.none_ id).2 hl
    refine ⟨h, fun x => ?_, by rw [hn]; rfl, rfl, hl⟩
    by_cases e : x = id
    · rw [if_pos e, e]; exact hn
    · rw [if_neg e]
  | some p =>
    obtain ⟨d, hd⟩ := h.of_ id p (fun h => h) hl
    have hp := h.plok id p hl
    have hpl := idx_le hp
    have hs : ∀ j x, look x (upS s.sl (idx p) (del id (s.sl (idx p))) j) = if j = idx p then (if x = id then none else look x (s.sl j)) else look x (s.sl j) := by
      intro j x
      rw [upS_look]
      split
      · rename_i e; rw [look_del, e]
      · rfl
    have hoth : ∀ j, j ≤ 256 → j ≠ idx p → look id (s.sl j) = none := fun j hj hne => by
      cases hx : look id (s.sl j) with
      | none => rfl
      | some d' =>
        obtain ⟨_, q, hq, e⟩ := h.to_ j id d' hj hx
        rw [hl] at hq
        injection hq with hq
        subst hq
        exact absurd e.symm hne
    refine ⟨⟨h.n0, h.n1, fun x q _ hq => ?_, fun i x d' hi hx => ⟨fun h => h, ?_⟩, fun x q _ hq => ?_, fun i x d' hi hx => ?_, fun i x d' hi hx => ?_, fun i hi => ?_, apart_del h.app _⟩, fun x => ?_, ?_, rfl, look_del_same ..⟩
    · simp only at hq
      rw [look_del] at hq
      split at hq
      · cases hq
      · exact h.plok x q hq
    · simp only at hx ⊢
      rw [hs] at hx
      have hne : x ≠ id := fun e => by
        subst e
        split at hx
        · simp at hx
        · rename_i e2; rw [hoth i hi e2] at hx; cases hx
      rw [look_del, if_neg hne]
      have hx' : look x (s.sl i) = some d' := by
        simp only [if_neg hne, ite_self] at hx
        exact hx
      exact (h.to_ i x d' hi hx').2
    · simp only at hq ⊢
      rw [look_del] at hq
      split at hq
      · cases hq
      · rename_i e
        obtain ⟨d', hd'⟩ := h.of_ x q (fun h => h) hq
        exact ⟨d', by rw [hs]; simp only [if_neg e, ite_self]; exact hd'⟩
    · simp only at hx ⊢
      rw [hs] at hx
      split at hx
      · split at hx
        · cases hx
        · exact h.b i x d' hi hx
      · exact h.b i x d' hi hx
    · simp only at hx ⊢
      rw [hs] at hx
      split at hx
      · split at hx
        · cases hx
        · exact h.l0 i x d' hi hx
      · exact h.l0 i x d' hi hx
    · simp only
      unfold upS
      split
      · exact apart_del (h.ap _ hpl) _
      · exact h.ap i hi
    · unfold dueOf
      simp only
      rw [look_del]
      split
      · rfl
      · rename_i e
        cases hx : look x s.pl with
        | none => rfl
        | some q =>
          show look x (upS _ _ _ (idx q)) = look x (s.sl (idx q))
          rw [hs]
          simp only [if_neg e, ite_self]
    · show true = _
      unfold dueOf
      rw [hl]
      show true = (look id (s.sl (idx p))).isSome
      rw [hd]
      rfl
theorem due_law {s : Wh} (h : Inv s) (id : Int) : dueR s id = ((dueOf s id).getD 0, (dueOf s id).isSome) := by
  unfold dueR dueOf
  cases hl : look id s.pl with
  | none => rfl
  | some p =>
    obtain ⟨d, hd⟩ := h.of_ id p (fun h => h) hl
    simp [hd]
theorem invX_of {s : Wh} (h : Inv s) {id : Int} (hn : look id s.pl = none) : InvX (· = id) s :=
  ⟨h.n0, h.n1, fun x p _ hp => h.plok x p hp, fun i x d hi hx => ⟨(fun e => by subst e; obtain ⟨_, p, hp, _⟩ := h.to_ i x d hi hx; rw [hn] at hp; cases hp), (h.to_ i x d hi hx).2⟩, fun x p _ hp => h.of_ x p (fun h => h) hp, h.b, h.l0, h.ap, h.app⟩
/-- A timer taken out of its slot, to be laid anew. -/
theorem invX_out {s : Wh} (h : Inv s) {i : Nat} (hi : i ≤ 256) {id d : Int} (hl : look id (s.sl i) = some d) : InvX (· = id) ⟨s.now, upS s.sl i (del id (s.sl i)), s.pl⟩ ∧ ∀ x, x ≠ id → dueOf ⟨s.now, upS s.sl i (del id (s.sl i)), s.pl⟩ x = dueOf s x := by
  have hs : ∀ j x, look x (upS s.sl i (del id (s.sl i)) j) = if j = i then (if x = id then none else look x (s.sl j)) else look x (s.sl j) := by
    intro j x
    rw [upS_look]
    split
    · rename_i e; rw [look_del, e]
    · rfl
  obtain ⟨_, p, hp, hpi⟩ := h.to_ i id d hi hl
  have hoth : ∀ j, j ≤ 256 → j ≠ i → look id (s.sl j) = none := fun j hj hne => by
    cases hx : look id (s.sl j) with
    | none => rfl
    | some d' =>
      obtain ⟨_, q, hq, e⟩ := h.to_ j id d' hj hx
      rw [hp] at hq
      injection hq with hq
      subst hq
      exact absurd (e.symm.trans hpi) hne
  refine ⟨⟨h.n0, h.n1, fun x q _ hq => h.plok x q hq, fun j x d' hj hx => ?_, fun x q hne hq => ?_, fun j x d' hj hx => ?_, fun j x d' hj hx => ?_, fun j hj => ?_, h.app⟩, fun x hne => ?_⟩
  · simp only at hx ⊢
    rw [hs] at hx
    have hne : x ≠ id := fun e => by
      subst e
      split at hx
      · simp at hx
      · rename_i e2; rw [hoth j hj e2] at hx; cases hx
    refine ⟨hne, ?_⟩
    have hx' : look x (s.sl j) = some d' := by
      simp only [if_neg hne, ite_self] at hx
      exact hx
    exact (h.to_ j x d' hj hx').2
  · simp only at hq ⊢
    obtain ⟨d', hd'⟩ := h.of_ x q (fun h => h) hq
    exact ⟨d', by rw [hs]; simp only [if_neg hne, ite_self]; exact hd'⟩
  · simp only at hx ⊢
    rw [hs] at hx
    split at hx
    · split at hx
      · cases hx
      · exact h.b j x d' hj hx
    · exact h.b j x d' hj hx
  · simp only at hx ⊢
    rw [hs] at hx
    split at hx
    · split at hx
      · cases hx
      · exact h.l0 j x d' hj hx
    · exact h.l0 j x d' hj hx
  · simp only
    unfold upS
    split
    · exact apart_del (h.ap _ hi) _
    · exact h.ap j hj
  · unfold dueOf
    simp only
    cases hx : look x s.pl with
    | none => rfl
    | some q =>
      show look x (upS _ _ _ (idx q)) = look x (s.sl (idx q))
      rw [hs]
      simp only [if_neg hne, ite_self]
/-- .. and laid. -/
theorem relay_inv {s : Wh} (h : Inv s) {i : Nat} (hi : i ≤ 256) {id d : Int} (hl : look id (s.sl i) = some d) :
    Inv (layR ⟨s.now, upS s.sl i (del id (s.sl i)), s.pl⟩ id d) ∧ ∀ x, dueOf (layR ⟨s.now, upS s.sl i (del id (s.sl i)), s.pl⟩ id d) x = dueOf s x := by
  obtain ⟨h1, h2⟩ := invX_out h hi hl
  obtain ⟨b1, b2, b3, b4⟩ := h.b i id d hi hl
  obtain ⟨h3, h4⟩ := lay_inv h1 (fun x => Iff.rfl) b1 b2 b3 b4
  refine ⟨h3, fun x => ?_⟩
  rw [h4]
  split
  · rename_i e; rw [e, h.due hi hl]
  · rename_i e; exact h2 x e
end Go.Proofs.Ytejelihioendnaa
