/- A wheel, by its tick and its timers: what its methods do. -/
import Derived.Test.YtejelihioendnaaWad
set_option linter.unusedVariables false
set_option linter.unusedSimpArgs false
set_option linter.unusedSectionVars false
namespace Go.Proofs.Ytejelihioendnaa
open Go.RowKit

/-- A wheel at g, its blocks F, its tick, its timers. -/
structure At (w : World) (g : Nat) (F : Nat → Prop) (now : Int) (L : List (Int × Int)) : Prop where
  out : ∃ s, WO w g F s ∧ Rep s L ∧ s.now = now
  gt : ∀ p ∈ L, now < p.1
section
variable {w : World} {g : Nat} {F : Nat → Prop} {now : Int} {L : List (Int × Int)} (h : At w g F now L)
include h
theorem At.n0 : 0 ≤ now ∧ now ≤ 1099511627776 := by
  obtain ⟨s, _, hr, rfl⟩ := h.out
  exact ⟨hr.inv.n0, hr.inv.n1⟩
theorem At.srt : Srt L := by
  obtain ⟨s, _, hr, rfl⟩ := h.out
  exact hr.srt
theorem At.bnd {d x : Int} (hm : (d, x) ∈ L) : now < d ∧ d ≤ 2199023255552 ∧ 0 ≤ x ∧ x ≤ 9223372036854775807 := by
  have := h.gt _ hm
  obtain ⟨s, _, hr, rfl⟩ := h.out
  have := hr.inv.bnd ((hr.mem d x).1 hm)
  exact ⟨by simpa using h.gt _ hm, this.2⟩
theorem At.uniq {d d' x : Int} (h1 : (d, x) ∈ L) (h2 : (d', x) ∈ L) : d = d' := by
  obtain ⟨s, _, hr, rfl⟩ := h.out
  exact hr.uniq h1 h2
theorem At.ids : (L.map (·.2)).Nodup := by
  obtain ⟨s, _, hr, rfl⟩ := h.out
  exact hr.ids
theorem At.lt {i : Nat} (hi : F i) : i < w.heap.size := by
  obtain ⟨s, hw, hr, rfl⟩ := h.out
  exact hw.lt hi
theorem At.nn {w' : World} (u : Upd w w' Nope) : At w' g F now L := by
  refine ⟨?_, h.gt⟩
  obtain ⟨s, hw, hr, e⟩ := h.out
  exact ⟨s, hw.nn u, hr, e⟩
theorem At.apart {w' : World} {G : Nat → Prop} (u : Upd w w' G) (hd : ∀ i, F i → ¬ G i) : At w' g F now L := by
  refine ⟨?_, h.gt⟩
  obtain ⟨s, hw, hr, e⟩ := h.out
  exact ⟨s, hw.apart u hd, hr, e⟩
theorem At.now_ : Calls Try.prog 18 #[.pointer (some ⟨g, 0, none⟩)] w fun e w' => e = .returned (.int .i64 now) ∧ w' = w := by
  obtain ⟨s, ⟨_, _, _, hw, _⟩, hr, rfl⟩ := h.out
  exact now_any hw
theorem At.len_ : Calls Try.prog 19 #[.pointer (some ⟨g, 0, none⟩)] w fun e w' => e = .returned (.int .i64 L.length) ∧ w' = w := by
  obtain ⟨s, ⟨_, _, _, hw, _⟩, hr, rfl⟩ := h.out
  rw [← hr.len]
  exact len_any hw
def dueL (L : List (Int × Int)) (id : Int) : Int × Bool := match L.find? (fun p => decide (p.2 = id)) with
  | some p => (p.1, true)
  | none => (0, false)
omit h in
theorem dueL_some {d id : Int} (hu : ∀ d', (d', id) ∈ L → d' = d) (hm : (d, id) ∈ L) : dueL L id = (d, true) := by
  unfold dueL
  cases hf : L.find? (fun p => decide (p.2 = id)) with
  | none =>
    have := List.find?_eq_none.1 hf _ hm
    simp at this
  | some p =>
    have h1 := List.mem_of_find?_eq_some hf
    have h2 := List.find?_some hf
    have h3 := of_decide_eq_true h2
    have := hu p.1 (by rw [← h3]; exact h1)
    simp [this]
omit h in
theorem dueL_none {id : Int} (hm : ∀ p ∈ L, p.2 ≠ id) : dueL L id = (0, false) := by
  unfold dueL
  cases hf : L.find? (fun p => decide (p.2 = id)) with
  | none => rfl
  | some p =>
    have h1 := List.mem_of_find?_eq_some hf
    have h2 := List.find?_some hf
    exact absurd (of_decide_eq_true h2) (hm p h1)
theorem At.due_ (id : Int) (hid : okI id) : Calls Try.prog 21 #[.pointer (some ⟨g, 0, none⟩), .int .i64 id] w fun e w' => e = .returned (.tuple #[.int .i64 (dueL L id).1, .bool (dueL L id).2]) ∧ ∃ F', At w' g F' now L ∧ Gr w w' F F' := by
  obtain ⟨s, hw, hr, hnw⟩ := h.out
  have hd : dueR s id = dueL L id := by
    rcases hr.due id with ⟨d, hm, e⟩ | ⟨hm, e⟩
    · rw [e, dueL_some (fun d' h' => hr.uniq h' hm) hm]
    · rw [e, dueL_none hm]
  rw [← hd]
  refine (due_any hw hr.inv.plok id hid).mono ?_
  rintro e w' ⟨rfl, F', hw', hg⟩
  exact ⟨rfl, F', ⟨⟨s, hw', hr, hnw⟩, h.gt⟩, hg⟩
theorem At.cancel_ (id : Int) (hid : okI id) : Calls Try.prog 13 #[.pointer (some ⟨g, 0, none⟩), .int .i64 id] w fun e w' => e = .returned (.bool (L.any fun p => decide (p.2 = id))) ∧ ∃ F', At w' g F' now (delT id L) ∧ Gr w w' F F' := by
  obtain ⟨s, hw, hr, hnw⟩ := h.out
  obtain ⟨r1, r2, r3⟩ := hr.cancel id
  refine (cancel_any hw hr.inv.plok id hid).mono ?_
  rintro e w' ⟨rfl, F', hw', hg⟩
  rw [r2]
  exact ⟨rfl, F', ⟨⟨_, hw', r1, r3.trans hnw⟩, fun p hp => h.gt p (mem_delT.1 hp).1⟩, hg⟩
def setC (id due : Int) : Int := if id < 0 ∨ due < 0 ∨ 2199023255552 < due then 1 else 0
def setT (now : Int) (L : List (Int × Int)) (id due : Int) : List (Int × Int) := if id < 0 ∨ due < 0 ∨ 2199023255552 < due then L else setL now L id due
theorem At.set_ (id due : Int) (hid : okI id) : Calls Try.prog 11 #[.pointer (some ⟨g, 0, none⟩), .int .i64 id, .int .i64 due] w fun e w' => e = .returned (.int .i64 (setC id due)) ∧ ∃ F', At w' g F' now (setT now L id due) ∧ Gr w w' F F' := by
  obtain ⟨s, hw, hr, hnw⟩ := h.out
  have hm : id ≤ 9223372036854775807 := by
    simp [okI, Lit.wf, IntKind.min, IntKind.max, IntKind.signed, IntKind.bits] at hid
    omega
  refine (set_any hw hr.inv.plok id due hid hr.inv.n0 hr.inv.n1).mono ?_
  rintro e w' ⟨rfl, F', hw', hg⟩
  unfold setR at hw' ⊢
  unfold setC setT
  by_cases hc : id < 0 ∨ due < 0 ∨ 2199023255552 < due
  · simp only [if_pos hc] at hw' ⊢
    exact ⟨by trivial, F', ⟨⟨s, hw', hr, hnw⟩, h.gt⟩, hg⟩
  · simp only [if_neg hc] at hw' ⊢
    obtain ⟨r1, r2⟩ := hr.set (id := id) (due := due) (by omega) hm (by omega) (by omega)
    rw [hnw] at r1 r2 hw'
    refine ⟨by trivial, F', ⟨⟨_, hw', r1, r2⟩, fun p hp => ?_⟩, hg⟩
    rcases mem_insT.1 hp with rfl | hp
    · show now < max due (now + 1)
      omega
    · exact h.gt p (mem_delT.1 hp).1
theorem At.next_ : Calls Try.prog 20 #[.pointer (some ⟨g, 0, none⟩)] w fun e w' => e = .returned (.tuple #[mv (headO L), mf (headO L)]) ∧ Upd w w' Nope := by
  obtain ⟨s, ⟨_, _, _, hw, _⟩, hr, rfl⟩ := h.out
  refine (next_any hw).mono ?_
  rintro e w1 ⟨⟨o, ho, rfl⟩, u1⟩
  rw [hr.head ho]
  exact ⟨rfl, u1⟩
omit h in
theorem adv_gt {tt : Int} {most : Nat} (now : Int) (L : List (Int × Int)) (fired : List Int) (hs : Srt L) (hg : ∀ p ∈ L, now < p.1) : ∀ p ∈ (adv tt most now L fired).2.1, (adv tt most now L fired).1 < p.1 := by
  induction now, L, fired using adv.induct (tt := tt) (most := most) with
  | case1 now fired h => rw [adv.eq_def, if_pos h]; simp
  | case2 now fired h n x T hlt =>
    rw [adv_stop h (fun n' x' T' e => by cases e; exact hlt)]
    intro p hp
    rcases List.mem_cons.1 hp with rfl | hp
    · exact hlt
    · have := (List.pairwise_cons.1 hs).1 p hp
      unfold lt2 at this
      simp only at this ⊢
      omega
  | case3 now fired h n x T hlt ih =>
    rw [adv_go h (by omega)]
    refine ih (srt_rest hs) fun p hp => ?_
    have hp := List.mem_filter.1 hp
    have hne : p.1 ≠ n := by simpa using hp.2
    rcases List.mem_cons.1 hp.1 with rfl | hp
    · exact absurd rfl hne
    · have := (List.pairwise_cons.1 hs).1 p hp
      unfold lt2 at this
      simp only at this
      omega
  | case4 now L fired h => rw [adv_full h]; exact hg
theorem At.adv_ (hL : L.length ≤ 1000000) (tt most : Int) : Calls Try.prog 15 #[.pointer (some ⟨g, 0, none⟩), .int .i64 tt, .int .i64 most] w fun e w' => ∃ A cap F', e = .returned (.tuple #[.slice A (advR now L tt most).fired.length cap, .int .i64 (advR now L tt most).at_, .int .i64 (advR now L tt most).code]) ∧
    Rd1 (Value.int .i64) w' A (advR now L tt most).fired ∧ At w' g F' (advR now L tt most).now (advR now L tt most).L ∧ Gr w w' F F' ∧ ∀ ad, A = some ad → w.heap.size ≤ ad.block ∧ ¬ F' ad.block := by
  have hgt : ∀ p ∈ (advR now L tt most).L, (advR now L tt most).now < p.1 := by
    unfold advR
    split
    · exact adv_gt now L [] h.srt h.gt
    · exact h.gt
  obtain ⟨s, hw, hr, rfl⟩ := h.out
  refine (advance_any hw hr hL tt most).mono ?_
  rintro e w' ⟨A, cap, F', s', he, h1, h2, h3, h4, h5, h6⟩
  exact ⟨A, cap, F', he, h1, ⟨⟨s', h2, h3, h4⟩, hgt⟩, h5, h6⟩
end
theorem at_new (now : Int) (w : World) : Calls Try.prog 9 #[.int .i64 now] w fun e w' =>
    (newOk now = false → e = .returned (.tuple #[.pointer none, .int .i64 1])) ∧ (newOk now = true → ∃ g F, e = .returned (.tuple #[.pointer (some ⟨g, 0, none⟩), .int .i64 0]) ∧ At w' g F now [] ∧ ∀ i, F i → w.heap.size ≤ i) ∧ Upd w w' Nope := by
  refine (new_any now w).mono ?_
  rintro e w' ⟨h1, h2, h3⟩
  refine ⟨h1, fun h => ?_, h3⟩
  obtain ⟨g, F, he, hw, hf⟩ := h2 h
  have hb : 0 ≤ now ∧ now ≤ 1099511627776 := by simpa [newOk] using h
  exact ⟨g, F, he, ⟨⟨_, hw, rep_new hb.1 hb.2, rfl⟩, fun p hp => by simp at hp⟩, hf⟩
end Go.Proofs.Ytejelihioendnaa
