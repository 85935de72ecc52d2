/- What a wheel stands for: timers by ticks, then by numbers. Plain lists. -/
import Derived.Test.YtejelihioendnaaWmo
set_option linter.unusedVariables false
set_option linter.unusedSimpArgs false
namespace Go.Proofs.Ytejelihioendnaa
open Go.RowKit

def lt2 (a b : Int × Int) : Prop := a.1 < b.1 ∨ (a.1 = b.1 ∧ a.2 < b.2)
theorem lt2_irr (a : Int × Int) : ¬ lt2 a a := by unfold lt2; omega
theorem lt2_as {a b : Int × Int} (h : lt2 a b) (k : lt2 b a) : False := by unfold lt2 at *; omega
abbrev Srt (L : List (Int × Int)) : Prop := L.Pairwise lt2
theorem Srt.nodup {L : List (Int × Int)} (h : Srt L) : L.Nodup := h.imp (fun {a b} h e => by subst e; exact lt2_irr _ h)
theorem srt_ext {L M : List (Int × Int)} (h : Srt L) (k : Srt M) (e : ∀ p, p ∈ L ↔ p ∈ M) : L = M :=
  List.Perm.eq_of_pairwise (le := lt2) (fun a b _ _ h1 h2 => (lt2_as h1 h2).elim) h k ((List.perm_ext_iff_of_nodup h.nodup k.nodup).2 e)
theorem int_ext {L M : List Int} (h : L.Pairwise (· < ·)) (k : M.Pairwise (· < ·)) (e : ∀ p, p ∈ L ↔ p ∈ M) : L = M :=
  List.Perm.eq_of_pairwise (le := (· < ·)) (fun a b _ _ h1 h2 => absurd h1 (by omega)) h k ((List.perm_ext_iff_of_nodup (h.imp (fun h => by omega)) (k.imp (fun h => by omega))).2 e)

/-- The timers of a wheel, in order. -/
structure Rep (s : Wh) (L : List (Int × Int)) : Prop where
  inv : Inv s
  srt : Srt L
  mem : ∀ d x, (d, x) ∈ L ↔ dueOf s x = some d

def insT (p : Int × Int) (L : List (Int × Int)) : List (Int × Int) := match L with
  | [] => [p]
  | q :: T => if q.1 < p.1 ∨ (q.1 = p.1 ∧ q.2 < p.2) then q :: insT p T else p :: q :: T
def delT (id : Int) (L : List (Int × Int)) : List (Int × Int) := L.filter fun p => !decide (p.2 = id)
theorem mem_insT {p q : Int × Int} {L : List (Int × Int)} : q ∈ insT p L ↔ q = p ∨ q ∈ L := by
  induction L with
  | nil => simp [insT]
  | cons a T ih =>
    unfold insT
    split
    · rw [List.mem_cons, ih, List.mem_cons]
      constructor
      · rintro (h | h | h)
        · exact .inr (.inl h)
        · exact .inl h
        · exact .inr (.inr h)
      · rintro (h | h | h)
        · exact .inr (.inl h)
        · exact .inl h
        · exact .inr (.inr h)
    · simp [List.mem_cons]
theorem srt_insT {p : Int × Int} {L : List (Int × Int)} (h : Srt L) (hn : p ∉ L) : Srt (insT p L) := by
  induction L with
  | nil => simp [insT, Srt]
  | cons a T ih =>
    have h' := List.pairwise_cons.1 h
    unfold insT
    split
    · rename_i hlt
      refine List.pairwise_cons.2 ⟨fun q hq => ?_, ih h'.2 (fun h => hn (List.mem_cons_of_mem _ h))⟩
      rcases mem_insT.1 hq with rfl | hq
      · exact hlt
      · exact h'.1 q hq
    · rename_i hlt
      have hpa : lt2 p a := by
        have : p ≠ a := fun e => hn (by rw [e]; exact List.mem_cons_self)
        have h2 : p.1 ≠ a.1 ∨ p.2 ≠ a.2 := by
          rcases Decidable.em (p.1 = a.1) with e | e
          · exact .inr (fun e' => this (Prod.ext e e'))
          · exact .inl e
        unfold lt2
        omega
      refine List.pairwise_cons.2 ⟨fun q hq => ?_, h⟩
      rcases List.mem_cons.1 hq with rfl | hq
      · exact hpa
      · have := h'.1 q hq
        unfold lt2 at *
        omega
theorem srt_delT {id : Int} {L : List (Int × Int)} (h : Srt L) : Srt (delT id L) := h.sublist List.filter_sublist
theorem mem_delT {id : Int} {L : List (Int × Int)} {q : Int × Int} : q ∈ delT id L ↔ q ∈ L ∧ q.2 ≠ id := by simp [delT]

theorem rep_new {now : Int} (h0 : 0 ≤ now) (h1 : now ≤ 1099511627776) : Rep ⟨now, fun _ => [], []⟩ [] :=
  ⟨inv_new h0 h1, List.Pairwise.nil, fun d x => by simp [dueOf, look]⟩
theorem Rep.uniq {s : Wh} {L : List (Int × Int)} (h : Rep s L) {d d' x : Int} (h1 : (d, x) ∈ L) (h2 : (d', x) ∈ L) : d = d' := by
  have := (h.mem d x).1 h1
  rw [(h.mem d' x).1 h2] at this
  injection this with e
  exact e.symm
/-- What 'Due' answers. -/
theorem Rep.due {s : Wh} {L : List (Int × Int)} (h : Rep s L) (id : Int) : (∃ d, (d, id) ∈ L ∧ dueR s id = (d, true)) ∨ ((∀ p ∈ L, p.2 ≠ id) ∧ dueR s id = (0, false)) := by
  rw [due_law h.inv]
  cases hd : dueOf s id with
  | some d => exact .inl ⟨d, (h.mem d id).2 hd, rfl⟩
  | none =>
    refine .inr ⟨fun p hp e => ?_, rfl⟩
    have := (h.mem p.1 p.2).1 hp
    rw [e, hd] at this
    cases this
theorem Rep.cancel {s : Wh} {L : List (Int × Int)} (h : Rep s L) (id : Int) : Rep (cancelR s id).1 (delT id L) ∧ (cancelR s id).2 = L.any (fun p => decide (p.2 = id)) ∧ (cancelR s id).1.now = s.now := by
  obtain ⟨h1, h2, h3, h4, h5⟩ := cancel_inv h.inv id
  refine ⟨⟨h1, srt_delT h.srt, fun d x => ?_⟩, ?_, h4⟩
  · rw [mem_delT, h.mem, h2]
    by_cases e : x = id
    · simp [e]
    · simp [e]
  · rw [h3, Bool.eq_iff_iff]
    simp only [List.any_eq_true, decide_eq_true_eq]
    constructor
    · intro hs
      obtain ⟨d, hd⟩ := Option.isSome_iff_exists.1 hs
      exact ⟨(d, id), (h.mem d id).2 hd, rfl⟩
    · rintro ⟨p, hp, e⟩
      have := (h.mem p.1 p.2).1 hp
      rw [e] at this
      rw [this]
      rfl
def setL (now : Int) (L : List (Int × Int)) (id due : Int) : List (Int × Int) := insT (max due (now + 1), id) (delT id L)
theorem Rep.set {s : Wh} {L : List (Int × Int)} (h : Rep s L) {id due : Int} (h0 : 0 ≤ id) (h1 : id ≤ 9223372036854775807) (hd0 : 0 ≤ due) (hd1 : due ≤ 2199023255552) :
    Rep (layR (cancelR s id).1 id (max due (s.now + 1))) (setL s.now L id due) ∧ (layR (cancelR s id).1 id (max due (s.now + 1))).now = s.now := by
  obtain ⟨k1, k2, k3, k4, k5⟩ := cancel_inv h.inv id
  obtain ⟨r1, r2, r3⟩ := h.cancel id
  have hn := h.inv.n0
  have hn1 := h.inv.n1
  obtain ⟨i1, i2⟩ := lay_inv (invX_of k1 k5) (due := max due (s.now + 1)) (fun x => Iff.rfl) (by rw [k4]; omega) (by omega) h0 h1
  refine ⟨⟨i1, srt_insT r1.srt (fun hm => (mem_delT.1 hm).2 rfl), fun d x => ?_⟩, k4⟩
  unfold setL
  rw [mem_insT, r1.mem]
  rw [i2 x, k2 x]
  by_cases e : x = id
  · subst e
    simp
    exact eq_comm
  · simp [e]
/-- The first tick. -/
def headO (L : List (Int × Int)) : Option Int := L.head?.map (·.1)
theorem isMin_uniq {o o' : Option Int} {D : Int → Prop} (h : IsMin o D) (k : IsMin o' D) : o = o' := by
  cases o with
  | none =>
    cases o' with
    | none => rfl
    | some b => exact absurd k.1 (h b)
  | some a =>
    cases o' with
    | none => exact absurd h.1 (k a)
    | some b =>
      have h1 := h.2 b k.1
      have h2 := k.2 a h.1
      rw [show a = b by omega]
theorem Rep.allD {s : Wh} {L : List (Int × Int)} (h : Rep s L) (d : Int) : allD s d ↔ ∃ x, (d, x) ∈ L := by
  constructor
  · rintro ⟨i, hi, p, hp, rfl⟩
    exact ⟨p.1, (h.mem _ _).2 (h.inv.due hi (look_of_mem (h.inv.ap i hi) hp))⟩
  · rintro ⟨x, hx⟩
    obtain ⟨i, hi, hl⟩ := h.inv.slot ((h.mem _ _).1 hx)
    exact ⟨i, hi, _, look_mem hl, rfl⟩
theorem Rep.head {s : Wh} {L : List (Int × Int)} (h : Rep s L) {o : Option Int} (ho : IsMin o (Go.Proofs.Ytejelihioendnaa.allD s)) : o = headO L := by
  refine isMin_uniq ho ?_
  unfold headO
  cases hL : L with
  | nil =>
    intro d hd
    obtain ⟨x, hx⟩ := (h.allD d).1 hd
    rw [hL] at hx
    simp at hx
  | cons a T =>
    refine ⟨(h.allD _).2 ⟨a.2, by rw [hL]; exact List.mem_cons_self⟩, fun d hd => ?_⟩
    obtain ⟨x, hx⟩ := (h.allD d).1 hd
    have hs := h.srt
    rw [hL] at hx hs
    rcases List.mem_cons.1 hx with e | hx
    · rw [← e]; exact Int.le_refl _
    · have := (List.pairwise_cons.1 hs).1 _ hx
      unfold lt2 at this
      simp only at this ⊢
      omega
theorem Rep.ids {s : Wh} {L : List (Int × Int)} (h : Rep s L) : (L.map (·.2)).Nodup :=
  List.pairwise_map.2 (h.srt.imp_of_mem fun {a b} ha hb hlt e => by
    have h1 := h.uniq (d := a.1) (d' := b.1) (x := a.2) ha (by rw [e]; exact hb)
    unfold lt2 at hlt
    omega)
theorem Rep.len {s : Wh} {L : List (Int × Int)} (h : Rep s L) : s.pl.length = L.length := by
  have : (s.pl.map (·.1)).Perm (L.map (·.2)) := by
    refine (List.perm_ext_iff_of_nodup (List.pairwise_map.2 h.inv.app) h.ids).2 fun x => ?_
    rw [List.mem_map, List.mem_map]
    constructor
    · rintro ⟨p, hp, rfl⟩
      cases hd : dueOf s p.1 with
      | none =>
        have := (h.inv.none_ p.1).1 hd
        rw [look_of_mem h.inv.app hp] at this
        cases this
      | some d => exact ⟨_, (h.mem d _).2 hd, rfl⟩
    · rintro ⟨p, hp, rfl⟩
      have hd := (h.mem _ _).1 hp
      unfold dueOf at hd
      cases hl : look p.2 s.pl with
      | none => rw [hl] at hd; cases hd
      | some q => exact ⟨_, look_mem hl, rfl⟩
  simpa using this.length_eq
/-- Those that fire at a tick. -/
def grp (n : Int) (L : List (Int × Int)) : List Int := (L.filter fun p => decide (p.1 = n)).map (·.2)
def rest (n : Int) (L : List (Int × Int)) : List (Int × Int) := L.filter fun p => !decide (p.1 = n)
theorem mem_grp {n x : Int} {L : List (Int × Int)} : x ∈ grp n L ↔ (n, x) ∈ L := by
  unfold grp
  rw [List.mem_map]
  constructor
  · rintro ⟨p, hp, rfl⟩
    rw [List.mem_filter] at hp
    have := of_decide_eq_true hp.2
    rw [← this]
    exact hp.1
  · intro h
    exact ⟨(n, x), List.mem_filter.2 ⟨h, by simp⟩, rfl⟩
theorem srt_grp {n : Int} {L : List (Int × Int)} (h : Srt L) : (grp n L).Pairwise (· < ·) := by
  unfold grp
  refine List.pairwise_map.2 ((h.sublist List.filter_sublist).imp_of_mem fun {a b} ha hb hlt => ?_)
  have h1 := of_decide_eq_true (List.mem_filter.1 ha).2
  have h2 := of_decide_eq_true (List.mem_filter.1 hb).2
  unfold lt2 at hlt
  omega
theorem grp_rest (n : Int) (L : List (Int × Int)) : (grp n L).length + (rest n L).length = L.length := by
  unfold grp rest
  rw [List.length_map]
  induction L with
  | nil => rfl
  | cons a T ih =>
    by_cases e : a.1 = n
    · simp [e] at ih ⊢; omega
    · simp [e] at ih ⊢; omega
/-- Some taken away. -/
def delAll (ids : List Int) (L : List (Int × Int)) : List (Int × Int) := L.filter fun p => !decide (p.2 ∈ ids)
theorem delAll_nil (L : List (Int × Int)) : delAll [] L = L := by simp [delAll]
theorem delAll_snoc (ids : List Int) (id : Int) (L : List (Int × Int)) : delT id (delAll ids L) = delAll (ids ++ [id]) L := by
  unfold delT delAll
  rw [List.filter_filter]
  congr 1
  funext p
  simp only [List.mem_append, List.mem_singleton]
  by_cases h1 : p.2 ∈ ids <;> by_cases h2 : p.2 = id <;> simp [h1, h2]
theorem Rep.delAll_grp {s : Wh} {L : List (Int × Int)} (h : Rep s L) (n : Int) : delAll (grp n L) L = rest n L := by
  unfold delAll rest
  refine List.filter_congr fun p hp => ?_
  congr 1
  rw [decide_eq_decide, mem_grp]
  exact ⟨fun k => h.uniq (d := p.1) (d' := n) hp k, fun e => by rw [← e]; exact hp⟩
/-- The wheel moved: its ticks are as they were. -/
theorem Rep.moved {s s' : Wh} {L : List (Int × Int)} (h : Rep s L) (hi : Inv s') (hd : ∀ x, dueOf s' x = dueOf s x) : Rep s' L := ⟨hi, h.srt, fun d x => by rw [hd]; exact h.mem d x⟩
theorem Rep.ge {s : Wh} {L : List (Int × Int)} (h : Rep s L) {tt : Int} (k : ∀ p ∈ L, tt ≤ p.1) : ∀ x d, dueOf s x = some d → tt ≤ d := fun x d hd => k _ ((h.mem d x).2 hd)
/-- The slot of a tick that is now: those due now. -/
theorem Rep.slot_now {s : Wh} {L : List (Int × Int)} (h : Rep s L) (hdn : ∀ j, 64 ≤ j → j ≤ 256 → DoneAt s j) {i : Nat} (hi : (i : Int) = s.now % 64) {l : List Int} (hl : l.Perm ((s.sl i).map (·.1))) (hs : l.Pairwise (· ≤ ·)) : l = grp s.now L := by
  have hn := h.inv.n0
  have hi64 : i < 64 := by omega
  have hnd : l.Nodup := (hl.nodup_iff).2 (List.pairwise_map.2 (h.inv.ap i (by omega)))
  refine int_ext ?_ (srt_grp h.srt) fun x => ?_
  · exact (hs.and hnd).imp (fun ⟨a, b⟩ => by omega)
  · rw [hl.mem_iff, mem_grp, h.mem, List.mem_map]
    constructor
    · rintro ⟨p, hp, rfl⟩
      have hlk := look_of_mem (h.inv.ap i (by omega)) hp
      have hd := h.inv.due (by omega) hlk
      obtain ⟨b1, _⟩ := h.inv.b i _ _ (by omega) hlk
      obtain ⟨l1, l2⟩ := h.inv.l0 i _ _ hi64 hlk
      rw [hd]
      congr 1
      omega
    · intro hd
      obtain ⟨j, hj, hlk⟩ := h.inv.slot hd
      by_cases hj64 : j < 64
      · obtain ⟨l1, l2⟩ := h.inv.l0 j _ _ hj64 hlk
        obtain rfl : j = i := by omega
        exact ⟨_, look_mem hlk, rfl⟩
      · have := hdn j (by omega) hj x _ hlk
        have h1 : 1 ≤ j / 64 ∧ j / 64 ≤ 4 := by omega
        have : 0 < P64 (j / 64) := by
          rcases (by omega : j / 64 = 1 ∨ j / 64 = 2 ∨ j / 64 = 3 ∨ j / 64 = 4) with e | e | e | e <;> rw [e] <;> decide
        omega
theorem Rep.slot_len {s : Wh} {L : List (Int × Int)} (h : Rep s L) {i : Nat} (hi : i ≤ 256) : (s.sl i).length ≤ L.length := by
  have : ((s.sl i).map (·.1)).Perm ((L.filter fun p => (look p.2 (s.sl i)).isSome).map (·.2)) := by
    refine (List.perm_ext_iff_of_nodup (List.pairwise_map.2 (h.inv.ap i hi)) (h.ids.sublist (List.filter_sublist.map _))).2 fun x => ?_
    rw [List.mem_map, List.mem_map]
    constructor
    · rintro ⟨p, hp, rfl⟩
      have hlk := look_of_mem (h.inv.ap i hi) hp
      exact ⟨(p.2, p.1), List.mem_filter.2 ⟨(h.mem _ _).2 (h.inv.due hi hlk), by simp [hlk]⟩, rfl⟩
    · rintro ⟨p, hp, rfl⟩
      obtain ⟨d, hd⟩ := Option.isSome_iff_exists.1 (List.mem_filter.1 hp).2
      exact ⟨_, look_mem hd, rfl⟩
  have := this.length_eq
  rw [List.length_map, List.length_map] at this
  rw [this]
  exact List.length_filter_le _ _
theorem rest_lt (n x : Int) (T : List (Int × Int)) : (rest n ((n, x) :: T)).length < ((n, x) :: T).length := by
  have := grp_rest n ((n, x) :: T)
  have h2 : x ∈ grp n ((n, x) :: T) := mem_grp.2 List.mem_cons_self
  have := List.length_pos_of_mem h2
  omega
/-- An advance. -/
def adv (tt : Int) (most : Nat) (now : Int) (L : List (Int × Int)) (fired : List Int) : Int × List (Int × Int) × List Int :=
  if fired.length < most then
    match L with
    | [] => (tt, [], fired)
    | (n, x) :: T => if tt < n then (tt, (n, x) :: T, fired) else adv tt most n (rest n ((n, x) :: T)) (fired ++ grp n ((n, x) :: T))
  else (now, L, fired)
termination_by L.length
decreasing_by exact rest_lt n x T
theorem srt_rest {n : Int} {L : List (Int × Int)} (h : Srt L) : Srt (rest n L) := h.sublist List.filter_sublist
end Go.Proofs.Ytejelihioendnaa
