/- What a call of an act's kind does to a disk, and what that means for its sums: plain lists and numbers. -/
import Derived.Test.YtkglcgekpgcdpaaApp
import Derived.Test.YtkglcgekpgcdpaaFin
set_option linter.unusedVariables false
set_option linter.unusedSimpArgs false
set_option linter.unusedSectionVars false
namespace Go.Proofs.Ytkglcgekpgcdpaa
open Go.RowKit

abbrev Apart (L : List (ByteArray × Fl)) : Prop := L.Pairwise (fun p q => p.1 ≠ q.1)
theorem sum_put (k : ByteArray) (f : Fl) (L : List (ByteArray × Fl)) : sumL (put k f L) = sumL L - (fileOf k L).s.size + f.s.size := by
  induction L with
  | nil => simp [put, sumL, fileOf, look]
  | cons p r ih =>
    unfold fileOf at ih ⊢
    simp only [look, put]
    split
    · rw [sumL_cons, sumL_cons]; simp; omega
    · rw [sumL_cons, sumL_cons, ih]; omega
theorem sum_del {k : ByteArray} {L : List (ByteArray × Fl)} (h : Apart L) : sumL (del k L) = sumL L - (fileOf k L).s.size := by
  cases hl : look k L with
  | none =>
    rw [del_new (look_none.1 hl)]
    unfold fileOf
    rw [hl]
    simp
  | some f =>
    obtain ⟨l1, l2, e⟩ := List.append_of_mem (look_mem hl)
    have e1 : del k L = l1 ++ l2 := by
      rw [e] at h ⊢
      obtain ⟨_, h2, h3⟩ := List.pairwise_append.1 h
      obtain ⟨h4, _⟩ := List.pairwise_cons.1 h2
      unfold del
      rw [List.filter_append, List.filter_cons, if_neg (by simp), List.filter_eq_self.2, List.filter_eq_self.2]
      · intro p hp
        simpa using (h4 p hp).symm
      · intro p hp
        simpa using h3 p hp (k, f) (by simp)
    have e2 : fileOf k L = f := by unfold fileOf; rw [hl]; rfl
    rw [e1, e2, e, sumL_app, sumL_app, sumL_cons]
    show _ = sumL l1 + ((f.s.size : Int) + _) - _
    omega
theorem sum_map_le (keep : Int) : ∀ {L : List (ByteArray × Fl)}, (∀ p ∈ L, p.2.ok) → sumL (crashL keep L) ≤ sumL L ∧ ∀ p ∈ crashL keep L, p.2.ok
  | [], _ => ⟨Int.le_refl _, by simp [crashL]⟩
  | p :: L, h => by
    obtain ⟨h1, h2⟩ := sum_map_le keep (fun q hq => h q (List.mem_cons_of_mem _ hq))
    obtain ⟨a0, a1, a2⟩ := h p (by simp)
    have hk : 0 ≤ kept keep p.2 ∧ kept keep p.2 ≤ p.2.s.size := by unfold kept; rw [imin_eq, imax_eq]; omega
    have hs : (cutF keep p.2).s.size = (kept keep p.2).toNat := by
      simp only [cutF, ByteArray.size_extract]
      omega
    have hok : (cutF keep p.2).ok := ⟨hk.1, by show kept keep p.2 ≤ ((cutF keep p.2).s.size : Int); rw [hs]; omega, by rw [hs]; omega⟩
    refine ⟨?_, ?_⟩
    · show sumL ((p.1, cutF keep p.2) :: crashL keep L) ≤ _
      rw [sumL_cons, sumL_cons]
      show ((cutF keep p.2).s.size : Int) + _ ≤ _
      rw [hs]
      omega
    · show ∀ q ∈ (p.1, cutF keep p.2) :: crashL keep L, q.2.ok
      intro q hq
      rcases List.mem_cons.1 hq with rfl | hq
      · exact hok
      · exact h2 q hq
/-- What every call keeps: the disk fits, its keep is a number of Go's, few changes have been counted. -/
structure Fits (k : Nat) (d d' : Dk) : Prop where
  room : d'.room = d.room
  ch0 : 0 ≤ d'.ch
  ch1 : d'.ch ≤ k + 1
  k0 : -9223372036854775808 ≤ d'.keep
  k1 : d'.keep ≤ 9223372036854775807
  fs : ∀ p ∈ d'.L, p.2.ok
  sum : sumL d'.L ≤ d.room
  len : d'.L.length ≤ 128
section
variable {k : Nat} {d : Dk} (hf : d.fit) (hk : d.ch ≤ k)
include hf hk
theorem Fits.same : Fits k d d := ⟨rfl, hf.ok.c0, by omega, hf.ok.k0, hf.ok.k1, hf.ok.fs, hf.sum, hf.len⟩
theorem Fits.crash (keep : Int) : Fits k d (d.crash keep) := by
  unfold Dk.crash
  cases d.off with
  | true => exact Fits.same hf hk
  | false =>
    obtain ⟨h1, h2⟩ := sum_map_le keep hf.ok.fs
    have := hf.sum
    simp only [Bool.false_eq_true, if_false]
    exact ⟨rfl, hf.ok.c0, by show d.ch ≤ _; omega, (by show (-9223372036854775808 : Int) ≤ 0; decide), (by show (0 : Int) ≤ 9223372036854775807; decide), h2, by show sumL (crashL keep d.L) ≤ _; omega, by simpa [crashL] using hf.len⟩
theorem Fits.change (first : Bool) {L' : List (ByteArray × Fl)} (h1 : ∀ p ∈ L', p.2.ok) (h2 : sumL L' ≤ d.room) (h3 : L'.length ≤ 128) : Fits k d (changeR d first L').1 := by
  have hc0 := hf.ok.c0
  have hs := hf.sum
  have hm : Fits k d (d.more.with_ L') := ⟨rfl, by show 0 ≤ d.ch + 1; omega, by show d.ch + 1 ≤ _; omega, hf.ok.k0, hf.ok.k1, h1, h2, h3⟩
  unfold changeR
  split
  · have key : ∀ e : Dk, e.room = d.room → e.ch = d.ch + 1 → e.keep = d.keep → (∀ p ∈ e.L, p.2.ok) → sumL e.L ≤ d.room → e.L.length ≤ 128 → Fits k d (e.crash d.keep) := by
      intro e e1 e2 e3 e4 e5 e6
      unfold Dk.crash
      cases e.off with
      | true => rw [if_pos rfl]; exact ⟨e1, by omega, by omega, by rw [e3]; exact hf.ok.k0, by rw [e3]; exact hf.ok.k1, e4, e5, e6⟩
      | false =>
        obtain ⟨g1, g2⟩ := sum_map_le d.keep e4
        simp only [Bool.false_eq_true, if_false]
        exact ⟨e1, by show 0 ≤ e.ch; omega, by show e.ch ≤ _; omega, (by show (-9223372036854775808 : Int) ≤ 0; decide), (by show (0 : Int) ≤ 9223372036854775807; decide), g2, by show sumL (crashL _ e.L) ≤ _; omega, by simpa [crashL] using e6⟩
    cases first with
    | true => exact key _ rfl rfl rfl h1 h2 h3
    | false => exact key _ rfl rfl rfl hf.ok.fs hs hf.len
  · exact hm
end
theorem change_code (d : Dk) (first : Bool) (L' : List (ByteArray × Fl)) : ((changeR d first L').2 = 7 ∧ d.ch + 1 = d.at_) ∨ ((changeR d first L').2 = 0 ∧ (changeR d first L').1 = d.more.with_ L' ∧ d.ch + 1 ≠ d.at_) := by
  unfold changeR
  split
  · exact .inl ⟨rfl, by assumption⟩
  · exact .inr ⟨rfl, rfl, by assumption⟩

def armR (d : Dk) (a k : Int) : Dk := { d with at_ := a, keep := k, ch := 0 }
def startR (d : Dk) : Dk := { d with off := false }
def doesR (d : Dk) (k : Int) (name s : ByteArray) (ca ck : Int) : Dk × Int :=
  if k = 0 then appendR d name s else if k = 1 then syncR d name else if k = 2 then renameR d name s else if k = 3 then removeR d name
  else if k = 4 then (armR d ca ck, 0) else if k = 5 then (d.crash ck, 0) else if k = 6 then (startR d, 0) else (d, 0)

/-- A call of the four kinds: it is refused, and nothing has turned; or it is a change. -/
structure Chg (d : Dk) (k : Int) (name s : ByteArray) (r : Dk × Int) : Prop where
  out : (r.1 = d ∧ r.2 ≠ 0 ∧ (d.off = false → r.2 ≠ 7)) ∨ (d.off = false ∧ ∃ first L', r = changeR d first L' ∧ (∀ p ∈ L', p.2.ok) ∧ sumL L' ≤ d.room ∧ L'.length ≤ 128 ∧
    (k = 0 → sumL L' = sumL d.L + s.size) ∧ (k = 3 → sumL L' = sumL d.L - (findR d [] name).1.s.size ∧ (L'.length : Int) = d.L.length - 1) ∧ (k = 1 → sumL L' = sumL d.L) ∧ (k = 2 → sumL L' ≤ sumL d.L))
theorem may_code {off : Bool} {l : List ByteArray} (h : mayE off l ≠ 0) : off = false → mayE off l ≠ 7 := by
  rintro rfl
  unfold mayE at h ⊢
  simp only [Bool.false_eq_true, if_false] at h ⊢
  split <;> decide
theorem find_code {d : Dk} {l : List ByteArray} {name : ByteArray} (h : (findR d l name).2 ≠ 0) : d.off = false → (findR d l name).2 ≠ 7 := by
  intro ho
  unfold findR at h ⊢
  by_cases hm : mayE d.off (l ++ [name]) = 0
  · rw [if_pos hm] at h ⊢
    cases hl : look name d.L with
    | none => simp
    | some f => simp
  · rw [if_neg hm] at h ⊢
    exact may_code hm ho
section
variable {d : Dk} (hf : d.fit) (ha : Apart d.L) (name s : ByteArray)
include hf
theorem append_chg (hs : s.size ≤ 2000) : Chg d 0 name s (appendR d name s) := by
  refine ⟨?_⟩
  unfold appendR
  by_cases hm : mayE d.off [name] = 0
  · rw [if_pos hm]
    cases hfu : fullB d name s with
    | true => exact .inl ⟨rfl, by simp, fun _ => by simp⟩
    | false =>
      have ho := (may_zero hm).1
      have hsum := hf.sum
      have hr1 := hf.r1
      simp only [fullB, Bool.or_eq_false_iff, decide_eq_false_iff_not, Bool.and_eq_false_iff] at hfu
      obtain ⟨f1, f2⟩ := hfu
      have hfo := fileOf_ok hf.ok.fs name
      have hle := fileOf_le d.L name
      have esum : sumL (put name ⟨(fileOf name d.L).s ++ s, (fileOf name d.L).n⟩ d.L) = sumL d.L + s.size := by rw [sum_put]; simp; omega
      refine .inr ⟨ho, true, put name ⟨(fileOf name d.L).s ++ s, (fileOf name d.L).n⟩ d.L, by rw [if_neg (by decide)], put_ok hf.ok.fs name ⟨hfo.n0, ?_, ?_⟩, by rw [esum]; omega, ?_, fun _ => esum, fun h => absurd h (by decide), fun h => absurd h (by decide), fun h => absurd h (by decide)⟩
      · have := hfo.n1
        simp
        omega
      · simp
        omega
      · rw [put_len]
        have := hf.len
        cases hl : look name d.L with
        | none =>
          rw [hl] at f2
          simp at f2
          simp
          omega
        | some f => simp; omega
  · rw [if_neg hm]
    exact .inl ⟨rfl, hm, may_code hm⟩
theorem sync_chg : Chg d 1 name s (syncR d name) := by
  refine ⟨?_⟩
  unfold syncR
  by_cases hz : (findR d [] name).2 = 0
  · rw [if_pos hz]
    have hm : d.off = false := by
      unfold findR at hz
      by_cases hm : mayE d.off ([] ++ [name]) = 0
      · exact (may_zero hm).1
      · rw [if_neg hm] at hz; exact absurd hz hm
    obtain ⟨_, _, hl⟩ := findR_zero hz
    generalize (findR d [] name).1 = f at hl
    have hfo : f.ok := hf.ok.fs _ (look_mem hl)
    have efo : fileOf name d.L = f := by unfold fileOf; rw [hl]; rfl
    have esum : sumL (put name ⟨f.s, f.s.size⟩ d.L) = sumL d.L := by rw [sum_put, efo]; simp
    have hsum := hf.sum
    refine .inr ⟨hm, false, _, rfl, put_ok hf.ok.fs name ⟨by simp, by simp, hfo.n2⟩, by rw [esum]; omega, ?_, fun h => absurd h (by decide), fun h => absurd h (by decide), fun _ => esum, fun h => absurd h (by decide)⟩
    rw [put_len, hl]
    simpa using hf.len
  · rw [if_neg hz]
    exact .inl ⟨rfl, hz, find_code hz⟩
theorem off_of {l : List ByteArray} (hz : (findR d l name).2 = 0) : d.off = false := by
  unfold findR at hz
  by_cases hm : mayE d.off (l ++ [name]) = 0
  · exact (may_zero hm).1
  · rw [if_neg hm] at hz; exact absurd hz hm
include ha
theorem remove_chg : Chg d 3 name s (removeR d name) := by
  refine ⟨?_⟩
  unfold removeR
  by_cases hz : (findR d [] name).2 = 0
  · rw [if_pos hz]
    have hm := off_of hf name hz
    obtain ⟨_, _, hl⟩ := findR_zero hz
    generalize (findR d [] name).1 = f at hl
    have efo : fileOf name d.L = f := by unfold fileOf; rw [hl]; rfl
    have esum : sumL (del name d.L) = sumL d.L - f.s.size := by rw [sum_del ha, efo]
    have elen := del_len (a := name) ha
    rw [hl] at elen
    simp at elen
    have hsum := hf.sum
    have hlen := hf.len
    exact .inr ⟨hm, false, _, rfl, del_ok hf.ok.fs name, by rw [esum]; omega, by omega, fun h => absurd h (by decide), fun _ => ⟨esum, by omega⟩, fun h => absurd h (by decide), fun h => absurd h (by decide)⟩
  · rw [if_neg hz]
    exact .inl ⟨rfl, hz, find_code hz⟩
theorem rename_chg : Chg d 2 name s (renameR d name s) := by
  refine ⟨?_⟩
  unfold renameR
  by_cases hz : (findR d [s] name).2 = 0
  · rw [if_pos hz]
    have hm := off_of hf name hz
    obtain ⟨_, _, hl⟩ := findR_zero hz
    generalize (findR d [s] name).1 = f at hl
    have hfo : f.ok := hf.ok.fs _ (look_mem hl)
    have efo : fileOf name d.L = f := by unfold fileOf; rw [hl]; rfl
    have esum : sumL (put s f (del name d.L)) = sumL d.L - (fileOf s (del name d.L)).s.size := by rw [sum_put, sum_del ha, efo]; omega
    have elen := del_len (a := name) ha
    rw [hl] at elen
    simp at elen
    have hsum := hf.sum
    have hlen := hf.len
    refine .inr ⟨hm, false, _, rfl, put_ok (del_ok hf.ok.fs name) s hfo, by rw [esum]; omega, ?_, fun h => absurd h (by decide), fun h => absurd h (by decide), fun h => absurd h (by decide), fun _ => by rw [esum]; omega⟩
    rw [put_len]
    split <;> omega
  · rw [if_neg hz]
    exact .inl ⟨rfl, hz, find_code hz⟩
theorem does_chg {k : Int} (h0 : 0 ≤ k) (h3 : k ≤ 3) (ca ck : Int) (hs : s.size ≤ 2000) : Chg d k name s (doesR d k name s ca ck) := by
  have : k = 0 ∨ k = 1 ∨ k = 2 ∨ k = 3 := by omega
  rcases this with rfl | rfl | rfl | rfl
  · exact append_chg hf name s hs
  · exact sync_chg hf name s
  · exact rename_chg hf ha name s
  · exact remove_chg hf ha name s
theorem does_fits {n : Nat} (hn : d.ch ≤ n) (k : Int) (ca ck : Int) (hs : s.size ≤ 2000) (c0 : -9223372036854775808 ≤ ck) (c1 : ck ≤ 9223372036854775807) : Fits n d (doesR d k name s ca ck).1 := by
  by_cases hk : 0 ≤ k ∧ k ≤ 3
  · rcases (does_chg hf ha name s hk.1 hk.2 ca ck hs).out with ⟨h1, _⟩ | ⟨_, first, L', h1, h2, h3, h4, _⟩
    · rw [h1]; exact Fits.same hf hn
    · rw [h1]; exact Fits.change hf hn first h2 h3 h4
  · unfold doesR
    rw [if_neg (by omega), if_neg (by omega), if_neg (by omega), if_neg (by omega)]
    split
    · exact ⟨rfl, Int.le_refl _, by show (0 : Int) ≤ _; omega, c0, c1, hf.ok.fs, hf.sum, hf.len⟩
    split
    · exact Fits.crash hf hn ck
    split
    · exact ⟨rfl, hf.ok.c0, by show d.ch ≤ _; omega, hf.ok.k0, hf.ok.k1, hf.ok.fs, hf.sum, hf.len⟩
    · exact Fits.same hf hn
end
theorem fit_of_fits {k : Nat} {d d' : Dk} (h : Fits k d d') (hf : d.fit) (hk : k ≤ 1000000) : d'.fit :=
  ⟨⟨h.ch0, by have := h.ch1; omega, h.k0, h.k1, h.fs⟩, by rw [h.room]; exact hf.r0, by rw [h.room]; exact hf.r1, by rw [h.room]; exact h.sum, h.len⟩
/-- What the law DiskRoom asks of one act. -/
theorem room_law {d : Dk} (hf : d.fit) (ha : Apart d.L) (k : Int) (name s : ByteArray) (ca ck : Int) (hs : s.size ≤ 2000) :
    ((doesR d k name s ca ck).2 ≠ 0 → (doesR d k name s ca ck).2 ≠ 7 → sumL (doesR d k name s ca ck).1.L = sumL d.L ∧ (doesR d k name s ca ck).1.L.length = d.L.length) ∧
    ((doesR d k name s ca ck).2 = 0 → (k = 0 → sumL (doesR d k name s ca ck).1.L = sumL d.L + s.size) ∧ (k = 3 → sumL (doesR d k name s ca ck).1.L = sumL d.L - (findR d [] name).1.s.size ∧ ((doesR d k name s ca ck).1.L.length : Int) = d.L.length - 1) ∧
      (k = 1 → sumL (doesR d k name s ca ck).1.L = sumL d.L)) := by
  by_cases hk : 0 ≤ k ∧ k ≤ 3
  · rcases (does_chg hf ha name s hk.1 hk.2 ca ck hs).out with ⟨h1, h2, _⟩ | ⟨_, first, L', h1, h2, h3, h4, h5, h6, h7, _⟩
    · exact ⟨fun _ _ => by rw [h1]; exact ⟨rfl, rfl⟩, fun h => absurd h h2⟩
    · rw [h1]
      rcases change_code d first L' with ⟨c, _⟩ | ⟨c, e, _⟩
      · exact ⟨fun _ h => absurd c h, fun h => by rw [c] at h; exact absurd h (by decide)⟩
      · rw [e]
        exact ⟨fun h => absurd c h, fun _ => ⟨h5, h6, h7⟩⟩
  · have e : (doesR d k name s ca ck).2 = 0 := by
      unfold doesR
      rw [if_neg (by omega), if_neg (by omega), if_neg (by omega), if_neg (by omega)]
      split
      · rfl
      split
      · rfl
      split <;> rfl
    exact ⟨fun h => absurd e h, fun _ => ⟨fun h => by omega, fun h => by omega, fun h => by omega⟩⟩
end Go.Proofs.Ytkglcgekpgcdpaa
