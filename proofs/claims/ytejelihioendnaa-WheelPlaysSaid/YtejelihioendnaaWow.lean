/- Wheels of a law's own. -/
import Derived.Test.YtejelihioendnaaWaw
set_option linter.unusedVariables false
set_option linter.unusedSimpArgs false
namespace Go.Proofs.Ytejelihioendnaa
open Go.RowKit

structure Own (w0 wr : World) (g : Nat) (F : Nat → Prop) (now : Int) (L : List (Int × Int)) : Prop where
  at_ : At wr g F now L
  fresh : ∀ i, F i → w0.heap.size ≤ i
  upd : Upd w0 wr Nope
theorem Own.step {w0 wr w' : World} {g : Nat} {F F' : Nat → Prop} {now now' : Int} {L L' : List (Int × Int)} (h : Own w0 wr g F now L) (hg : Gr wr w' F F') (ha : At w' g F' now' L') : Own w0 w' g F' now' L' :=
  ⟨ha, fun i hi => by
    rcases hg.new i hi with h1 | h1
    · exact h.fresh i h1
    · have := h.upd.size; omega, h.upd.trans hg.upd (fun _ _ h => h) (fun i hi hf => absurd (h.fresh i hf) (by omega))⟩
theorem Own.nn {w0 wr w' : World} {g : Nat} {F : Nat → Prop} {now : Int} {L : List (Int × Int)} (h : Own w0 wr g F now L) (u : Upd wr w' Nope) : Own w0 w' g F now L :=
  ⟨h.at_.nn u, h.fresh, h.upd.nn u⟩
/-- Two of them, apart. -/
structure Two (w0 wr : World) (g : Nat) (F : Nat → Prop) (now : Int) (L : List (Int × Int)) (k : Nat) (G : Nat → Prop) (nok : Int) (M : List (Int × Int)) : Prop where
  a : Own w0 wr g F now L
  b : Own w0 wr k G nok M
  ap : ∀ i, F i → ¬ G i
section
variable {w0 wr w' : World} {g k : Nat} {F F' G G' : Nat → Prop} {now now' nok nok' : Int} {L L' M M' : List (Int × Int)}
theorem Two.swap (h : Two w0 wr g F now L k G nok M) : Two w0 wr k G nok M g F now L := ⟨h.b, h.a, fun i hg hf => h.ap i hf hg⟩
theorem Two.stepA (h : Two w0 wr g F now L k G nok M) (hg : Gr wr w' F F') (ha : At w' g F' now' L') : Two w0 w' g F' now' L' k G nok M :=
  have hA := h.a.step hg ha
  ⟨hA, ⟨h.b.at_.apart hg.upd (fun i hi hf => h.ap i hf hi), h.b.fresh, hA.upd⟩, fun i hi hG => by
    rcases hg.new i hi with h1 | h1
    · exact h.ap i h1 hG
    · have := h.b.at_.lt hG; omega⟩
theorem Two.stepB (h : Two w0 wr g F now L k G nok M) (hg : Gr wr w' G G') (ha : At w' k G' nok' M') : Two w0 w' g F now L k G' nok' M' := (h.swap.stepA hg ha).swap
theorem Two.nn (h : Two w0 wr g F now L k G nok M) (u : Upd wr w' Nope) : Two w0 w' g F now L k G nok M := ⟨h.a.nn u, h.b.nn u, h.ap⟩
end
/-! ### plain -/
theorem insT_len (p : Int × Int) (L : List (Int × Int)) : (insT p L).length = L.length + 1 := by
  induction L with
  | nil => rfl
  | cons a T ih =>
    unfold insT
    split
    · simp [ih]
    · simp
theorem delT_new {id : Int} {L : List (Int × Int)} (h : ∀ p ∈ L, p.2 ≠ id) : delT id L = L := by
  unfold delT
  exact List.filter_eq_self.2 fun p hp => by simpa using h p hp
theorem setT_of {now id due : Int} {L : List (Int × Int)} (h0 : 0 ≤ id) (h1 : 0 ≤ due) (h2 : due ≤ 2199023255552) : setT now L id due = setL now L id due ∧ setC id due = 0 := by
  unfold setT setC
  rw [if_neg (by omega), if_neg (by omega)]
  exact ⟨rfl, rfl⟩
/-- What has been set, so far. -/
def SetK (now : Int) (l : List Int) (k : Nat) (L : List (Int × Int)) : Prop := L.length = k ∧ ∀ d x, (d, x) ∈ L ↔ ∃ i, ∃ h : i < l.length, i < k ∧ x = (i : Int) ∧ d = max l[i] (now + 1)
theorem SetK.start (now : Int) (l : List Int) : SetK now l 0 [] := ⟨rfl, fun d x => by simp⟩
theorem SetK.next {now : Int} {l : List Int} {k : Nat} {L : List (Int × Int)} (h : SetK now l k L) (hk : k < l.length) : SetK now l (k + 1) (setL now L k l[k]) := by
  have hn : delT (k : Int) L = L := delT_new fun p hp => by
    obtain ⟨i, hi, hik, hx, _⟩ := (h.2 p.1 p.2).1 hp
    omega
  unfold setL
  rw [hn]
  refine ⟨by rw [insT_len, h.1], fun d x => ?_⟩
  rw [mem_insT, h.2]
  constructor
  · rintro (e | ⟨i, hi, hik, hx, hd⟩)
    · cases e
      exact ⟨k, hk, by omega, rfl, rfl⟩
    · exact ⟨i, hi, by omega, hx, hd⟩
  · rintro ⟨i, hi, hik, hx, hd⟩
    by_cases e : i = k
    · subst e
      left
      rw [hx, hd]
    · exact .inr ⟨i, hi, by omega, hx, hd⟩
theorem advR_quiet {now tt most : Int} {L : List (Int × Int)} (h : advOk now tt most = true) (hL : ∀ p ∈ L, tt < p.1) : advR now L tt most = ⟨[], tt, 0, tt, L⟩ := by
  unfold advR
  have hm : 1 ≤ most := by simp [advOk] at h; omega
  rw [h, adv_stop (by simp; omega) (fun n x T e => hL (n, x) (by rw [e]; exact List.mem_cons_self))]
  rfl
theorem head_le {n x : Int} {T : List (Int × Int)} (hs : Srt ((n, x) :: T)) : ∀ p ∈ (n, x) :: T, n ≤ p.1 := fun p hp => by
  rcases List.mem_cons.1 hp with rfl | hp
  · exact Int.le_refl _
  · have := (List.pairwise_cons.1 hs).1 p hp
    unfold lt2 at this
    simp only at this
    omega
theorem mem_rest {n : Int} {L : List (Int × Int)} {p : Int × Int} : p ∈ rest n L ↔ p ∈ L ∧ p.1 ≠ n := by simp [rest]
theorem advR_one {now n x : Int} {T : List (Int × Int)} (h : advOk now n 1048576 = true) (hs : Srt ((n, x) :: T)) (hl : ((n, x) :: T).length ≤ 1000000) : advR now ((n, x) :: T) n 1048576 = ⟨grp n ((n, x) :: T), n, 0, n, rest n ((n, x) :: T)⟩ := by
  unfold advR
  have h2 := grp_rest n ((n, x) :: T)
  rw [h, adv_go (by decide) (Int.le_refl n), adv_stop (by simp; omega) (fun n' x' T' e => by
    have hm := mem_rest.1 (show (n', x') ∈ rest n ((n, x) :: T) by rw [e]; exact List.mem_cons_self)
    have := head_le hs _ hm.1
    have := hm.2
    simp only at *
    omega)]
  rfl
end Go.Proofs.Ytejelihioendnaa
