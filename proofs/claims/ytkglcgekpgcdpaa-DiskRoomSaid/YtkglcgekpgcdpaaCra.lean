/- The power fails. -/
import Derived.Test.YtkglcgekpgcdpaaUse
set_option linter.unusedVariables false
set_option linter.unusedSimpArgs false
namespace Go.Proofs.Ytkglcgekpgcdpaa
open Go.RowKit

def kept (keep : Int) (f : Fl) : Int := f.n + imin (imax keep 0) (f.s.size - f.n)
def cutF (keep : Int) (f : Fl) : Fl := ⟨f.s.extract 0 (kept keep f).toNat, kept keep f⟩
def crashL (keep : Int) (L : List (ByteArray × Fl)) : List (ByteArray × Fl) := L.map fun p => (p.1, cutF keep p.2)
def Dk.crash (d : Dk) (keep : Int) : Dk := if d.off then d else ⟨d.room, crashL keep d.L, true, 0, 0, d.ch⟩
/-- What is asked of a file. -/
structure Fl.ok (f : Fl) : Prop where
  n0 : 0 ≤ f.n
  n1 : f.n ≤ f.s.size
  n2 : (f.s.size : Int) ≤ 4611686018427387904
theorem look_crash (keep : Int) (k : ByteArray) (L : List (ByteArray × Fl)) : look k (crashL keep L) = (look k L).map (cutF keep) := by
  induction L with
  | nil => rfl
  | cons p L ih =>
    simp only [crashL, List.map_cons, look] at ih ⊢
    rw [ih]
    split <;> simp
theorem crash_keys (keep : Int) (L : List (ByteArray × Fl)) : (crashL keep L).map (·.1) = L.map (·.1) := by simp [crashL]
theorem look_of_mem {α β : Type} [DecidableEq α] {L : List (α × β)} (h : L.Pairwise (fun p q => p.1 ≠ q.1)) {a : α} {c : β} (hm : (a, c) ∈ L) : look a L = some c := by
  obtain ⟨j, hj⟩ := List.getElem?_of_mem hm
  exact (at_there h hj).1
theorem list_of_look {α β : Type} [DecidableEq α] : ∀ {L L' : List (α × β)}, L.map (·.1) = L'.map (·.1) → L.Pairwise (fun p q => p.1 ≠ q.1) → (∀ p ∈ L, look p.1 L = look p.1 L') → L = L'
  | [], [], _, _, _ => rfl
  | [], _ :: _, h, _, _ => by simp at h
  | _ :: _, [], h, _, _ => by simp at h
  | p :: L, q :: L', h, hd, hl => by
    simp only [List.map_cons, List.cons.injEq] at h
    obtain ⟨h1, h2⟩ := List.pairwise_cons.1 hd
    have e := hl p (by simp)
    simp only [look, if_pos, h.1] at e
    have hpq : p = q := by cases p; cases q; simp_all
    have hne : ∀ r ∈ L, ¬ p.1 = r.1 := h1
    rw [hpq, list_of_look h.2 h2 (fun r hr => by
      have := hl r (List.mem_cons_of_mem _ hr)
      simp only [look, hne r hr, if_false] at this
      rw [if_neg (by rw [← hpq]; exact hne r hr)] at this
      exact this)]
/-- What the map holds while the power fails: who is to come is as it was. -/
structure Half (keep : Int) (L Lr rest : List (ByteArray × Fl)) : Prop where
  keys : Lr.map (·.1) = L.map (·.1)
  sub : ∀ q ∈ rest, q ∈ L
  at_ : ∀ k, look k Lr = if rest.any (fun q => q.1 = k) then look k L else (look k L).map (cutF keep)
theorem Half.start (keep : Int) (L : List (ByteArray × Fl)) : Half keep L L L := by
  refine ⟨rfl, fun _ h => h, fun k => ?_⟩
  split
  · rfl
  · rename_i h
    have : look k L = none := look_none.2 (fun p hp e => h (List.any_eq_true.2 ⟨p, hp, by simpa using e⟩))
    rw [this]
    rfl
theorem Half.done {keep : Int} {L Lr : List (ByteArray × Fl)} (h : Half keep L Lr []) (hd : L.Pairwise (fun p q => p.1 ≠ q.1)) : Lr = crashL keep L := by
  have e := h.keys.trans (crash_keys keep L).symm
  refine list_of_look e ?_ (fun p _ => by rw [h.at_, look_crash]; simp)
  have := List.pairwise_map.2 hd
  rw [← h.keys] at this
  exact List.pairwise_map.1 this
theorem Half.step {keep : Int} {L Lr l1 l2 : List (ByteArray × Fl)} {k : ByteArray} {f : Fl} (h : Half keep L Lr (l1 ++ (k, f) :: l2)) (hd : L.Pairwise (fun p q => p.1 ≠ q.1)) (hne : ∀ q ∈ l1 ++ l2, q.1 ≠ k) :
    Half keep L (put k (cutF keep f) Lr) (l1 ++ l2) ∧ look k Lr ≠ none := by
  have hm : (k, f) ∈ L := h.sub _ (by simp)
  have hl := look_of_mem hd hm
  have hk : look k Lr = some f := by rw [h.at_, if_pos (by simp), hl]
  refine ⟨⟨by rw [put_keys (by rw [hk]; simp), h.keys], fun q hq => h.sub q (by simp at hq ⊢; rcases hq with h | h; exact .inl h; exact .inr (.inr h)), fun k' => ?_⟩, by rw [hk]; simp⟩
  rw [look_put]
  by_cases e : k' = k
  · subst e
    rw [if_pos rfl, if_neg, hl]
    · rfl
    · intro ha
      obtain ⟨q, hq, e⟩ := List.any_eq_true.1 ha
      exact hne q hq (by simpa using e)
  · rw [if_neg e, h.at_]
    have : (l1 ++ (k, f) :: l2).any (fun q => decide (q.1 = k')) = (l1 ++ l2).any (fun q => decide (q.1 = k')) := by
      simp only [List.any_append, List.any_cons, decide_eq_false (show ¬ k = k' from fun h => e h.symm), Bool.false_or]
    simp only [this]
attribute [local go_sem] bmin2 bmax2 bmin_two bmax_two

set_option maxHeartbeats 2000000 in
theorem crash_any {w : World} {g b : Nat} {d : Dk} (h : DK w g b d) (keep : Int) (hf : ∀ p ∈ d.L, p.2.ok) (hk : -9223372036854775808 ≤ keep ∧ keep ≤ 9223372036854775807) :
    Calls Try.prog 22 #[.pointer (some ⟨g, 0, none⟩), .int .i64 keep] w fun e w' => e = .returned (.tuple #[]) ∧ DK w' g b (d.crash keep) ∧ Upd w w' (fun i => i = g ∨ i = b) := by
  have c1 := h.c1
  have c2 := h.c2
  cases hoff : d.off with
  | true =>
    rw [hoff] at c2
    have e : d.crash keep = d := by unfold Dk.crash; rw [hoff]; rfl
    rw [e]
    have H := Lib.hid h
    clear h
    go_enter Try.func22, Try.ntmps22
    go_wp2
    go_returns
    exact ⟨rfl, H.out, Upd.refl _ _⟩
  | false =>
    rw [hoff] at c2
    have e : d.crash keep = ⟨d.room, crashL keep d.L, true, 0, 0, d.ch⟩ := by unfold Dk.crash; rw [hoff]; rfl
    rw [e]
    have hm := h.mp
    have hb := h.blk
    have hne := h.ne
    have hap := hm.apart
    have hlg := hb.lt
    have hlb := hm.lt
    have hok := hm.ok
    unfold Dk.cells at hb
    clear h e
    generalize d.L = L at hm hf hap hok ⊢
    generalize d.room = room at hb ⊢
    generalize d.ch = ch at hb ⊢
    have HB := Lib.hid hb
    have HF := Lib.hid hf
    have HO := Lib.hid hok
    clear hb hf hok
    have hne' : g ≠ b := fun e => hne e.symm
    go_enter Try.func22, Try.ntmps22
    go_wp2_with (first | (at_range; refine wp_rangeM hm rfl _ rfl rfl ?_; intro w0 hr0 hu0 hz0) | go_in)
    go_frame
    go_loopw [16] (fun s3 wr => ∃ Lr rest, Rng MF wr b w.heap.size Lr rest ∧ Half keep L Lr rest ∧ Upd w wr (· = b)) (fun _ wr => wr.rangeLeft b w.heap.size)
    case atStart => exact ⟨L, L, hr0, Half.start _ _, hu0.mono (fun _ _ h => h.elim)⟩
    case round =>
      obtain ⟨Lr, rest, hrg, hhf, hu⟩ := hrel
      have hbr := HB.out.upd hu hne'
      have c1r : wr.cell? ⟨g, 1, none⟩ = some (.map (some b)) := (hbr.cell 1).trans rfl
      go_wp2_with (first | (at_next; refine nextF hrg rfl _ rfl rfl ?_ ?_) | go_in)
      · rintro rfl
        have hmr := hrg.mp
        rw [hhf.done hap] at hmr
        have f2 := hbr.frozen 2
        have f3 := hbr.frozen 3
        have f4 := hbr.frozen 4
        have c2r : wr.cell? ⟨g, 2, none⟩ = some (.bool d.off) := (hbr.cell 2).trans rfl
        have c3r : wr.cell? ⟨g, 3, none⟩ = some (.int .i64 d.at_) := (hbr.cell 3).trans rfl
        have c4r : wr.cell? ⟨g, 4, none⟩ = some (.int .i64 d.keep) := (hbr.cell 4).trans rfl
        go_wp2
        go_end0
        refine ⟨rfl, ⟨?_, ?_⟩, ?_⟩
        · have := ((hbr.set 2 (.bool true)).set 3 (.int .i64 0)).set 4 (.int .i64 0)
          simpa [Dk.cells] using this
        · exact ((hmr.set (a := ⟨g, 2, none⟩) hne _).set (a := ⟨g, 3, none⟩) hne _).set (a := ⟨g, 4, none⟩) hne _
        · have hu' : Upd w wr (fun i => i = g ∨ i = b) := hu.mono (fun _ _ h => Or.inr h)
          exact ((hu'.set ⟨g, 2, none⟩ _ (.inl (.inl rfl))).set ⟨g, 3, none⟩ _ (.inl (.inl rfl))).set ⟨g, 4, none⟩ _ (.inl (.inl rfl))
      · intro l1 k s n l2 w1 hre hr1 hmem hne1 hu1 hz1 hen
        subst hre
        have hne1' : ∀ q ∈ l1 ++ l2, q.1 ≠ k := fun q hq => hne1 q.1 q.2 (by simpa using hq)
        obtain ⟨hst, hthere⟩ := hhf.step hap hne1'
        have hok := HF.out _ (hhf.sub (k, ⟨s, n⟩) (by simp))
        have o0 : 0 ≤ n := hok.n0
        have o1 : n ≤ s.size := hok.n1
        have o2 : (s.size : Int) ≤ 4611686018427387904 := hok.n2
        have hlen : (l1 ++ (k, (⟨s, n⟩ : Fl)) :: l2).length = (l1 ++ l2).length + 1 := by simp; omega
        have hm1 := hrg.left_eq
        rw [hlen] at hm1
        clear hok hhf hrg hmem hlen
        have ha1 := imax_eq keep 0
        have ha2 := imin_eq (imax keep 0) (s.size - n)
        have v1 : wrap64 (s.size - n) = s.size - n := wrap64_in (by omega) (by omega)
        have v2 : wrap64 (n + imin (imax keep 0) (s.size - n)) = kept keep ⟨s, n⟩ := by rw [wrap64_in (by omega) (by omega)]; rfl
        have k0 : 0 ≤ kept keep ⟨s, n⟩ := by simp only [kept]; omega
        have k1 : kept keep ⟨s, n⟩ ≤ s.size := by simp only [kept]; omega
        have hcf : cutF keep ⟨s, n⟩ = ⟨s.extract 0 (kept keep ⟨s, n⟩).toNat, kept keep ⟨s, n⟩⟩ := rfl
        rw [hcf] at hst
        generalize kept keep ⟨s, n⟩ = kp at v2 k0 k1 hst hcf ⊢
        clear hcf ha1 ha2
        have hbn := Blk.new w1 #[.string s, .int .i64 n] 57
        have hb2 : Blk (w1.alloc (.cells #[.string s, .int .i64 n] 57)) g #[.int .i64 room, .map (some b), .bool d.off, .int .i64 d.at_, .int .i64 d.keep, .int .i64 ch] 51 := (hbr.upd hu1 (by omega)).alloc _
        have hr2 := hr1.upd ((Upd.refl w1 Nope).alloc (.cells #[.string s, .int .i64 n] 57)) id id
        have hu2 : Upd w (w1.alloc (.cells #[.string s, .int .i64 n] 57)) (· = b) := (hu.trans hu1 (fun _ _ h => h) (fun i hi e => by omega)).alloc _
        go_upto_region 5 with fail
        generalize w1.alloc (.cells #[.string s, .int .i64 n] 57) = w2 at hbn hb2 hr2 hu2 ⊢
        rw [hz1] at hbn
        obtain ⟨w3, hrun, hr3, hu3, hz3⟩ := storeF_run (hr2.upd ((Upd.refl w2 Nope).drew) id id) k (s.extract 0 kp.toNat) kp hthere hne1'
        have cq0 : w2.cell? ⟨wr.heap.size, 0, none⟩ = some (.string s) := (hbn.cell 0).trans rfl
        have cg1 : w2.cell? ⟨g, 1, none⟩ = some (.map (some b)) := (hb2.cell 1).trans rfl
        go_big_region
        all_goals go_wp2_with fail
        exact ⟨⟨_, l1 ++ l2, hr3, hst, hu2.drew.then_ hu3⟩, by rw [hr3.left_eq, hm1]; omega⟩
end Go.Proofs.Ytkglcgekpgcdpaa
