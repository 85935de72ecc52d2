/- A file is looked for. -/
import Derived.Test.YtkglcgekpgcdpaaUse
import Derived.Test.YtkglcgekpgcdpaaMay
set_option linter.unusedVariables false
set_option linter.unusedSimpArgs false
namespace Go.Proofs.Ytkglcgekpgcdpaa
open Go.RowKit

theorem infoS : (Try.prog.info? 9).map (fun i => (i.zero, i.size, i.bytes)) = some (some (.string ByteArray.empty), 1, 16) := by kernel_rfl
/-- One string more, behind a row of the call's own. -/
theorem app1 {W : World} {B n : Nat} {v : Value} {xs : List ByteArray} (hown : W.ownsRow B 9 1 v n (xs.map Value.string)) (r : ByteArray) (hB : B ≤ W.heap.size) (hn : n ≤ 1000000) :
    ∃ v' w', (Builtin.append_ #[36, 36] 36 #[v, .slice (some ⟨W.heap.size, 0, none⟩) 1 1]).run Try.prog (W.alloc (.cells #[.string r] 9)) = .ok v' w' ∧ w'.ownsRow B 9 1 v' (n + 1) ((xs ++ [r]).map Value.string) ∧
      Upd W w' (fun k => v.ownBlock = some k) ∧ ∀ k, v'.ownBlock = some k → v.ownBlock = some k ∨ W.heap.size ≤ k := by
  obtain ⟨i0, hi, hz0, hz1, hz2⟩ := info_parts infoS
  have hr : Rd1 Value.string (W.alloc (.cells #[.string r] 9)) (some ⟨W.heap.size, 0, none⟩) [r] := by
    intro i hi
    obtain rfl : i = 0 := by simp at hi; omega
    exact ⟨_, rfl, by simpa using (World.news_of_block (heap_alloc_new W (.cells #[.string r] 9))) 0 (.string r) rfl⟩
  obtain ⟨v', w', h1, h2, h3, h4⟩ := append_row (P := Try.prog) B 36 Try.underlying36 hi hz0 hz1 hz2 rfl (fun _ => by simp [Value.oneCell']) (hown.alloc (.cells #[.string r] 9)) (c := 1) hr (by intro h; cases h) (by unfold maxLen; simp; omega) (by simp; omega) (by simp; omega)
  refine ⟨v', w', h1, h2, ((Upd.refl W _).alloc _).grown h3 (fun k e => .inl e), fun k hk => ?_⟩
  rcases h4 with e | e
  · exact .inl (by rw [← e]; exact hk)
  · rw [e] at hk
    injection hk with hk
    right
    simp at hk
    omega

def noFile : Fl := ⟨ByteArray.empty, 0⟩
def findR (d : Dk) (l : List ByteArray) (name : ByteArray) : Fl × Int :=
  if mayE d.off (l ++ [name]) = 0 then (match look name d.L with | none => (noFile, 4) | some f => (f, 0)) else (noFile, mayE d.off (l ++ [name]))
theorem may_zero {off : Bool} {l : List ByteArray} (h : mayE off l = 0) : off = false ∧ ∀ s ∈ l, nameOk s = true := by
  unfold mayE at h
  cases off
  · refine ⟨rfl, ?_⟩
    simp only [Bool.false_eq_true, if_false] at h
    split at h
    · rename_i h'
      exact List.all_eq_true.1 h'
    · cases h
  · cases h
theorem nameOk_le {s : ByteArray} (h : nameOk s = true) : s.size ≤ 32 := by
  simp only [nameOk, Bool.and_eq_true, decide_eq_true_eq] at h
  exact h.1.2
theorem nameOk_max {s : ByteArray} (h : nameOk s = true) : s.size ≤ maxLen := by
  have := nameOk_le h
  unfold maxLen
  omega

set_option maxHeartbeats 2000000 in
theorem find_any {w : World} {g b : Nat} {d : Dk} (h : DK w g b d) (name : ByteArray) {B : Nat} {v : Value} {l : List ByteArray} (hown : w.ownsRow B 9 1 v l.length (l.map Value.string)) (hB : B ≤ w.heap.size) (hl : l.length ≤ 10)
    (hv : ∀ k, v.ownBlock = some k → k ≠ g ∧ k ≠ b) :
    Calls Try.prog 30 #[.pointer (some ⟨g, 0, none⟩), .string name, v] w fun e w' => e = .returned (.tuple #[.agg #[.string (findR d l name).1.s, .int .i64 (findR d l name).1.n], .int .i64 (findR d l name).2]) ∧ Upd w w' (fun k => v.ownBlock = some k) := by
  have h0 : DK (w.alloc (.cells #[.string ByteArray.empty, .int .i64 0] 57)) g b d := h.nn ((Upd.refl w Nope).alloc _)
  have hu0 : Upd w (w.alloc (.cells #[.string ByteArray.empty, .int .i64 0] 57)) (fun k => v.ownBlock = some k) := (Upd.refl w _).alloc _
  have hb0 := Blk.new w #[.string ByteArray.empty, .int .i64 0] 57
  have hvl : ∀ k, v.ownBlock = some k → k < w.heap.size := fun k hk => by
    obtain ⟨_, h2⟩ := hown
    rcases h2 with ⟨h0, _⟩ | ⟨g', cap, cur, e, hb, hg, _⟩
    · rw [h0] at hk; cases hk
    · rw [e] at hk
      injection hk with hk
      subst hk
      exact (Array.getElem?_eq_some_iff.1 hg).1
  have hvn : ¬ (v.ownBlock = some w.heap.size) := fun e => Nat.lt_irrefl _ (hvl _ e)
  have hown0 := hown.alloc (.cells #[.string ByteArray.empty, .int .i64 0] 57)
  obtain ⟨v', w2, hap, hown2, hu2, hl2⟩ := app1 hown0 name (by simp; omega) (by omega)
  rw [show (w.alloc (.cells #[.string ByteArray.empty, .int .i64 0] 57)).heap.size = w.heap.size + 1 by simp] at hap
  obtain ⟨A, cap, rfl, hlen, hrd, hnil, hcap⟩ := rd1_of_owns hown2
  have hd2 := h0.upd hu2 (fun e => (hv _ e).1 rfl) (fun e => (hv _ e).2 rfl)
  have hb2 := hb0.upd hu2 hvn
  have hu02 := hu0.then_ hu2
  have hM := may_any hd2 A cap (l ++ [name]) hrd (by simp; omega)
  rw [← hlen] at hM
  have hz : mayE d.off (l ++ [name]) = 0 → nameOk name = true := fun e => (may_zero e).2 name (by simp)
  have e1 : mayE d.off (l ++ [name]) ≠ 0 → findR d l name = (noFile, mayE d.off (l ++ [name])) := fun e => by unfold findR; rw [if_neg e]
  have e2 : mayE d.off (l ++ [name]) = 0 → look name d.L = none → findR d l name = (noFile, 4) := fun e e' => by unfold findR; rw [if_pos e, e']
  have e3 : ∀ f, mayE d.off (l ++ [name]) = 0 → look name d.L = some f → findR d l name = (f, 0) := fun f e e' => by unfold findR; rw [if_pos e, e']
  generalize findR d l name = R at e1 e2 e3 ⊢
  generalize mayE d.off (l ++ [name]) = E at hM hz e1 e2 e3
  have hL := hd2
  have HM := Lib.hid hM
  have HD := Lib.hid hd2
  have HB := Lib.hid hb2
  have HU := Lib.hid hu02
  clear hlen hvl hvn hl2 hM hd2 hb2 hu02 h h0 hown hown0 hu0 hb0 hown2 hrd hL hnil hcap hu2 hv
  go_enter Try.func30, Try.ntmps30
  go_wp2_with (first | (at_builtin; refine wpList_append_eq _ _ rfl rfl hap rfl rfl rfl ?_) | fail)
  refine HM.out.mono ?_
  rintro e w3 ⟨rfl, hu3⟩
  have hd3 := HD.out.nn hu3
  have c1 := hd3.c1
  have hm := hd3.mp
  have hb3 := HB.out.upd hu3 id
  have b0 : w3.cell? ⟨w.heap.size, 0, none⟩ = some (.string ByteArray.empty) := (hb3.cell 0).trans rfl
  have b1 : w3.cell? ⟨w.heap.size, 1, none⟩ = some (.int .i64 0) := (hb3.cell 1).trans rfl
  have f0 := hb3.frozen 0
  have f1 := hb3.frozen 1
  have hu03 := HU.out.then_ (hu3.mono (fun _ _ h => h.elim))
  have hlt3 := hb3.lt
  have HB3 := Lib.hid hb3
  clear hb3 HB hu3 HU HD HM
  have E1 := Lib.hid e1
  have E2 := Lib.hid e2
  have E3 := Lib.hid e3
  clear e1 e2 e3 hd3
  by_cases hE : E = 0
  · subst hE
    have hn := nameOk_max (hz rfl)
    clear hz
    cases hlk : look name d.L with
    | none =>
      have hf : fileOf name d.L = ⟨ByteArray.empty, 0⟩ := by unfold fileOf; rw [hlk]; rfl
      go_wp2_with (first | (at_lookup; refine lookF2 hm rfl _ _ rfl rfl name rfl hn ?_; rw [hf, hlk]) | go_in)
      have hq := ((HB3.out.set 0 (.string ⟨#[]⟩)).set 1 (.int .i64 0)).alloc (.cells #[.string ByteArray.empty, .int .i64 0] 57)
      have q0 := (hq.cell 0)
      have q1 := (hq.cell 1)
      try simp only [Exit.inBlock, Exit.then]
      refine bodyPost_ret (by simp [results, Try.results30, go_sem, q0, q1]; try rfl) rfl ?_
      exact ⟨by rw [E2.out trivial hlk]; rfl, ((hu03.set ⟨w.heap.size, 0, none⟩ _ (.inr (Nat.le_refl _))).set ⟨w.heap.size, 1, none⟩ _ (.inr (Nat.le_refl _))).alloc _⟩
    | some f =>
      have hf : fileOf name d.L = f := by unfold fileOf; rw [hlk]; rfl
      go_wp2_with (first | (at_lookup; refine lookF2 hm rfl _ _ rfl rfl name rfl hn ?_; rw [hf, hlk]) | go_in)
      have hq := ((HB3.out.set 0 (.string f.s)).set 1 (.int .i64 f.n)).alloc (.cells #[.string f.s, .int .i64 f.n] 57)
      have q0 := (hq.cell 0)
      have q1 := (hq.cell 1)
      try simp only [Exit.inBlock, Exit.then]
      refine bodyPost_ret (by simp [results, Try.results30, go_sem, q0, q1]; try rfl) rfl ?_
      exact ⟨by rw [E3.out f trivial hlk], ((hu03.set ⟨w.heap.size, 0, none⟩ _ (.inr (Nat.le_refl _))).set ⟨w.heap.size, 1, none⟩ _ (.inr (Nat.le_refl _))).alloc _⟩
  · have hE' : (E == 0) = false := by simpa using hE
    go_wp2
    have hq := (HB3.out.set 0 (.string ⟨#[]⟩)).set 1 (.int .i64 0)
    have q0 := (hq.cell 0)
    have q1 := (hq.cell 1)
    try simp only [Exit.inBlock, Exit.then]
    refine bodyPost_ret (by simp [results, Try.results30, go_sem, q0, q1]; try rfl) rfl ?_
    exact ⟨by rw [E1.out hE]; rfl, (hu03.set ⟨w.heap.size, 0, none⟩ _ (.inr (Nat.le_refl _))).set ⟨w.heap.size, 1, none⟩ _ (.inr (Nat.le_refl _))⟩
end Go.Proofs.Ytkglcgekpgcdpaa
