/- A wheel's lay. -/
import Derived.Test.YtejelihioendnaaWca
set_option linter.unusedVariables false
set_option linter.unusedSimpArgs false
set_option linter.unusedSectionVars false
namespace Go.Proofs.Ytejelihioendnaa
open Go.RowKit

def placeR (now due : Int) : Int × Int :=
  if due - now < 64 then (0, due % 64) else if due - now < 4096 then (1, due / 64 % 64) else if due - now < 262144 then (2, due / 4096 % 64) else if due - now < 16777216 then (3, due / 262144 % 64) else (4, 0)
theorem placeR_ok (now due : Int) : okp (placeR now due) := by
  unfold placeR okp
  repeat' split
  all_goals first | (right; simp only; omega) | exact .inl ⟨rfl, rfl⟩
def layR (s : Wh) (id due : Int) : Wh := ⟨s.now, upS s.sl (idx (placeR s.now due)) (put id due (s.sl (idx (placeR s.now due)))), put id (placeR s.now due) s.pl⟩

theorem and63 (x : Int) (h0 : 0 ≤ x) (h1 : x ≤ 4611686018427387904) : bits .and .i64 x 63 = x % 64 := by
  obtain ⟨n, rfl⟩ := Int.eq_ofNat_of_zero_le h0
  have e1 : (BitVec.ofInt 64 (n : Int)).toNat = n := by
    rw [BitVec.ofInt_natCast, BitVec.toNat_ofNat]
    exact Nat.mod_eq_of_lt (by omega)
  have e2 : (BitVec.ofInt 64 (63 : Int)).toNat = 63 := by decide
  have e3 : (BitVec.ofInt 64 (n : Int) &&& BitVec.ofInt 64 (63 : Int)).toNat = n % 64 := by
    rw [BitVec.toNat_and, e1, e2, show (63 : Nat) = 2 ^ 6 - 1 from rfl, Nat.and_two_pow_sub_one_eq_mod]
  show IntKind.i64.wrap ((BitVec.ofInt 64 (n : Int) &&& BitVec.ofInt 64 (63 : Int)).toNat : Int) = _
  rw [e3, IntKind.wrap_i64]
  omega

set_option maxRecDepth 100000 in
set_option maxHeartbeats 8000000 in
theorem lay_wh {w : World} {g : Nat} {bs : Nat → Option Nat} {bf bp : Nat} {s : Wh} (h : WH w g bs bf bp s) (id due : Int) (hid : okI id) (d0 : 0 ≤ due) (d1 : due ≤ 17592186044416) (n0 : 0 ≤ s.now) (n1 : s.now ≤ 17592186044416) :
    Calls Try.prog 22 #[.pointer (some ⟨g, 0, none⟩), .int .i64 id, .int .i64 due] w fun e w' => e = .returned (.tuple #[]) ∧ ∃ bs', WH w' g bs' bf bp (layR s id due) ∧ Upd w w' (FT g bs bf bp) ∧ (∀ k c, bs' k = some c → bs k = some c ∨ w.heap.size ≤ c) ∧ ∀ k c, bs k = some c → bs' k = some c := by
  have hlg := h.blk.lt
  have hkey : ∀ (p : Int × Int) (lv at' : Int) (W : World), p = (lv, at') → okp p → Drew (w.alloc (.cells #[.int .i64 lv, .int .i64 at'] 67)) W → ∃ w3, (Instr.mapUpdate 60 (.map (some bp)) (.int .i64 id) (.agg #[.int .i64 lv, .int .i64 at'])).run Try.prog W = .ok () w3 ∧
      WH w3 g bs bf bp { s with pl := put id p s.pl } ∧ Upd w w3 (· = bp) ∧ w3.cell? ⟨w.heap.size, 0, none⟩ = some (.int .i64 lv) ∧ w3.cell? ⟨w.heap.size, 1, none⟩ = some (.int .i64 at') ∧ W.cell? ⟨g, 258, none⟩ = some (.map (some bp)) := by
    intro p lv at' W e hp hW
    subst e
    have hx := (h.nn ((Upd.refl w Nope).alloc (.cells #[.int .i64 lv, .int .i64 at'] 67))).nn (hW.upd Nope)
    obtain ⟨w3, r1, r2, r3, r4⟩ := putP_run hx.place id (lv, at') hid
    have hb := (Blk.new w #[.int .i64 lv, .int .i64 at'] 67).upd (hW.upd Nope) (fun h => h)
    have hbp : w.heap.size ≠ bp := by have := h.place.lt; omega
    have hb3 := hb.upd r3 hbp
    exact ⟨w3, r1, hx.place_up r2 r3, ((((Upd.refl w Nope).alloc _).dr hW).mono (fun _ _ h => h.elim)).then_ r3, (hb3.cell 0).trans rfl, (hb3.cell 1).trans rfl, hx.cp⟩
  have H := Lib.hid h
  have HK := Lib.hid hkey
  generalize hnow : s.now = now at n0 n1
  have HN := Lib.hid hnow
  clear hkey hnow h
  by_cases c0 : due - now < 64
  · have hd0 : decide (due - now < 64) = true := by simpa using c0
    have hp : placeR now due = (0, due % 64) := by unfold placeR; simp only [c0, if_true]
    have hok := placeR_ok now due
    rw [hp] at hok
    have ha := and63 due (by omega) (by omega)
    obtain ⟨w3, hrun, hw3, hu3, y0, y1, cp⟩ := HK.out _ _ _ ((w.alloc (.cells #[.int .i64 0, .int .i64 (due % 64)] 67)).drew.drew) rfl hok (((Drew.refl _).drew).drew)
    have cp' : ((w.alloc (.cells #[.int .i64 0, .int .i64 (due % 64)] 67)).drew).cell? ⟨g, 258, none⟩ = some (.map (some bp)) := cp
    have HW3 := Lib.hid hw3
    have HU3 := Lib.hid hu3
    have HP := Lib.hid hp
    have hO := of_any hw3 (0, due % 64) hok
    unfold pv at hO
    have HO := Lib.hid hO
    have HOK := Lib.hid hok
    have c := (H.out.nn ((Upd.refl w Nope).alloc (.cells #[.int .i64 4, .int .i64 0] 67))).c0
    rw [HN.out] at c
    clear hw3 hu3 hp hok hO c0
    go_enter Try.func22, Try.ntmps22
    go_wp2_with fail
    refine wp_loop_rounds 1 ?_
    rw [rounds_succ]
    go_wp2_with fail
    go_big_region
    go_wp2_with fail
    go_big_region
    go_wp2_with (first | (go_at_call 23; refine HO.out.mono ?_; rintro e w4 ⟨b, bs', rfl, hw4, hb4, hu4, hgr, hold⟩) | (at_mapUpdate; refine putI (hw4.mp (idx_le HOK.out) hb4) rfl _ _ _ rfl rfl id due rfl rfl hid ?_; intro w5 hm5 hu5 hz5; have hw5 := hw4.slot_up (idx_le HOK.out) hb4 hm5 hu5) | go_in)
    go_end0
    have hgr' : ∀ k c, bs' k = some c → bs k = some c ∨ w.heap.size ≤ c := fun k c hc => (hgr k c hc).imp _root_.id (fun h => by have := HU3.out.size; omega)
    have hfb : ∀ i, i = b → FT g bs bf bp i ∨ w.heap.size ≤ i := fun i e => by
      subst e
      exact FT_of hgr' (FT_at (g := g) (bp := bp) (idx_le HOK.out) hb4)
    refine ⟨rfl, bs', ?_, ?_, hgr', hold⟩
    · have e : layR s id due = ⟨s.now, upS s.sl (idx (0, due % 64)) (put id due (s.sl (idx (0, due % 64)))), put id (0, due % 64) s.pl⟩ := by unfold layR; rw [HN.out, HP.out]
      rw [e]
      exact hw5
    · exact ((HU3.out.mono (G := FT g bs bf bp) (fun i _ e => .inr (.inr (.inl e)))).trans hu4 (fun _ _ h => h) (fun i hi e => .inl e)).trans hu5 (fun _ _ h => h) (fun i hi e => (hfb i e).resolve_right (by omega))
  have hd0 : decide (due - now < 64) = false := by simpa using c0
  by_cases c1 : due - now < 4096
  · have hd1 : decide (due - now < 4096) = true := by simpa using c1
    have hp : placeR now due = (1, due / 64 % 64) := by unfold placeR; simp only [c0, c1, if_true, if_false]
    have hok := placeR_ok now due
    rw [hp] at hok
    have ha := and63 (due / 64) (by omega) (by omega)
    obtain ⟨w3, hrun, hw3, hu3, y0, y1, cp⟩ := HK.out _ _ _ ((w.alloc (.cells #[.int .i64 1, .int .i64 (due / 64 % 64)] 67)).drew.drew.drew) rfl hok ((((Drew.refl _).drew).drew).drew)
    have cp' : ((w.alloc (.cells #[.int .i64 1, .int .i64 (due / 64 % 64)] 67)).drew.drew).cell? ⟨g, 258, none⟩ = some (.map (some bp)) := cp
    have HW3 := Lib.hid hw3
    have HU3 := Lib.hid hu3
    have HP := Lib.hid hp
    have hO := of_any hw3 (1, due / 64 % 64) hok
    unfold pv at hO
    have HO := Lib.hid hO
    have HOK := Lib.hid hok
    have c := (H.out.nn ((Upd.refl w Nope).alloc (.cells #[.int .i64 4, .int .i64 0] 67))).c0
    rw [HN.out] at c
    clear hw3 hu3 hp hok hO c0 c1
    go_enter Try.func22, Try.ntmps22
    go_wp2_with fail
    refine wp_loop_rounds 2 ?_
    rw [rounds_succ]
    go_wp2_with fail
    go_big_region
    go_wp2_with fail
    rw [rounds_succ]
    go_wp2_with fail
    go_big_region
    go_wp2_with fail
    go_big_region
    go_wp2_with (first | (go_at_call 23; refine HO.out.mono ?_; rintro e w4 ⟨b, bs', rfl, hw4, hb4, hu4, hgr, hold⟩) | (at_mapUpdate; refine putI (hw4.mp (idx_le HOK.out) hb4) rfl _ _ _ rfl rfl id due rfl rfl hid ?_; intro w5 hm5 hu5 hz5; have hw5 := hw4.slot_up (idx_le HOK.out) hb4 hm5 hu5) | go_in)
    go_end0
    have hgr' : ∀ k c, bs' k = some c → bs k = some c ∨ w.heap.size ≤ c := fun k c hc => (hgr k c hc).imp _root_.id (fun h => by have := HU3.out.size; omega)
    have hfb : ∀ i, i = b → FT g bs bf bp i ∨ w.heap.size ≤ i := fun i e => by
      subst e
      exact FT_of hgr' (FT_at (g := g) (bp := bp) (idx_le HOK.out) hb4)
    refine ⟨rfl, bs', ?_, ?_, hgr', hold⟩
    · have e : layR s id due = ⟨s.now, upS s.sl (idx (1, due / 64 % 64)) (put id due (s.sl (idx (1, due / 64 % 64)))), put id (1, due / 64 % 64) s.pl⟩ := by unfold layR; rw [HN.out, HP.out]
      rw [e]
      exact hw5
    · exact ((HU3.out.mono (G := FT g bs bf bp) (fun i _ e => .inr (.inr (.inl e)))).trans hu4 (fun _ _ h => h) (fun i hi e => .inl e)).trans hu5 (fun _ _ h => h) (fun i hi e => (hfb i e).resolve_right (by omega))
  have hd1 : decide (due - now < 4096) = false := by simpa using c1
  by_cases c2 : due - now < 262144
  · have hd2 : decide (due - now < 262144) = true := by simpa using c2
    have hp : placeR now due = (2, due / 4096 % 64) := by unfold placeR; simp only [c0, c1, c2, if_true, if_false]
    have hok := placeR_ok now due
    rw [hp] at hok
    have ha := and63 (due / 4096) (by omega) (by omega)
    obtain ⟨w3, hrun, hw3, hu3, y0, y1, cp⟩ := HK.out _ _ _ ((w.alloc (.cells #[.int .i64 2, .int .i64 (due / 4096 % 64)] 67)).drew.drew.drew.drew) rfl hok (((((Drew.refl _).drew).drew).drew).drew)
    have cp' : ((w.alloc (.cells #[.int .i64 2, .int .i64 (due / 4096 % 64)] 67)).drew.drew.drew).cell? ⟨g, 258, none⟩ = some (.map (some bp)) := cp
    have HW3 := Lib.hid hw3
    have HU3 := Lib.hid hu3
    have HP := Lib.hid hp
    have hO := of_any hw3 (2, due / 4096 % 64) hok
    unfold pv at hO
    have HO := Lib.hid hO
    have HOK := Lib.hid hok
    have c := (H.out.nn ((Upd.refl w Nope).alloc (.cells #[.int .i64 4, .int .i64 0] 67))).c0
    rw [HN.out] at c
    clear hw3 hu3 hp hok hO c0 c1 c2
    go_enter Try.func22, Try.ntmps22
    go_wp2_with fail
    refine wp_loop_rounds 3 ?_
    rw [rounds_succ]
    go_wp2_with fail
    go_big_region
    go_wp2_with fail
    rw [rounds_succ]
    go_wp2_with fail
    go_big_region
    go_wp2_with fail
    rw [rounds_succ]
    go_wp2_with fail
    go_big_region
    go_wp2_with fail
    go_big_region
    go_wp2_with (first | (go_at_call 23; refine HO.out.mono ?_; rintro e w4 ⟨b, bs', rfl, hw4, hb4, hu4, hgr, hold⟩) | (at_mapUpdate; refine putI (hw4.mp (idx_le HOK.out) hb4) rfl _ _ _ rfl rfl id due rfl rfl hid ?_; intro w5 hm5 hu5 hz5; have hw5 := hw4.slot_up (idx_le HOK.out) hb4 hm5 hu5) | go_in)
    go_end0
    have hgr' : ∀ k c, bs' k = some c → bs k = some c ∨ w.heap.size ≤ c := fun k c hc => (hgr k c hc).imp _root_.id (fun h => by have := HU3.out.size; omega)
    have hfb : ∀ i, i = b → FT g bs bf bp i ∨ w.heap.size ≤ i := fun i e => by
      subst e
      exact FT_of hgr' (FT_at (g := g) (bp := bp) (idx_le HOK.out) hb4)
    refine ⟨rfl, bs', ?_, ?_, hgr', hold⟩
    · have e : layR s id due = ⟨s.now, upS s.sl (idx (2, due / 4096 % 64)) (put id due (s.sl (idx (2, due / 4096 % 64)))), put id (2, due / 4096 % 64) s.pl⟩ := by unfold layR; rw [HN.out, HP.out]
      rw [e]
      exact hw5
    · exact ((HU3.out.mono (G := FT g bs bf bp) (fun i _ e => .inr (.inr (.inl e)))).trans hu4 (fun _ _ h => h) (fun i hi e => .inl e)).trans hu5 (fun _ _ h => h) (fun i hi e => (hfb i e).resolve_right (by omega))
  have hd2 : decide (due - now < 262144) = false := by simpa using c2
  by_cases c3 : due - now < 16777216
  · have hd3 : decide (due - now < 16777216) = true := by simpa using c3
    have hp : placeR now due = (3, due / 262144 % 64) := by unfold placeR; simp only [c0, c1, c2, c3, if_true, if_false]
    have hok := placeR_ok now due
    rw [hp] at hok
    have ha := and63 (due / 262144) (by omega) (by omega)
    obtain ⟨w3, hrun, hw3, hu3, y0, y1, cp⟩ := HK.out _ _ _ ((w.alloc (.cells #[.int .i64 3, .int .i64 (due / 262144 % 64)] 67)).drew.drew.drew.drew.drew) rfl hok ((((((Drew.refl _).drew).drew).drew).drew).drew)
    have cp' : ((w.alloc (.cells #[.int .i64 3, .int .i64 (due / 262144 % 64)] 67)).drew.drew.drew.drew).cell? ⟨g, 258, none⟩ = some (.map (some bp)) := cp
    have HW3 := Lib.hid hw3
    have HU3 := Lib.hid hu3
    have HP := Lib.hid hp
    have hO := of_any hw3 (3, due / 262144 % 64) hok
    unfold pv at hO
    have HO := Lib.hid hO
    have HOK := Lib.hid hok
    have c := (H.out.nn ((Upd.refl w Nope).alloc (.cells #[.int .i64 4, .int .i64 0] 67))).c0
    rw [HN.out] at c
    clear hw3 hu3 hp hok hO c0 c1 c2 c3
    go_enter Try.func22, Try.ntmps22
    go_wp2_with fail
    refine wp_loop_rounds 4 ?_
    rw [rounds_succ]
    go_wp2_with fail
    go_big_region
    go_wp2_with fail
    rw [rounds_succ]
    go_wp2_with fail
    go_big_region
    go_wp2_with fail
    rw [rounds_succ]
    go_wp2_with fail
    go_big_region
    go_wp2_with fail
    rw [rounds_succ]
    go_wp2_with fail
    go_big_region
    go_wp2_with fail
    go_big_region
    go_wp2_with (first | (go_at_call 23; refine HO.out.mono ?_; rintro e w4 ⟨b, bs', rfl, hw4, hb4, hu4, hgr, hold⟩) | (at_mapUpdate; refine putI (hw4.mp (idx_le HOK.out) hb4) rfl _ _ _ rfl rfl id due rfl rfl hid ?_; intro w5 hm5 hu5 hz5; have hw5 := hw4.slot_up (idx_le HOK.out) hb4 hm5 hu5) | go_in)
    go_end0
    have hgr' : ∀ k c, bs' k = some c → bs k = some c ∨ w.heap.size ≤ c := fun k c hc => (hgr k c hc).imp _root_.id (fun h => by have := HU3.out.size; omega)
    have hfb : ∀ i, i = b → FT g bs bf bp i ∨ w.heap.size ≤ i := fun i e => by
      subst e
      exact FT_of hgr' (FT_at (g := g) (bp := bp) (idx_le HOK.out) hb4)
    refine ⟨rfl, bs', ?_, ?_, hgr', hold⟩
    · have e : layR s id due = ⟨s.now, upS s.sl (idx (3, due / 262144 % 64)) (put id due (s.sl (idx (3, due / 262144 % 64)))), put id (3, due / 262144 % 64) s.pl⟩ := by unfold layR; rw [HN.out, HP.out]
      rw [e]
      exact hw5
    · exact ((HU3.out.mono (G := FT g bs bf bp) (fun i _ e => .inr (.inr (.inl e)))).trans hu4 (fun _ _ h => h) (fun i hi e => .inl e)).trans hu5 (fun _ _ h => h) (fun i hi e => (hfb i e).resolve_right (by omega))
  have hd3 : decide (due - now < 16777216) = false := by simpa using c3
  have hp : placeR now due = (4, 0) := by unfold placeR; simp only [c0, c1, c2, c3, if_false]
  have hok := placeR_ok now due
  rw [hp] at hok
  obtain ⟨w3, hrun, hw3, hu3, y0, y1, cp⟩ := HK.out _ _ _ ((w.alloc (.cells #[.int .i64 4, .int .i64 0] 67)).drew.drew.drew.drew.drew) rfl hok ((((((Drew.refl _).drew).drew).drew).drew).drew)
  have cp' : ((w.alloc (.cells #[.int .i64 4, .int .i64 0] 67)).drew.drew.drew.drew).cell? ⟨g, 258, none⟩ = some (.map (some bp)) := cp
  have HW3 := Lib.hid hw3
  have HU3 := Lib.hid hu3
  have HP := Lib.hid hp
  have hO := of_any hw3 (4, 0) hok
  unfold pv at hO
  have HO := Lib.hid hO
  have HOK := Lib.hid hok
  have c := (H.out.nn ((Upd.refl w Nope).alloc (.cells #[.int .i64 4, .int .i64 0] 67))).c0
  rw [HN.out] at c
  clear hw3 hu3 hp hok hO c0 c1 c2 c3
  go_enter Try.func22, Try.ntmps22
  go_wp2_with fail
  refine wp_loop_rounds 5 ?_
  rw [rounds_succ]
  go_wp2_with fail
  go_big_region
  go_wp2_with fail
  rw [rounds_succ]
  go_wp2_with fail
  go_big_region
  go_wp2_with fail
  rw [rounds_succ]
  go_wp2_with fail
  go_big_region
  go_wp2_with fail
  rw [rounds_succ]
  go_wp2_with fail
  go_big_region
  go_wp2_with fail
  rw [rounds_succ]
  go_wp2_with fail
  go_big_region
  go_wp2_with (first | (go_at_call 23; refine HO.out.mono ?_; rintro e w4 ⟨b, bs', rfl, hw4, hb4, hu4, hgr, hold⟩) | (at_mapUpdate; refine putI (hw4.mp (idx_le HOK.out) hb4) rfl _ _ _ rfl rfl id due rfl rfl hid ?_; intro w5 hm5 hu5 hz5; have hw5 := hw4.slot_up (idx_le HOK.out) hb4 hm5 hu5) | go_in)
  go_end0
  have hgr' : ∀ k c, bs' k = some c → bs k = some c ∨ w.heap.size ≤ c := fun k c hc => (hgr k c hc).imp _root_.id (fun h => by have := HU3.out.size; omega)
  have hfb : ∀ i, i = b → FT g bs bf bp i ∨ w.heap.size ≤ i := fun i e => by
    subst e
    exact FT_of hgr' (FT_at (g := g) (bp := bp) (idx_le HOK.out) hb4)
  refine ⟨rfl, bs', ?_, ?_, hgr', hold⟩
  · have e : layR s id due = ⟨s.now, upS s.sl (idx (4, 0)) (put id due (s.sl (idx (4, 0)))), put id (4, 0) s.pl⟩ := by unfold layR; rw [HN.out, HP.out]
    rw [e]
    exact hw5
  · exact ((HU3.out.mono (G := FT g bs bf bp) (fun i _ e => .inr (.inr (.inl e)))).trans hu4 (fun _ _ h => h) (fun i hi e => .inl e)).trans hu5 (fun _ _ h => h) (fun i hi e => (hfb i e).resolve_right (by omega))
theorem lay_any {w : World} {g : Nat} {F : Nat → Prop} {s : Wh} (h : WO w g F s) (id due : Int) (hid : okI id) (d0 : 0 ≤ due) (d1 : due ≤ 17592186044416) (n0 : 0 ≤ s.now) (n1 : s.now ≤ 17592186044416) :
    Calls Try.prog 22 #[.pointer (some ⟨g, 0, none⟩), .int .i64 id, .int .i64 due] w fun e w' => e = .returned (.tuple #[]) ∧ ∃ F', WO w' g F' (layR s id due) ∧ Gr w w' F F' := by
  obtain ⟨bs, bf, bp, h, hF⟩ := h
  refine (lay_wh h id due hid d0 d1 n0 n1).mono fun e w' ⟨he, bs', hw, hu, hg, _⟩ => ⟨he, _, ⟨bs', bf, bp, hw, fun _ => Iff.rfl⟩, hu.mono (fun i _ hi => (hF i).2 hi), fun i hi => (FT_of hg hi).imp (hF i).2 _root_.id⟩
attribute [local go_sem] bmin2 bmax2 bmin_two bmax_two
def setR (s : Wh) (id due : Int) : Wh × Int := if id < 0 ∨ due < 0 ∨ 2199023255552 < due then (s, 1) else (layR (cancelR s id).1 id (max due (s.now + 1)), 0)
set_option maxRecDepth 100000 in
set_option maxHeartbeats 4000000 in
theorem set_any {w : World} {g : Nat} {F : Nat → Prop} {s : Wh} (h : WO w g F s) (hp : plok s) (id due : Int) (hid : okI id) (n0 : 0 ≤ s.now) (n1 : s.now ≤ 1099511627776) :
    Calls Try.prog 11 #[.pointer (some ⟨g, 0, none⟩), .int .i64 id, .int .i64 due] w fun e w' => e = .returned (.int .i64 (setR s id due).2) ∧ ∃ F', WO w' g F' (setR s id due).1 ∧ Gr w w' F F' := by
  by_cases hc : id < 0 ∨ due < 0 ∨ 2199023255552 < due
  · have hR : setR s id due = (s, 1) := by unfold setR; rw [if_pos hc]
    rw [hR]
    have H := Lib.hid (show ∃ F', WO w g F' s ∧ Gr w w F F' from ⟨F, h, Gr.same (Upd.refl _ _)⟩)
    have hcc : decide (id < 0) = true ∨ (decide (id < 0) = false ∧ decide (due < 0) = true) ∨ (decide (id < 0) = false ∧ decide (due < 0) = false ∧ decide (2199023255552 < due) = true) := by
      simp only [decide_eq_true_eq, decide_eq_false_iff_not]; omega
    clear hc hR h
    rcases hcc with h1 | ⟨h1, h2⟩ | ⟨h1, h2, h3⟩
    all_goals
      go_enter Try.func11, Try.ntmps11
      go_wp2
      go_returns
      exact ⟨rfl, H.out⟩
  · have hR : setR s id due = (layR (cancelR s id).1 id (imax due (s.now + 1)), 0) := by unfold setR; rw [if_neg hc, imax_eq]
    have h1 : decide (id < 0) = false := by simp; omega
    have h2 : decide (due < 0) = false := by simp; omega
    have h3 : decide (2199023255552 < due) = false := by simp; omega
    have hm0 : 0 ≤ imax due (s.now + 1) := by rw [imax_eq]; omega
    have hm1 : imax due (s.now + 1) ≤ 17592186044416 := by rw [imax_eq]; omega
    have hsn : (cancelR s id).1.now = s.now := by unfold cancelR; split <;> rfl
    rw [hR]
    have hC := cancel_any h hp id hid
    have HC := Lib.hid hC
    have HM0 := Lib.hid hm0
    have HM1 := Lib.hid hm1
    have HSN := Lib.hid hsn
    clear hC hc hR h hm0 hm1 hsn hp
    go_enter Try.func11, Try.ntmps11
    go_wp2_with fail
    refine HC.out.mono ?_
    rintro e w2 ⟨rfl, F2, hw2, hg2⟩
    have c : w2.cell? ⟨g, 0, none⟩ = some (.int .i64 s.now) := by
      obtain ⟨bs, bf, bp, h, _⟩ := hw2
      have := h.c0
      rw [HSN.out] at this
      exact this
    have hL := lay_any hw2 id (imax due (s.now + 1)) hid HM0.out HM1.out (by rw [HSN.out]; exact n0) (by rw [HSN.out]; omega)
    have HL := Lib.hid hL
    have HG2 := Lib.hid hg2
    clear hL hw2 hg2 HC
    go_wp2_with fail
    refine HL.out.mono ?_
    rintro e w3 ⟨rfl, F3, hw3, hg3⟩
    have H3 := Lib.hid hw3
    clear hw3
    go_wp2
    go_ret
    exact ⟨rfl, F3, H3.out, HG2.out.trans hg3⟩
end Go.Proofs.Ytejelihioendnaa
