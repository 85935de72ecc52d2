/- A wheel's least and Next. -/
import Derived.Test.YtejelihioendnaaWle
import Derived.Deep.MidRow
set_option linter.unusedVariables false
set_option linter.unusedSimpArgs false
set_option linter.unusedSectionVars false
namespace Go.Proofs.Ytejelihioendnaa
open Go.RowKit

theorem run_idx61 (cs : Array Value) (k : Nat) (hk : k < 64) (m : Option Nat) (hv : cs[k]? = some (.map m)) (w : World) : (Instr.index 61 (.agg cs) (.int .i64 (k : Int))).run Try.prog w = .ok (.map m) w := by
  have h1 : (0 : Int) ≤ (k : Int) ∧ (k : Int) < 64 := by omega
  simp [Instr.index, asIntOf, run_underlying Try.underlying61, h1, hk, go_sem, Result.andThen, part, Try.isAgg59, Try.sizeOf59, hv]
/-- The 64 maps of a level. -/
def rowB (bs : Nat → Option Nat) (lv : Nat) : List Value := (List.range 64).map fun i => Value.map (bs (lv * 64 + i))
theorem rowB_len (bs : Nat → Option Nat) (lv : Nat) : (rowB bs lv).length = 64 := by simp [rowB]
theorem rowB_get (bs : Nat → Option Nat) (lv k : Nat) (hk : k < 64) : (rowB bs lv).toArray[k]? = some (.map (bs (lv * 64 + k))) := by
  simp [rowB, hk]
theorem WH.row {w : World} {g : Nat} {bs : Nat → Option Nat} {bf bp : Nat} {s : Wh} (h : WH w g bs bf bp s) (lv : Nat) (hl : lv < 4) : w.rangeAt g (1 + lv * 64) (rowB bs lv) := by
  intro j v hv
  have hj : j < 64 := by have := (List.getElem?_eq_some_iff.1 hv).1; rw [rowB_len] at this; exact this
  have e : (rowB bs lv)[j]? = some (.map (bs (lv * 64 + j))) := by simp [rowB, hj]
  rw [e] at hv
  injection hv with hv
  subst hv
  have := h.cs (i := lv * 64 + j) (by omega)
  rw [show 1 + (lv * 64 + j) = 1 + lv * 64 + j by omega] at this
  exact this
theorem info61 : (Try.prog.info? 61).map (·.size) = some 64 := by kernel_rfl
/-- The ticks of a level. -/
def lvD (s : Wh) (lv n : Nat) : Int → Prop := fun d => if lv = 4 then ∃ p ∈ s.sl 256, p.2 = d else ∃ k, k < n ∧ ∃ p ∈ s.sl (lv * 64 + k), p.2 = d
set_option maxRecDepth 100000 in
set_option maxHeartbeats 4000000 in
theorem least_any {w : World} {g : Nat} {bs : Nat → Option Nat} {bf bp : Nat} {s : Wh} (h : WH w g bs bf bp s) (lv : Nat) (hl : lv ≤ 4) :
    Calls Try.prog 27 #[.pointer (some ⟨g, 0, none⟩), .int .i64 (lv : Int)] w fun e w' => (∃ o, IsMin o (lvD s lv 64) ∧ e = .returned (.tuple #[mv o, mf o])) ∧ Upd w w' Nope := by
  have hb3 := Blk.new w #[.int .i64 0] 3
  have hb4 := Blk.new (w.alloc (.cells #[.int .i64 0] 3)) #[.bool false] 4
  rw [show (w.alloc (.cells #[.int .i64 0] 3)).heap.size = w.heap.size + 1 by simp] at hb4
  have hb3 := hb3.alloc (.cells #[.bool false] 4)
  have u : Upd w ((w.alloc (.cells #[.int .i64 0] 3)).alloc (.cells #[.bool false] 4)) Nope := ((Upd.refl w _).alloc _).alloc _
  have h1 := h.nn u
  have hlt : ∀ i, FT g bs bf bp i → i < w.heap.size := fun i hi => h.lt hi
  by_cases h4 : lv = 4
  · subst h4
    have c := h1.cf
    have hS := see_any (m := some bf) (L := s.sl 256) (o := none) (D := fun _ => False) (fun b e => by injection e with e; subst e; exact h1.far) (fun e => by cases e) hb4 hb3 (fun _ h => h)
    have HS := Lib.hid hS
    clear hS h1 hb3 hb4 h hlt
    go_enter Try.func27, Try.ntmps27
    go_wp2_with fail
    refine HS.out.mono ?_
    rintro e w2 ⟨rfl, ⟨o, hmin, hf2, hb2⟩, hu2⟩
    have x0 : w2.cell? ⟨w.heap.size + 1, 0, none⟩ = some (mf o) := (hf2.cell 0).trans rfl
    have x1 : w2.cell? ⟨w.heap.size, 0, none⟩ = some (mv o) := (hb2.cell 0).trans rfl
    have HM := Lib.hid hmin
    have HU := Lib.hid (u.trans hu2 (H := Nope) (fun _ _ h => h) (fun i hi h => by omega))
    clear hf2 hb2 hmin hu2 u
    go_wp2_with fail
    go_big_region
    go_wp2_with fail
    go_ret2
    exact ⟨⟨o, HM.out.iff (fun d => by simp [lvD, ticks]), rfl⟩, HU.out.drew⟩
  · have hl3 : lv < 4 := by omega
    have hd4 : ((lv : Int) == 4) = false := by simp; omega
    have hrow := h1.row lv hl3
    have hix := fun (k : Nat) (hk : k < 64) (W : World) => run_idx61 (rowB bs lv).toArray k hk _ (rowB_get bs lv k hk) W
    have HIX := Lib.hid hix
    have H := Lib.hid h
    have H1 := Lib.hid h1
    have HLT := Lib.hid hlt
    have HB3 := Lib.hid hb3
    have HB4 := Lib.hid hb4
    clear hix h1 hb3 hb4 h hlt
    go_enter Try.func27, Try.ntmps27
    go_wp2_with (first | (refine wpList_load_mid rfl 61 _ rfl g (1 + lv * 64) rfl (rowB bs lv) _ hrow Try.underlying61 rfl (by rw [rowB_len]; exact info61) ?_) | go_in)
    go_loopw [28] (fun i wr => ∃ (k : Nat) (o : Option Int), k ≤ 64 ∧ i = .int .i64 k ∧ IsMin o (lvD s lv k) ∧ Blk wr (w.heap.size + 1) #[mf o] 4 ∧ Blk wr w.heap.size #[mv o] 3 ∧ Upd w wr Nope) (fun i _ => 64 - (intOf i).toNat)
    case atStart => exact ⟨0, none, by omega, rfl, fun d hd => by simp only [lvD, h4, if_false] at hd; obtain ⟨k, hk, _⟩ := hd; omega, HB4.out, HB3.out, u⟩
    case round =>
      obtain ⟨k, o, hk, rfl, hmin, hf, hb, hu⟩ := hrel
      by_cases hk64 : k < 64
      · have hw := H.out.nn hu
        have hx := HIX.out k hk64
        have hkk : lv * 64 + k < 256 := by omega
        have hS := see_any (m := bs (lv * 64 + k)) (L := s.sl (lv * 64 + k)) (fun b e => hw.slot _ b hkk e) (fun e => hw.nil_ _ hkk e) hf hb hmin
        have HS := Lib.hid hS
        clear hS hw hf hb hmin hkk
        generalize bs (lv * 64 + k) = m at hx HS
        go_wp2_with fail
        refine HS.out.mono ?_
        rintro e w2 ⟨rfl, ⟨o', hmin, hf2, hb2⟩, hu2⟩
        have HF2 := Lib.hid hf2
        have HB2 := Lib.hid hb2
        have HM := Lib.hid hmin
        have HU := Lib.hid (hu.trans hu2 (H := Nope) (fun _ _ h => h) (fun i hi h => by omega))
        clear hf2 hb2 hmin hu2 hx hu u
        go_wp2_with fail
        go_roundw
        case rel =>
          refine ⟨k + 1, o', by omega, by go_num, HM.out.iff (fun d => ?_), HF2.out, HB2.out, HU.out⟩
          simp only [lvD, ticks, h4, if_false]
          constructor
          · rintro ⟨j, hj, hp⟩
            by_cases e : j = k
            · subst e; exact .inr hp
            · exact .inl ⟨j, by omega, hp⟩
          · rintro (⟨j, hj, hp⟩ | hp)
            · exact ⟨j, by omega, hp⟩
            · exact ⟨k, by omega, hp⟩
        case measure => simp [intOf]; omega
      · obtain rfl : k = 64 := by omega
        have x0 : wr.cell? ⟨w.heap.size + 1, 0, none⟩ = some (mf o) := (hf.cell 0).trans rfl
        have x1 : wr.cell? ⟨w.heap.size, 0, none⟩ = some (mv o) := (hb.cell 0).trans rfl
        have HM := Lib.hid hmin
        clear hf hb hmin u
        go_wp2_with fail
        go_big_region
        go_wp2_with fail
        go_ret2
        exact ⟨⟨o, HM.out, rfl⟩, hu.drew⟩
theorem IsMin.merge {b d : Int} {D1 D2 D : Int → Prop} (h1 : IsMin (some b) D1) (h2 : IsMin (some d) D2) (hD : ∀ x, D x ↔ D1 x ∨ D2 x) : IsMin (optMin (some b) d) D := by
  simp only [optMin]
  split
  · exact ⟨(hD d).2 (.inr h2.1), fun x hx => by rcases (hD x).1 hx with hx | hx; have := h1.2 x hx; omega; exact h2.2 x hx⟩
  · exact ⟨(hD b).2 (.inl h1.1), fun x hx => by rcases (hD x).1 hx with hx | hx; exact h1.2 x hx; have := h2.2 x hx; omega⟩
def upD (s : Wh) (n : Nat) : Int → Prop := fun d => ∃ j, j < n ∧ lvD s j 64 d
theorem upD_succ (s : Wh) (n : Nat) (d : Int) : upD s (n + 1) d ↔ upD s n d ∨ lvD s n 64 d := by
  constructor
  · rintro ⟨j, hj, h⟩
    by_cases e : j = n
    · subst e; exact .inr h
    · exact .inl ⟨j, by omega, h⟩
  · rintro (⟨j, hj, h⟩ | h)
    · exact ⟨j, by omega, h⟩
    · exact ⟨n, by omega, h⟩
/-- All ticks. -/
def allD (s : Wh) : Int → Prop := fun d => ∃ i, i ≤ 256 ∧ ∃ p ∈ s.sl i, p.2 = d
theorem allD_up (s : Wh) (d : Int) : allD s d ↔ upD s 5 d := by
  constructor
  · rintro ⟨i, hi, hp⟩
    by_cases e : i = 256
    · subst e
      exact ⟨4, by omega, by simp only [lvD, if_true]; exact hp⟩
    · refine ⟨i / 64, by omega, ?_⟩
      simp only [lvD]
      rw [if_neg (by omega)]
      exact ⟨i % 64, by omega, by rw [show i / 64 * 64 + i % 64 = i by omega]; exact hp⟩
  · rintro ⟨j, hj, h⟩
    simp only [lvD] at h
    split at h
    · exact ⟨256, by omega, h⟩
    · obtain ⟨k, hk, hp⟩ := h
      exact ⟨j * 64 + k, by omega, hp⟩
set_option maxRecDepth 100000 in
set_option maxHeartbeats 4000000 in
theorem next_any {w : World} {g : Nat} {bs : Nat → Option Nat} {bf bp : Nat} {s : Wh} (h : WH w g bs bf bp s) :
    Calls Try.prog 20 #[.pointer (some ⟨g, 0, none⟩)] w fun e w' => (∃ o, IsMin o (allD s) ∧ e = .returned (.tuple #[mv o, mf o])) ∧ Upd w w' Nope := by
  have H := Lib.hid h
  clear h
  go_enter Try.func20, Try.ntmps20
  go_wp2_with fail
  go_loopw [4, 5, 9] (fun s4 s5 i wr => ∃ (k : Nat) (o : Option Int), k ≤ 5 ∧ i = .int .i64 k ∧ s4 = mv o ∧ s5 = mf o ∧ IsMin o (upD s k) ∧ Upd w wr Nope) (fun _ _ i _ => 5 - (intOf i).toNat)
  case atStart => exact ⟨0, none, by omega, rfl, rfl, rfl, fun d hd => by obtain ⟨k, hk, _⟩ := hd; omega, Upd.refl _ _⟩
  case round =>
    obtain ⟨k, o, hk, rfl, rfl, rfl, hmin, hu⟩ := hrel
    by_cases hk5 : k < 5
    · have hL := least_any (H.out.nn hu) k (by omega)
      have HL := Lib.hid hL
      have HM := Lib.hid hmin
      clear hL hmin
      cases o with
      | none =>
        simp only [mv, mf, Option.getD_none, Option.isSome_none]
        go_wp2_with fail
        refine HL.out.mono ?_
        rintro e w2 ⟨⟨o', hmin', he⟩, hu2⟩
        have HM' := Lib.hid hmin'
        have HU := Lib.hid (hu.nn hu2)
        clear hmin' hu2 hu
        cases o' with
        | none =>
          obtain rfl : e = .returned (.tuple #[.int .i64 0, .bool false]) := he
          go_wp2
          go_roundw
          case rel => exact ⟨k + 1, none, by omega, by go_num, rfl, rfl, fun d hd => by rcases (upD_succ s k d).1 hd with h | h; exact HM.out d h; exact HM'.out d h, HU.out⟩
          case measure => simp [intOf]; omega
        | some d =>
          obtain rfl : e = .returned (.tuple #[.int .i64 d, .bool true]) := he
          go_wp2
          go_roundw
          case rel => exact ⟨k + 1, some d, by omega, by go_num, rfl, rfl, HM'.out.iff (fun x => by rw [upD_succ]; exact ⟨fun h => h.resolve_left (HM.out x), .inr⟩), HU.out⟩
          case measure => simp [intOf]; omega
      | some b =>
        simp only [mv, mf, Option.getD_some, Option.isSome_some]
        go_wp2_with fail
        refine HL.out.mono ?_
        rintro e w2 ⟨⟨o', hmin', he⟩, hu2⟩
        have HM' := Lib.hid hmin'
        have HU := Lib.hid (hu.nn hu2)
        clear hmin' hu2 hu
        cases o' with
        | none =>
          obtain rfl : e = .returned (.tuple #[.int .i64 0, .bool false]) := he
          go_wp2
          go_roundw
          case rel => exact ⟨k + 1, some b, by omega, by go_num, rfl, rfl, HM.out.iff (fun x => by rw [upD_succ]; exact ⟨fun h => h.resolve_right (HM'.out x), .inl⟩), HU.out⟩
          case measure => simp [intOf]; omega
        | some d =>
          obtain rfl : e = .returned (.tuple #[.int .i64 d, .bool true]) := he
          have hmm := IsMin.merge HM.out HM'.out (upD_succ s k)
          by_cases hlt : d < b
          · have hd : decide (d < b) = true := by simpa using hlt
            have eo : optMin (some b) d = some d := by simp [optMin, hlt]
            rw [eo] at hmm
            have HMM := Lib.hid hmm
            clear hlt eo hmm
            go_wp2
            go_roundw
            case rel => exact ⟨k + 1, some d, by omega, by go_num, rfl, rfl, HMM.out, HU.out⟩
            case measure => simp [intOf]; omega
          · have hd : decide (d < b) = false := by simpa using hlt
            have eo : optMin (some b) d = some b := by simp [optMin, hlt]
            rw [eo] at hmm
            have HMM := Lib.hid hmm
            clear hlt eo hmm
            go_wp2
            go_roundw
            case rel => exact ⟨k + 1, some b, by omega, by go_num, rfl, rfl, HMM.out, HU.out⟩
            case measure => simp [intOf]; omega
    · obtain rfl : k = 5 := by omega
      have HM := Lib.hid hmin
      clear hmin
      go_wp2_with fail
      go_ret2
      exact ⟨⟨o, HM.out.iff (fun x => allD_up s x), rfl⟩, hu⟩
end Go.Proofs.Ytejelihioendnaa
