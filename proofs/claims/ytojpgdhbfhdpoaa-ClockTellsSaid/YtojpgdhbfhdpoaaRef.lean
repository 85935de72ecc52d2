/- The contracts of the reference's Tick and Back, over any world in which the readings lie. -/
import Derived.Test.YtojpgdhbfhdpoaaClk
import Derived.Test.YtojpgdhbfhdpoaaOpen
set_option linter.unusedVariables false
set_option linter.unusedSimpArgs false
namespace Go.Proofs.Ytojpgdhbfhdpoaa
open Go.RowKit

abbrev RdInts (w : World) (A : Option Addr) (l : List Int) : Prop := Rd1 (Value.int .i64) w A l

def tickOf (mark : Int) (l : List Int) : Int := l.foldl rdT mark

theorem tickOf_snoc (mark : Int) (l : List Int) (i : Nat) (h : i < l.length) : tickOf mark (l.take (i + 1)) = rdT (tickOf mark (l.take i)) (l[i]'h) := by
  unfold tickOf
  rw [List.take_succ_eq_append_getElem h, List.foldl_append]
  simp

theorem rdT_eq (t x : Int) (ht : t ≤ 1099511627776) : rdT t x = max t (min x 1099511627776) := by
  unfold rdT; rw [imin_eq]; split <;> omega

theorem rdT_le (t x : Int) (ht : t ≤ 1099511627776) : t ≤ rdT t x ∧ rdT t x ≤ 1099511627776 := by
  rw [rdT_eq t x ht]; omega

theorem tickOf_bd (mark : Int) (l : List Int) (hm : mark ≤ 1099511627776) : mark ≤ tickOf mark l ∧ tickOf mark l ≤ 1099511627776 := by
  unfold tickOf
  induction l generalizing mark with
  | nil => simp; omega
  | cons x l ih =>
    have := rdT_le mark x hm
    have := ih (rdT mark x) this.2
    simp only [List.foldl_cons]
    omega

theorem ref_tick (mark : Int) (A : Option Addr) (c : Nat) (l : List Int) (w : World) (hr : RdInts w A l) (hm : mark ≤ 1099511627776) (hl : l.length ≤ 1000000) :
    Calls Try.prog 9 #[.int .i64 mark, .slice A l.length c] w fun e w' => e = .returned (.int .i64 (tickOf mark l)) ∧ Drew w w' := by
  go_enter Try.func9, Try.ntmps9
  go_wp2
  go_loop [5, 6, 7] (fun m i _ => ∃ k : Nat, k ≤ l.length ∧ i = .int .i64 k ∧ m = .int .i64 (tickOf mark (l.take k))) (fun _ i _ => l.length - (intOf i).toNat)
  case atStart => exact ⟨0, Nat.zero_le _, rfl, by simp [tickOf]⟩
  case round =>
    obtain ⟨k, hk, rfl, rfl⟩ := hrel
    by_cases hlt : k < l.length
    · obtain ⟨ad, rfl, hx⟩ := hr k hlt
      have hs := tickOf_snoc mark l k hlt
      have hb := tickOf_bd mark (l.take k) hm
      generalize tickOf mark (l.take k) = T at hs hb ⊢
      generalize hx0 : l[k] = x at hs hx
      have HS := Lib.hid hs
      clear hs hx0 hr
      by_cases h1 : 1099511627776 < x
      · by_cases h2 : T < 1099511627776
        · go_wp2
          go_round
          case rel => exact ⟨k + 1, by omega, by go_num, by rw [HS.out, rdT_eq _ _ hb.2]; congr 1; omega⟩
          case measure => simp [intOf]; omega
        · go_wp2
          go_round
          case rel => exact ⟨k + 1, by omega, by go_num, by rw [HS.out, rdT_eq _ _ hb.2]; congr 1; omega⟩
          case measure => simp [intOf]; omega
      · by_cases h2 : T < x
        · go_wp2
          go_round
          case rel => exact ⟨k + 1, by omega, by go_num, by rw [HS.out, rdT_eq _ _ hb.2]; congr 1; omega⟩
          case measure => simp [intOf]; omega
        · go_wp2
          go_round
          case rel => exact ⟨k + 1, by omega, by go_num, by rw [HS.out, rdT_eq _ _ hb.2]; congr 1; omega⟩
          case measure => simp [intOf]; omega
    · go_wp2
      go_ret
      exact ⟨ret_eq (by first | rfl | (rw [List.take_of_length_le (by omega)]; rfl)), Drew.refl _⟩
theorem info3 : (Try.prog.info? 3).map (fun i => (i.zero, i.size, i.bytes)) = some (some (.int .i64 0), 1, 8) := by kernel_rfl
/-- xs[:k], an int slice. -/
theorem cut_take (A : Option Addr) (n c k : Nat) (x : Int) (hx : x = k) (hk : k ≤ c) (W : World) : (Instr.slice 22 (.slice A n c) none (some (.int .i64 x)) none).run Try.prog W = .ok (.slice A k c) W := by
  subst hx
  have hel : Try.prog.elem 22 = 3 := by simp [Program.elem, Try.underlying22]
  have hu : Try.prog.underlying 22 = some (.slice (Try.prog.elem 22)) := by rw [hel]; exact Try.underlying22
  have ha : (A.map fun x => x.add 0) = A := by cases A <;> simp [Addr.add]
  obtain ⟨i0, hi, _, hz1, _⟩ := info_parts info3
  rw [run_slice_h W 22 A n c hu .i64 (k : Int) (by omega) (by omega), hel]
  simp [sizeOf, typeInfo, hi, hz1, sliced, Result.andThen, ha]

theorem ref_tick_take (mark : Int) (A : Option Addr) (c : Nat) (l : List Int) (k : Nat) (hk : k ≤ l.length) (w : World) (hr : RdInts w A l) (hm : mark ≤ 1099511627776) (hl : l.length ≤ 1000000) :
    Calls Try.prog 9 #[.int .i64 mark, .slice A k c] w fun e w' => e = .returned (.int .i64 (tickOf mark (l.take k))) ∧ Drew w w' := by
  have h := ref_tick mark A c (l.take k) w (hr.take k) hm (by rw [List.length_take]; omega)
  have e : (l.take k).length = k := by rw [List.length_take]; omega
  rw [e] at h
  exact h

/-- How many were below the tick, as they came. -/
def backOf (mark : Int) (l : List Int) : Nat → Int
  | 0 => 0
  | k + 1 => rdB (tickOf mark (l.take k)) (backOf mark l k) (l.getD k 0)

theorem backOf_bd (mark : Int) (l : List Int) : ∀ k, 0 ≤ backOf mark l k ∧ backOf mark l k ≤ k
  | 0 => by simp [backOf]
  | k + 1 => by
    have := backOf_bd mark l k
    unfold backOf rdB
    split <;> omega

theorem backOf_take (mark : Int) (l : List Int) (n : Nat) : ∀ k, k ≤ n → backOf mark (l.take n) k = backOf mark l k
  | 0, _ => rfl
  | k + 1, h => by
    have hk : k < n := by omega
    rw [backOf, backOf, backOf_take mark l n k (by omega), List.take_take, Nat.min_eq_left (by omega)]
    simp [List.getD, hk]

theorem ref_back (mark : Int) (A : Option Addr) (c : Nat) (l : List Int) (w : World) (hr : RdInts w A l) (hm : mark ≤ 1099511627776) (hl : l.length ≤ 1000000) (hc : l.length ≤ c) :
    Calls Try.prog 13 #[.int .i64 mark, .slice A l.length c] w fun e w' => e = .returned (.int .i64 (backOf mark l l.length)) ∧ Drew w w' := by
  go_enter Try.func13, Try.ntmps13
  go_wp2
  go_loopw [5, 6] (fun m i wr => ∃ k : Nat, k ≤ l.length ∧ i = .int .i64 k ∧ m = .int .i64 (backOf mark l k) ∧ Drew w wr) (fun _ i _ => l.length - (intOf i).toNat)
  case atStart => exact ⟨0, Nat.zero_le _, rfl, rfl, Drew.refl _⟩
  case round =>
    obtain ⟨k, hk, rfl, rfl, hw⟩ := hrel
    have bd := backOf_bd mark l k
    by_cases hlt : k < l.length
    · have hr' := hr.of_drew hw
      obtain ⟨ad, rfl, hx⟩ := hr' k hlt
      have hcut := fun W => cut_take (some ad) l.length c k k rfl (by omega) W
      have hs : backOf mark l (k + 1) = rdB (tickOf mark (l.take k)) (backOf mark l k) (l[k]'hlt) := by rw [backOf]; simp [List.getD, hlt]
      have hcall := fun (m : Nat) => ref_tick_take mark (some ad) c l k (by omega) (wr.drewN m) (hr'.drewN m) hm hl
      generalize backOf mark l k = B at hs bd ⊢
      generalize tickOf mark (l.take k) = T at hs hcall
      generalize l[k] = x at hs hx
      have HS := Lib.hid hs
      have HC := Lib.hid hcall
      clear hs hr hr' hcall
      by_cases h1 : x < T
      · go_wp2_with fail
        go_quiet ((go_at_call 9; exact Drew.quiet (HC.out _)))
        go_wp2
        go_roundw
        case rel => exact ⟨k + 1, by omega, by go_num, by rw [HS.out]; unfold rdB; rw [if_pos h1], hw.step _⟩
        case measure => simp [intOf]; omega
      · go_wp2_with fail
        go_quiet ((go_at_call 9; exact Drew.quiet (HC.out _)))
        go_wp2
        go_roundw
        case rel => exact ⟨k + 1, by omega, by go_num, by rw [HS.out]; unfold rdB; rw [if_neg (by omega)], hw.step _⟩
        case measure => simp [intOf]; omega
    · go_wp2
      go_ret
      obtain rfl : k = l.length := by omega
      exact ⟨rfl, hw⟩
end Go.Proofs.Ytojpgdhbfhdpoaa
