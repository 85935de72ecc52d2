/- FrameSums: its walk. -/
import Derived.Test.YtaipepioomkgpaaAwk
import Derived.Test.YtaipepioomkgpaaByt
set_option linter.unusedVariables false
set_option linter.unusedSimpArgs false
namespace Go.Proofs.Ytaipepioomkgpaa
open Go.RowKit

theorem xorAt_zero (l : List UInt8) : xorAt 0 l = l := by
  induction l with
  | nil => rfl
  | cons b l ih => simp [xorAt, ih]
theorem xorAt_append (m c : List UInt8) : ∀ N, xorAt N (m ++ c) = xorAt N m ++ xorAt (N / 256 ^ m.length) c := by
  induction m with
  | nil => intro N; simp [xorAt]
  | cons b m ih =>
    intro N
    simp only [List.cons_append, xorAt, ih, List.length_cons]
    rw [Nat.div_div_eq_div_mul, Nat.pow_succ, Nat.mul_comm]
theorem xor_low (N k : Nat) (h : k < 8) : (N ^^^ 2 ^ k) / 256 = N / 256 ∧ UInt8.ofNat (N ^^^ 2 ^ k) = UInt8.ofNat N ^^^ UInt8.ofNat (2 ^ k) := by
  refine ⟨?_, ?_⟩
  · apply Nat.eq_of_testBit_eq
    intro i
    rw [show (256 : Nat) = 2 ^ 8 from rfl, Nat.testBit_div_two_pow, Nat.testBit_div_two_pow, Nat.testBit_xor, Nat.testBit_two_pow]
    have : k ≠ i + 8 := by omega
    simp [this]
  · exact UInt8.ofNat_xor ..
theorem xor_high (N k : Nat) (h : 8 ≤ k) : (N ^^^ 2 ^ k) / 256 = N / 256 ^^^ 2 ^ (k - 8) ∧ UInt8.ofNat (N ^^^ 2 ^ k) = UInt8.ofNat N := by
  refine ⟨?_, ?_⟩
  · apply Nat.eq_of_testBit_eq
    intro i
    rw [show (256 : Nat) = 2 ^ 8 from rfl, Nat.testBit_div_two_pow, Nat.testBit_xor, Nat.testBit_xor, Nat.testBit_div_two_pow, Nat.testBit_two_pow, Nat.testBit_two_pow]
    congr 1
    by_cases hk : k = i + 8
    · subst hk; simp
    · have : k - 8 ≠ i := by omega
      simp [hk, this]
  · rw [UInt8.ofNat_xor]
    have : UInt8.ofNat (2 ^ k) = 0 := by
      apply UInt8.toNat.inj
      simp
      obtain ⟨d, rfl⟩ : ∃ d, k = 8 + d := ⟨k - 8, by omega⟩
      rw [Nat.pow_add]
      simp
    rw [this]
    simp
theorem xorAt_bit (l : List UInt8) : ∀ (N k : Nat), k / 8 < l.length → xorAt (N ^^^ 2 ^ k) l = (xorAt N l).set (k / 8) ((xorAt N l).getD (k / 8) 0 ^^^ UInt8.ofNat (2 ^ (k % 8))) := by
  induction l with
  | nil => intro N k h; simp at h
  | cons b l ih =>
    intro N k h
    by_cases hk : k < 8
    · obtain ⟨h1, h2⟩ := xor_low N k hk
      have e1 : k / 8 = 0 := by omega
      have e2 : k % 8 = k := by omega
      simp only [xorAt, h1, h2, e1, e2, List.set_cons_zero, List.getD_cons_zero]
      rw [UInt8.xor_assoc]
    · obtain ⟨h1, h2⟩ := xor_high N k (by omega)
      have e1 : k / 8 = (k - 8) / 8 + 1 := by omega
      have e2 : k % 8 = (k - 8) % 8 := by omega
      rw [e1, e2]
      simp only [xorAt, h1, h2, List.set_cons_succ, List.getD_cons_succ]
      rw [ih (N / 256) (k - 8) (by simp at h; omega)]
theorem mod_step (t j : Nat) : t % 2 ^ (j + 1) = (t % 2 ^ j) ^^^ (if t / 2 ^ j % 2 = 1 then 2 ^ j else 0) := by
  apply Nat.eq_of_testBit_eq
  intro i
  rw [Nat.testBit_xor, Nat.testBit_mod_two_pow, Nat.testBit_mod_two_pow]
  have hb : t.testBit j = decide (t / 2 ^ j % 2 = 1) := by rw [Nat.testBit_eq_decide_div_mod_eq]
  by_cases h : t / 2 ^ j % 2 = 1
  · rw [if_pos h, Nat.testBit_two_pow]
    by_cases hij : j = i
    · subst hij; simp [hb, h]
    · by_cases h2 : i < j
      · have : i < j + 1 := by omega
        simp [h2, this, hij]
      · have : ¬ i < j + 1 := by omega
        simp [h2, this, hij]
  · rw [if_neg h, Nat.zero_testBit]
    by_cases hij : j = i
    · subst hij; simp [hb, h]
    · by_cases h2 : i < j
      · have : i < j + 1 := by omega
        simp [h2, this]
      · have : ¬ i < j + 1 := by omega
        simp [h2, this]
theorem pow_xor (s a b : Nat) : 2 ^ s * (a ^^^ b) = 2 ^ s * a ^^^ 2 ^ s * b := by
  apply Nat.eq_of_testBit_eq
  intro i
  rw [Nat.testBit_xor, Nat.testBit_two_pow_mul, Nat.testBit_two_pow_mul, Nat.testBit_two_pow_mul, Nat.testBit_xor]
  by_cases h : s ≤ i <;> simp [h]

/-- The bytes behind j rounds. -/
def burst (l : List UInt8) (a t j : Nat) : List UInt8 := l.take (a / 8) ++ xorAt (2 ^ (a % 8) * (t % 2 ^ j)) (l.drop (a / 8))
theorem burst_length (l : List UInt8) (a t j : Nat) : (burst l a t j).length = l.length := by
  unfold burst
  rw [List.length_append, xorAt_length, List.length_take, List.length_drop]
  omega
theorem burst_zero (l : List UInt8) (a t : Nat) : burst l a t 0 = l := by
  unfold burst
  rw [Nat.pow_zero, Nat.mod_one, Nat.mul_zero, xorAt_zero, List.take_append_drop]
theorem burst_no (l : List UInt8) (a t j : Nat) (h : ¬ t / 2 ^ j % 2 = 1) : burst l a t (j + 1) = burst l a t j := by
  unfold burst
  rw [mod_step, if_neg h, Nat.xor_zero]
theorem burst_yes (l : List UInt8) (a t j : Nat) (h : t / 2 ^ j % 2 = 1) (hb : (a + j) / 8 < l.length) :
    burst l a t (j + 1) = (burst l a t j).set ((a + j) / 8) ((burst l a t j).getD ((a + j) / 8) 0 ^^^ UInt8.ofNat (2 ^ ((a + j) % 8))) := by
  unfold burst
  have e0 : 2 ^ (a % 8) * 2 ^ j = 2 ^ (a % 8 + j) := by rw [Nat.pow_add]
  have e1 : (a + j) / 8 = a / 8 + (a % 8 + j) / 8 := by omega
  have e2 : (a + j) % 8 = (a % 8 + j) % 8 := by omega
  have hl : (l.take (a / 8)).length = a / 8 := by rw [List.length_take]; omega
  rw [mod_step, if_pos h, pow_xor, e0, xorAt_bit _ _ _ (by rw [List.length_drop]; omega), e1, e2, List.set_append_right _ _ (by omega), hl]
  congr 1
  have : a / 8 + (a % 8 + j) / 8 - a / 8 = (a % 8 + j) / 8 := by omega
  rw [this]
  congr 2
  simp only [List.getD]
  rw [List.getElem?_append_right (by omega), hl, this]
theorem burst_crc (l : List UInt8) (a t : Nat) (ha : a / 8 + 5 ≤ l.length) (ht : t < 4294967296) (h0 : t ≠ 0) : crcOf (burst l a t 32) ≠ crcOf l := by
  unfold burst
  rw [show (2 : Nat) ^ 32 = 4294967296 from rfl, Nat.mod_eq_of_lt ht]
  have hN : 2 ^ (a % 8) * t < 256 ^ 5 := by
    have : (2 : Nat) ^ (a % 8) ≤ 2 ^ 8 := Nat.pow_le_pow_right (by omega) (by omega)
    calc 2 ^ (a % 8) * t ≤ 2 ^ 8 * t := Nat.mul_le_mul_right _ this
      _ < 256 ^ 5 := by omega
  have e : l.drop (a / 8) = (l.drop (a / 8)).take 5 ++ l.drop (a / 8 + 5) := by rw [← List.drop_drop, List.take_append_drop]
  have hm : ((l.drop (a / 8)).take 5).length = 5 := by rw [List.length_take, List.length_drop]; omega
  have e2 : l = l.take (a / 8) ++ (l.drop (a / 8)).take 5 ++ l.drop (a / 8 + 5) := by rw [List.append_assoc, ← e, List.take_append_drop]
  have := crc_burst (l.take (a / 8)) ((l.drop (a / 8)).take 5) (l.drop (a / 8 + 5)) t (a % 8) ht h0 (by omega) hm
  rw [← e2] at this
  rw [e, xorAt_append, hm, Nat.div_eq_of_lt hN, xorAt_zero, ← List.append_assoc]
  exact this

set_option maxHeartbeats 4000000 in
set_option maxRecDepth 100000 in
theorem sums_walk (w : World) (s : ByteArray) (hs : s.size ≤ 140737488351232) (cut : Int) (wc : (Lit.int .i64 cut).wf = true) (tn : Int) (wt : (Lit.int .u32 tn).wf = true) :
    Calls Try.prog 7 #[.string s, .int .i64 cut, .int .u32 tn] w fun e w' => e = .returned (.bool true) ∧ Below w.heap.size w w' := by
  obtain ⟨wc1, wc2⟩ := wf_i64 wc
  obtain ⟨wt1, wt2⟩ := wf_u32 wt
  obtain ⟨t, rfl⟩ : ∃ t : Nat, tn = t := ⟨tn.toNat, by omega⟩
  by_cases c1 : s.size < 5 ∨ 20000 < s.size ∨ cut < 0 ∨ t = 0
  · rcases (show s.size < 5 ∨ (5 ≤ s.size ∧ 20000 < s.size) ∨ (5 ≤ s.size ∧ s.size ≤ 20000 ∧ cut < 0) ∨ (5 ≤ s.size ∧ s.size ≤ 20000 ∧ 0 ≤ cut ∧ t = 0) by omega) with h | ⟨h, h'⟩ | ⟨h, h', h''⟩ | ⟨h, h', h'', rfl⟩
    all_goals
      go_enter Try.func7, Try.ntmps7
      go_wp2_with fail
      refine (awake_any w).mono ?_
      rintro e w1 ⟨rfl, hu1⟩
      go_wp2
      go_ret
      exact ⟨rfl, hu1.below (fun _ h => h.elim)⟩
  · obtain ⟨cu, rfl⟩ : ∃ n : Nat, cut = n := ⟨cut.toNat, by omega⟩
    have k1 : 5 ≤ s.size := by omega
    have k2 : s.size ≤ 20000 := by omega
    have k3 : t ≠ 0 := by omega
    have k4 : t < 4294967296 := by omega
    have ktz : ((t : Int) == 0) = false := beq_false_of_ne (by omega)
    obtain ⟨a, ha⟩ : ∃ a, cu % ((s.size - 4) * 8) = a := ⟨_, rfl⟩
    have hal : a < (s.size - 4) * 8 := by have := Nat.mod_lt cu (show 0 < (s.size - 4) * 8 by omega); omega
    have hmod : (cu : Int).tmod (((s.size : Int) - 4) * 8) = a := by
      have e : ((s.size : Int) - 4) * 8 = (((s.size - 4) * 8 : Nat) : Int) := by omega
      rw [e, ← ha, Int.tmod_eq_emod_of_nonneg (by omega), Int.natCast_emod]
    clear ha c1 wc wt
    have d1 : decide ((s.size : Int) < 5) = false := by simp; omega
    have d2 : decide ((20000 : Int) < s.size) = false := by simp; omega
    have d3 : decide ((cu : Int) < 0) = false := by simp
    have kz : ¬ (((s.size : Int) - 4) * 8 = 0) := by omega
    go_enter Try.func7, Try.ntmps7
    go_wp2_with fail
    refine (awake_any w).mono ?_
    rintro e w1 ⟨rfl, hu1⟩
    have kc := Lib.run_convert_string_bytes (P := Try.prog) w1 9 38 5 s Try.underlying9 Try.underlying38 Try.underlying5
    have hby := Byt.new w1 s
    have hub := hu1.nn (Byt.newUpd w1 s Nope)
    have hg := hu1.size
    generalize hcap : grownCap w1 s.size 0 5 = gc at kc
    clear hcap
    generalize w1.heap.size = g at kc hby hg
    generalize Lib.bytesWorld w1 5 s = wb at kc hby hub
    go_wp2_with fail
    go_loopw [8] (fun i wr => ∃ j : Nat, j ≤ 32 ∧ i = .int .i64 j ∧ Byt wr g (burst s.data.toList a t j) ∧ Upd w wr Nope) (fun i _ => 32 - (intOf i).toNat)
    case atStart => exact ⟨0, by omega, rfl, by rw [burst_zero]; exact hby, hub⟩
    case round =>
      clear hby hub kc
      obtain ⟨j, hj, rfl, hby, hu⟩ := hrel
      have hbl : (burst s.data.toList a t j).length = s.size := by rw [burst_length, data_len]
      by_cases hlt : j < 32
      · have hand := and_u32 (t / 2 ^ j) 1 (Nat.lt_of_le_of_lt (Nat.div_le_self ..) k4) (by omega)
        rw [Nat.and_one_is_mod, Int.natCast_ediv, Int.natCast_pow] at hand
        by_cases hbit : t / 2 ^ j % 2 = 1
        · have htest : (bits .and .u32 ((t : Int) / 2 ^ j) 1 == 1) = true := by
            rw [show bits .and .u32 ((t : Int) / 2 ^ j) 1 = ((t / 2 ^ j % 2 : Nat) : Int) from hand, hbit]; rfl
          have hq : (a + j) / 8 < s.data.toList.length := by rw [data_len]; omega
          have hbs := burst_yes s.data.toList a t j hbit hq
          rw [data_len] at hq
          have hcell := hby.cell ((a + j) / 8) (by omega)
          have hfrz := hby.frz ((a + j) / 8) (by omega)
          have hset := hby.set ((a + j) / 8) ((burst s.data.toList a t j).getD ((a + j) / 8) 0 ^^^ UInt8.ofNat (2 ^ ((a + j) % 8))) (by omega) _ rfl
          rw [← hbs] at hset
          generalize (burst s.data.toList a t j).getD ((a + j) / 8) 0 = ob at hcell hset
          have hx8 := xor_u8 ob.toNat (2 ^ ((a + j) % 8)) (by have := ob.toNat_lt; omega) (Nat.pow_lt_pow_right (by omega) (show (a + j) % 8 < 8 by omega))
          have HB := Lib.hid hset
          clear hbs hset hand hbit
          have hval : bits .xor .u8 (ob.toNat : Int) (2 ^ ((a + j) % 8) % 256) = ((ob ^^^ UInt8.ofNat (2 ^ ((a + j) % 8))).toNat : Int) := by
            have hp : 2 ^ ((a + j) % 8) < 256 := Nat.pow_lt_pow_right (by omega) (show (a + j) % 8 < 8 by omega)
            have e : ((2 : Int) ^ ((a + j) % 8) % 256) = ((2 ^ ((a + j) % 8) : Nat) : Int) := by
              rw [Int.natCast_pow]
              exact Int.emod_eq_of_lt (Int.le_of_lt (Int.pow_pos (by omega))) (by exact_mod_cast hp)
            rw [e, hx8, UInt8.toNat_xor]
            simp [Nat.mod_eq_of_lt hp]
          have HV := Lib.hid hval
          clear hval hx8
          go_wp2_with fail
          go_region
          rw [HV.out]
          have hB := HB.out
          have hB2 : Byt (wr.setCell ⟨g, (a + j) / 8, none⟩ (.int .u8 ((ob ^^^ UInt8.ofNat (2 ^ ((a + j) % 8))).toNat : Int))).drew g (burst s.data.toList a t (j + 1)) := ⟨hB.lt, hB.cell, hB.frz⟩
          have hu2 : Upd w (wr.setCell ⟨g, (a + j) / 8, none⟩ (.int .u8 ((ob ^^^ UInt8.ofNat (2 ^ ((a + j) % 8))).toNat : Int))).drew Nope := (hu.set _ _ (.inr hg)).drew
          clear hB HB HV hcell hfrz hby hu
          generalize (wr.setCell ⟨g, (a + j) / 8, none⟩ (.int .u8 ((ob ^^^ UInt8.ofNat (2 ^ ((a + j) % 8))).toNat : Int))).drew = wn at hB2 hu2 ⊢
          go_wp2
          go_roundw
          case rel => exact ⟨j + 1, by omega, by go_num, hB2, hu2⟩
          case measure => simp [intOf]; omega
        · have htest : (bits .and .u32 ((t : Int) / 2 ^ j) 1 == 1) = false := by
            rw [show bits .and .u32 ((t : Int) / 2 ^ j) 1 = ((t / 2 ^ j % 2 : Nat) : Int) from hand]; exact beq_false_of_ne (by omega)
          have hbs := burst_no s.data.toList a t j hbit
          rw [← hbs] at hby
          clear hbs hand hbit
          go_wp2
          go_roundw
          case rel => exact ⟨j + 1, by omega, by go_num, hby, hu⟩
          case measure => simp [intOf]; omega
      · obtain rfl : j = 32 := by omega
        have hstr := hby.str gc
        rw [hbl] at hstr
        have hcr := burst_crc s.data.toList a t (by rw [data_len]; omega) k4 k3
        have hbz : (⟨(burst s.data.toList a t 32).toArray⟩ : ByteArray).size = s.size := by show (burst s.data.toList a t 32).toArray.size = _; rw [List.size_toArray, hbl]
        have hbd : (⟨(burst s.data.toList a t 32).toArray⟩ : ByteArray).data.toList = burst s.data.toList a t 32 := by simp
        rw [← hbd] at hcr
        generalize (⟨(burst s.data.toList a t 32).toArray⟩ : ByteArray) = fb at hstr hbz hcr
        have hne : ((crcOf fb.data.toList : Int) == (crcOf s.data.toList : Int)) = false := beq_false_of_ne (by omega)
        have hne2 : ((crcOf fb.data.toList) == (crcOf s.data.toList)) = false := beq_false_of_ne hcr
        have hsum1 := sum_any fb
        have hsum2 := sum_any s
        generalize crcOf fb.data.toList = X at hne hne2 hcr hsum1
        generalize crcOf s.data.toList = Y at hne hne2 hcr hsum2
        clear hby hbd hbl
        go_wp2_with fail
        refine (hsum1 _ (by omega)).mono ?_
        rintro e w3 ⟨rfl, hu3⟩
        have hu3' := hu.nn hu3
        clear hu hu3
        go_wp2_with fail
        refine (hsum2 _ hs).mono ?_
        rintro e w4 ⟨rfl, hu4⟩
        have hu4' := hu3'.nn hu4
        clear hu3' hu4
        go_wp2_with fail
        refine (hsum2 _ hs).mono ?_
        rintro e w5 ⟨rfl, hu5⟩
        have hu5' := hu4'.nn hu5
        clear hu4' hu5
        go_wp2_with fail
        have he : s ++ (⟨#[]⟩ : ByteArray) = s := by apply ByteArray.ext; simp
        first | rw [he] | skip
        refine (hsum2 _ hs).mono ?_
        rintro e w6 ⟨rfl, hu6⟩
        have hu6' := hu5'.nn hu6
        clear hu5' hu6
        go_wp2_with fail
        go_ret
        exact ⟨ret_eq (by simp; omega), hu6'.below (fun _ h => h.elim)⟩
end Go.Proofs.Ytaipepioomkgpaa
