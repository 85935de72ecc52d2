/- The reference: Labels, Lower, Domain, until, Right. -/
import Derived.Test.YthfmjiafdfoajaaDoorQts
set_option linter.unusedVariables false
set_option linter.unusedSimpArgs false
namespace Go.Proofs.YthfmjiafdfoajaaDoor
open Go.RowKit Go.Shelf

theorem labB_eq (s : ByteArray) : ((pcs s).all fun x => !badL x) = labelsL s.data.toList := all_pcs _ _ fun x => by rw [badL_ll]
theorem okB_no {x : ByteArray} {j : Nat} (h : j < x.size) (hp : okB x[j] = false) : badL x = true := by
  rw [badL_eq]
  have : x.data.toList.all okB = false := by
    rw [List.all_eq_false]
    refine ⟨x[j], ?_, by simp [hp]⟩
    rw [← gd_eq x j h, List.getD, List.getElem?_eq_getElem (show j < x.data.toList.length from h)]
    exact List.getElem_mem _
  rw [this]
  simp
set_option maxRecDepth 100000 in
set_option maxHeartbeats 8000000 in
theorem rlabels_any (s : ByteArray) (hs : s.size ≤ 5000) (w : World) : Calls Tryd.prog 33 #[.string s] w fun e w' => e = .returned (.bool (labelsL s.data.toList)) ∧ Upd w w' Nope := by
  have hcut := fun W => cut_any s hs W
  have hxs := fun (x : ByteArray) => pcs_len s hs (x := x)
  have hcnt := pcs_count s hs
  obtain ⟨R, hR⟩ : ∃ R, labelsL s.data.toList = R := ⟨_, rfl⟩
  rw [hR]
  rw [← labB_eq] at hR
  generalize pcs s = xs at hcut hR hxs hcnt
  have HC := Lib.hid hcut
  have HR := Lib.hid hR
  have HX := Lib.hid hxs
  clear hcut hR hxs
  go_enter Tryd.func33, Tryd.ntmps33
  go_wp2_with fail
  refine (HC.out _).mono ?_
  rintro e w2 ⟨A, cap, rfl, hrd, hu⟩
  go_wp2_with fail
  go_loopw [4] (fun iv wr => ∃ (i : Nat), i ≤ xs.length ∧ iv = .int .i64 i ∧ ((xs.take i).all fun x => !badL x) = true ∧ Rd1 Value.string wr A xs ∧ Upd w wr Nope) (fun iv wr => xs.length - (intOf iv).toNat)
  case atStart => exact ⟨0, Nat.zero_le _, rfl, by simp, hrd, hu⟩
  case round =>
    clear hrd hu
    obtain ⟨i, hi, rfl, hall, hrd, hu⟩ := hrel
    by_cases hlt : i < xs.length
    · obtain ⟨ad, rfl, hcell⟩ := hrd i hlt
      have hxz := HX.out xs[i] (List.getElem_mem _)
      have HNO := Lib.hid (fun (h : badL xs[i] = true) => (HR.out).symm.trans (all_no (p := fun x => !badL x) hlt (by rw [h]; rfl)))
      have HYES := Lib.hid (fun (h : badL xs[i] = false) => all_take (p := fun x => !badL x) hlt hall (by rw [h]; rfl))
      have hbe := badL_eq xs[i]
      have hie := fun j => idx_eq xs[i] j
      generalize xs[i] = x at hcell hxz HNO HYES hbe hie
      clear hall
      rcases (show x.size < 1 ∨ (1 ≤ x.size ∧ 63 < x.size) ∨ (1 ≤ x.size ∧ x.size ≤ 63) by omega) with hz | ⟨hz, hz2⟩ | ⟨hz, hz2⟩
      · have HRn : Hid (R = false) := Lib.hid (HNO.out (by rw [hbe, show x.size = 0 by omega]; rfl))
        clear hbe hie
        go_wp2_with fail
        go_ret
        exact ⟨by rw [HRn.out]; rfl, hu⟩
      · have HRn : Hid (R = false) := Lib.hid (HNO.out (by rw [hbe, decide_eq_true hz2]; simp))
        clear hbe hie
        go_wp2_with fail
        go_ret
        exact ⟨by rw [HRn.out]; rfl, hu⟩
      · have h0 : 0 < x.size := hz
        obtain ⟨m, hm⟩ : ∃ m, x.size - 1 = m := ⟨_, rfl⟩
        have hml : m < x.size := by omega
        have hmi : (x.size : Int) - 1 = (m : Int) := by omega
        have hi0 := hie 0 h0
        have him := hie m hml
        rw [hm, hi0, him] at hbe
        have b1 : decide (x.size = 0) = false := by rw [decide_eq_false_iff_not]; omega
        have b2 : decide (63 < x.size) = false := by rw [decide_eq_false_iff_not]; omega
        rw [b1, b2] at hbe
        by_cases h45 : x[0] = 45
        · have HRn : Hid (R = false) := Lib.hid (HNO.out (by rw [hbe, h45]; rfl))
          have hx : ((x[0].toNat : Int) == 45) = true := by rw [h45]; decide
          clear hbe hie hi0 him b1 b2 hmi h45
          go_wp2_with fail
          go_ret
          exact ⟨by rw [HRn.out]; rfl, hu⟩
        · have hx : ((x[0].toNat : Int) == 45) = false := by
            rw [beq_eq_false_iff_ne]; exact fun h => h45 (u8_of (n := 45) (by decide) h)
          have hb0 : (some x[0] == some 45) = false := by
            rw [beq_eq_false_iff_ne]; exact fun h => h45 (Option.some.inj h)
          by_cases h46 : x[m] = 45
          · have HRn : Hid (R = false) := Lib.hid (HNO.out (by rw [hbe, h46, hb0]; rfl))
            have hx2 : ((x[m].toNat : Int) == 45) = true := by rw [h46]; decide
            clear hbe hie hi0 him b1 b2 h45 h46 hb0 hm
            go_wp2_with fail
            go_ret
            exact ⟨by rw [HRn.out]; rfl, hu⟩
          · have hx2 : ((x[m].toNat : Int) == 45) = false := by
              rw [beq_eq_false_iff_ne]; exact fun h => h46 (u8_of (n := 45) (by decide) h)
            have hbm : (some x[m] == some 45) = false := by
              rw [beq_eq_false_iff_ne]; exact fun h => h46 (Option.some.inj h)
            rw [hb0, hbm, Bool.false_or, Bool.false_or, Bool.false_or] at hbe
            have HBE := Lib.hid hbe
            clear hbe hie hi0 him b1 b2 h45 h46 hb0 hbm hm
            go_wp2_with fail
            clear hmi
            go_loop [6] (fun jv => ∃ j : Nat, j ≤ x.size ∧ jv = .int .i64 j ∧ (x.data.toList.take j).all okB = true) (fun jv => x.size - (intOf jv).toNat)
            case atStart => exact ⟨0, Nat.zero_le _, rfl, by simp⟩
            case round =>
              obtain ⟨j, hj, rfl, hja⟩ := hrel
              by_cases hjl : j < x.size
              · have HAT := Lib.hid (fun (h : okB x[j] = true) => all_take (show j < x.data.toList.length from hjl) hja (by rw [get_data x j hjl]; exact h))
                have HNA := Lib.hid (fun (h : okB x[j] = false) => HNO.out (okB_no hjl h))
                have har : okB x[j] = (letP x[j] || x[j] == 45) := rfl
                have HL := Lib.hid (fun W => rletter_any x[j] W)
                generalize letP x[j] = L at har HL
                have HAR := Lib.hid har
                clear har hja
                cases L with
                | true =>
                  have HA2 := Lib.hid (HAT.out (by rw [HAR.out]; rfl))
                  go_wp2_with fail
                  refine (HL.out _).mono ?_
                  rintro e wQ ⟨rfl, hwQ⟩
                  obtain rfl := hwQ
                  go_wp2_with fail
                  go_round
                  case rel => exact ⟨j + 1, by omega, by go_num, HA2.out⟩
                  case measure => simp [intOf]; omega
                | false =>
                  by_cases h45 : x[j] = 45
                  · have HA2 := Lib.hid (HAT.out (by rw [HAR.out, h45]; rfl))
                    have hx3 : ((x[j].toNat : Int) != 45) = false := by rw [h45]; decide
                    clear h45
                    go_wp2_with fail
                    refine (HL.out _).mono ?_
                    rintro e wQ ⟨rfl, hwQ⟩
                    obtain rfl := hwQ
                    go_wp2_with fail
                    go_round
                    case rel => exact ⟨j + 1, by omega, by go_num, HA2.out⟩
                    case measure => simp [intOf]; omega
                  · have h45' : (x[j] == 45) = false := by simpa using h45
                    have HRn := Lib.hid (HNA.out (by rw [HAR.out, h45']; rfl))
                    have hx3 : ((x[j].toNat : Int) != 45) = true := by
                      rw [bne_iff_ne]; exact fun h => h45 (u8_of (n := 45) (by decide) h)
                    clear h45 h45'
                    go_wp2_with fail
                    refine (HL.out _).mono ?_
                    rintro e wQ ⟨rfl, hwQ⟩
                    obtain rfl := hwQ
                    go_wp2_with fail
                    go_ret
                    exact ⟨by rw [HRn.out]; rfl, hu⟩
              · obtain rfl : j = x.size := by omega
                rw [List.take_of_length_le (show x.data.toList.length ≤ x.size from Nat.le_refl _)] at hja
                have HG := Lib.hid (HYES.out (by rw [HBE.out, hja]; rfl))
                clear hja
                go_wp2_with fail
                go_roundw
                case rel => exact ⟨i + 1, by omega, by go_num, HG.out, hrd, hu⟩
                case measure => simp [intOf]; omega
    · obtain rfl : i = xs.length := by omega
      rw [List.take_of_length_le (Nat.le_refl _)] at hall
      have HRn : Hid (R = true) := Lib.hid (by rw [← HR.out, hall])
      clear hall
      go_wp2_with fail
      go_ret
      exact ⟨by rw [HRn.out]; rfl, hu⟩
theorem lower_snoc (l : List UInt8) (k : Nat) (h : k < l.length) : Lib.toLowerA (l.take (k + 1)) = Lib.toLowerA (l.take k) ++ [Lib.lowerB (l.getD k 0)] := by
  rw [take_snoc l k h]
  simp [Lib.toLowerA]
set_option maxRecDepth 100000 in
set_option maxHeartbeats 8000000 in
theorem rlower_any (s : ByteArray) (hs : s.size ≤ 5000) (w : World) : Calls Tryd.prog 31 #[.string s] w fun e w' => e = .returned (.string (bs (Lib.toLowerA s.data.toList))) ∧ Upd w w' Nope := by
  have hlen : s.data.toList.length = s.size := rfl
  go_enter Tryd.func31, Tryd.ntmps31
  go_wp2_with fail
  go_loopw [3, 4] (fun ov iv wr => ∃ (k : Nat), k ≤ s.size ∧ iv = .int .i64 k ∧ wr.ownsRow w.heap.size 5 1 ov k ((Lib.toLowerA (s.data.toList.take k)).map u8v) ∧ Upd w wr Nope) (fun ov iv wr => s.size - (intOf iv).toNat)
  case atStart => exact ⟨0, Nat.zero_le _, rfl, World.ownsRow_nil _ _ _ _, Upd.refl _ _⟩
  case round =>
    obtain ⟨k, hk, rfl, hown, hu⟩ := hrel
    have hul := hu.size
    by_cases hlt : k < s.size
    · have hsn := lower_snoc s.data.toList k hlt
      rw [gd_eq s k hlt] at hsn
      have HSM := Lib.hid (fun W => small_any s[k] W)
      obtain ⟨d, hd⟩ : ∃ d, Lib.lowerB s[k] = d := ⟨_, rfl⟩
      rw [hd] at hsn HSM
      obtain ⟨v', w2, hap, hown2, hu2, _⟩ := appB hown [d] (by simp) hul (by simp; omega) #[.int .u8 d.toNat] rfl 1 rfl
      have hltv := hown.lt
      have hu3 : Upd w w2 Nope := hu.trans hu2 (fun _ _ h => h) (fun i hi e => by have := (hltv i e).1; omega)
      rw [← hsn] at hown2
      have HO2 := Lib.hid hown2
      clear hsn hown hltv hown2 hd
      go_wp2_with fail
      refine (HSM.out _).mono ?_
      rintro e wQ ⟨rfl, hwQ⟩
      obtain rfl := hwQ
      go_wp2_with (at_builtin; refine wpList_append_eq _ _ rfl rfl hap rfl rfl rfl ?_)
      go_roundw
      case rel => exact ⟨k + 1, by omega, by go_num, HO2.out, hu3⟩
      case measure => simp [intOf]; omega
    · obtain rfl : k = s.size := by omega
      rw [List.take_of_length_le (Nat.le_of_eq hlen)] at hown
      have hcv := strB hown
      clear hown
      go_wp2_with fail
      go_ret
      exact ⟨rfl, hu⟩
end Go.Proofs.YthfmjiafdfoajaaDoor
