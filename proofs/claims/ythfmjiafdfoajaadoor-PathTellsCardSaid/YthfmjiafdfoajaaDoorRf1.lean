/- The reference: small, letter, has, cut, Atoms, Labels. -/
import Derived.Test.YthfmjiafdfoajaaDoorCtr
set_option linter.unusedVariables false
set_option linter.unusedSimpArgs false
namespace Go.Proofs.YthfmjiafdfoajaaDoor
open Go.RowKit Go.Shelf

theorem low_in {c : UInt8} (h : 65 ≤ c.toNat ∧ c.toNat ≤ 90) : (Lib.lowerB c).toNat = c.toNat + 32 := by
  have := u8_all (fun b => !(decide (65 ≤ b.toNat) && decide (b.toNat ≤ 90)) || decide ((Lib.lowerB b).toNat = b.toNat + 32)) (by decide +kernel) c
  simp only [h.1, h.2, decide_true, Bool.and_self, Bool.not_true, Bool.false_or, decide_eq_true_eq] at this
  exact this
theorem low_out {c : UInt8} (h : ¬ (65 ≤ c.toNat ∧ c.toNat ≤ 90)) : Lib.lowerB c = c := by
  have := u8_all (fun b => (decide (65 ≤ b.toNat) && decide (b.toNat ≤ 90)) || (Lib.lowerB b == b)) (by decide +kernel) c
  have h' : (decide (65 ≤ c.toNat) && decide (c.toNat ≤ 90)) = false := by simpa using h
  rw [h', Bool.false_or] at this
  simpa using this
theorem small_any (c : UInt8) (w : World) : Calls Tryd.prog 53 #[.int .u8 c.toNat] w fun e w' => e = .returned (.int .u8 (Lib.lowerB c).toNat) ∧ w' = w := by
  have hb := c.toNat_lt
  rcases (show c.toNat < 65 ∨ (65 ≤ c.toNat ∧ c.toNat ≤ 90) ∨ (65 ≤ c.toNat ∧ 90 < c.toNat) by omega) with h | ⟨h, h2⟩ | ⟨h, h2⟩
  · have e := Lib.hid (low_out (c := c) (by omega))
    go_enter Tryd.func53, Tryd.ntmps53
    go_wp2_with fail
    go_ret
    exact ⟨by rw [e.out]; rfl, rfl⟩
  · have e := Lib.hid (low_in (c := c) ⟨h, h2⟩)
    go_enter Tryd.func53, Tryd.ntmps53
    go_wp2_with fail
    go_ret
    exact ⟨by rw [e.out]; rfl, rfl⟩
  · have e := Lib.hid (low_out (c := c) (by omega))
    go_enter Tryd.func53, Tryd.ntmps53
    go_wp2_with fail
    go_ret
    exact ⟨by rw [e.out]; rfl, rfl⟩
theorem letP_low (c : UInt8) : letP c = ((decide (97 ≤ (Lib.lowerB c).toNat) && decide ((Lib.lowerB c).toNat ≤ 122)) || (decide (48 ≤ (Lib.lowerB c).toNat) && decide ((Lib.lowerB c).toNat ≤ 57))) := by
  have := u8_all (fun c => letP c == ((decide (97 ≤ (Lib.lowerB c).toNat) && decide ((Lib.lowerB c).toNat ≤ 122)) || (decide (48 ≤ (Lib.lowerB c).toNat) && decide ((Lib.lowerB c).toNat ≤ 57)))) (by decide +kernel) c
  simpa using this
theorem rletter_any (c : UInt8) (w : World) : Calls Tryd.prog 38 #[.int .u8 c.toNat] w fun e w' => e = .returned (.bool (letP c)) ∧ w' = w := by
  have hs := fun W => small_any c W
  have hl := letP_low c
  generalize Lib.lowerB c = d at hs hl
  generalize letP c = L at hl
  have HS := Lib.hid hs
  have HL := Lib.hid hl
  have hb := d.toNat_lt
  clear hs hl
  go_enter Tryd.func38, Tryd.ntmps38
  go_wp2_with fail
  refine (HS.out _).mono ?_
  rintro e w2 ⟨rfl, hw⟩
  obtain rfl := hw
  go_wp2_with fail
  all_goals
    go_ret
    refine ⟨?_, rfl⟩
    rw [HL.out]
    show Ending.returned (Value.bool _) = _
    refine congrArg (fun b => Ending.returned (Value.bool b)) ?_
    rw [Bool.eq_iff_iff]
    simp only [Bool.or_eq_true, Bool.and_eq_true, decide_eq_true_eq, true_iff, Bool.false_eq_true, false_iff]
    omega
theorem contains_take {l : List UInt8} {k : Nat} {c : UInt8} (h : k < l.length) (hn : (l.take k).contains c = false) (hne : l.getD k 0 ≠ c) : (l.take (k + 1)).contains c = false := by
  rw [take_snoc l k h]
  simp only [List.contains_eq_mem, decide_eq_false_iff_not, List.mem_append, List.mem_singleton, not_or] at *
  exact ⟨hn, fun e => hne e.symm⟩
theorem has_any (s : ByteArray) (hs : s.size ≤ 5000) (c : UInt8) (w : World) : Calls Tryd.prog 39 #[.string s, .int .u8 c.toNat] w fun e w' => e = .returned (.bool (s.data.toList.contains c)) ∧ w' = w := by
  have hlen : s.data.toList.length = s.size := rfl
  obtain ⟨B, hB⟩ : ∃ B, s.data.toList.contains c = B := ⟨_, rfl⟩
  rw [hB]
  have HB := Lib.hid hB
  clear hB
  go_enter Tryd.func39, Tryd.ntmps39
  go_wp2_with fail
  go_loop [5] (fun i => ∃ k : Nat, k ≤ s.size ∧ i = .int .i64 k ∧ (s.data.toList.take k).contains c = false) (fun i => s.size - (intOf i).toNat)
  case atStart => exact ⟨0, Nat.zero_le _, rfl, by simp⟩
  case round =>
    obtain ⟨k, hk, rfl, hn⟩ := hrel
    by_cases hlt : k < s.size
    · by_cases he : s[k] = c
      · have hx : ((s[k].toNat : Int) == (c.toNat : Int)) = true := by rw [he]; simp
        have hy : s[k].toNat = c.toNat := by rw [he]
        have HR : Hid (B = true) := Lib.hid (by
          rw [← HB.out, List.contains_eq_mem, decide_eq_true_eq, ← he, ← gd_eq s k hlt, List.getD, List.getElem?_eq_getElem (show k < s.data.toList.length from hlt)]
          exact List.getElem_mem _)
        clear hn he
        go_wp2_with fail
        go_ret
        exact ⟨by rw [HR.out]; rfl, rfl⟩
      · have hne : s[k].toNat ≠ c.toNat := fun e => he (UInt8.toNat_inj.1 e)
        have hx : ((s[k].toNat : Int) == (c.toNat : Int)) = false := by rw [beq_eq_false_iff_ne]; omega
        have HN := Lib.hid (contains_take (show k < s.data.toList.length from hlt) hn (by rw [gd_eq s k hlt]; exact he))
        clear hn he
        go_wp2_with fail
        go_round
        case rel => exact ⟨k + 1, by omega, by go_num, HN.out⟩
        case measure => simp [intOf]; omega
    · rw [List.take_of_length_le (show s.data.toList.length ≤ k by omega)] at hn
      have HR : Hid (B = false) := Lib.hid (by rw [← HB.out, hn])
      clear hn
      go_wp2_with fail
      go_ret
      exact ⟨by rw [HR.out]; rfl, rfl⟩

/-- A row of texts, read. -/
def CutP (w : World) (xs : List ByteArray) (e : Ending) (w' : World) : Prop := ∃ A cap, e = .returned (.slice A xs.length cap) ∧ Rd1 Value.string w' A xs ∧ Upd w w' Nope
theorem piece_ext (s : ByteArray) (f k : Nat) : s.extract f k = bs ((s.data.toList.drop f).take (k - f)) := bytes_eq (by rw [ext_list]; rfl)
theorem drop_piece {l : List UInt8} {f k : Nat} (hf : f ≤ k) : l.drop f = (l.drop f).take (k - f) ++ l.drop k := by
  conv => lhs; rw [← List.take_append_drop (k - f) (l.drop f)]
  rw [List.drop_drop]
  congr 2
  omega
theorem take_next {l : List UInt8} {f k : Nat} (hf : f ≤ k) (h : k < l.length) : (l.drop f).take (k + 1 - f) = (l.drop f).take (k - f) ++ [l.getD k 0] := by
  have e : k + 1 - f = (k - f) + 1 := by omega
  have hl : k - f < (l.drop f).length := by rw [List.length_drop]; omega
  rw [e, take_snoc _ _ hl]
  congr 2
  rw [List.getD, List.getElem?_drop, List.getD]
  congr 2
  omega
def bsm (o : List (List UInt8)) : List ByteArray := o.map bs
theorem bsm_pcs (s : ByteArray) : bsm (spl s.data.toList) = pcs s := rfl
theorem own_row {w : World} {B n : Nat} {v : Value} {xs : List ByteArray} (h : w.ownsRow B 9 1 v n (xs.map Value.string)) (hu : Upd w w Nope) : ∃ A cap, v = .slice A xs.length cap ∧ Rd1 Value.string w A xs := by
  obtain ⟨A, cap, e, hn, hr, _⟩ := rd1_of_owns h
  exact ⟨A, cap, by rw [e, hn], hr⟩
set_option maxRecDepth 100000 in
set_option maxHeartbeats 8000000 in
theorem cut_any (s : ByteArray) (hs : s.size ≤ 5000) (w : World) : Calls Tryd.prog 37 #[.string s] w (CutP w (pcs s)) := by
  have hlen : s.data.toList.length = s.size := rfl
  go_enter Tryd.func37, Tryd.ntmps37
  go_wp2_with fail
  go_loopw [3, 4, 5] (fun ov fv iv wr => ∃ (k f : Nat) (o : List (List UInt8)), k ≤ s.size + 1 ∧ f ≤ k ∧ iv = .int .i64 k ∧ fv = .int .i64 f ∧ wr.ownsRow w.heap.size 9 1 ov o.length ((bsm o).map Value.string) ∧ o.length ≤ k ∧ (k ≤ s.size → o ++ spl (s.data.toList.drop f) = spl s.data.toList ∧ ∀ b ∈ (s.data.toList.drop f).take (k - f), b ≠ 46) ∧ (s.size < k → o = spl s.data.toList) ∧ Upd w wr Nope) (fun ov fv iv wr => s.size + 1 - (intOf iv).toNat)
  case atStart => exact ⟨0, 0, [], by omega, Nat.le_refl _, rfl, rfl, World.ownsRow_nil _ _ _ _, by simp, fun _ => ⟨by simp, by simp⟩, fun h => by omega, Upd.refl _ _⟩
  case round =>
    obtain ⟨k, f, o, hk, hf, rfl, rfl, hown, hol, h1, h2, hu⟩ := hrel
    have hul := hu.size
    by_cases hlt : k < s.size
    · obtain ⟨h1, h3⟩ := h1 (by omega)
      clear h2
      by_cases he : s[k] = 46
      · have hx : ((s[k].toNat : Int) == 46) = true := by rw [he]; decide
        obtain ⟨P, hP⟩ : ∃ P, s.extract f k = P := ⟨_, rfl⟩
        obtain ⟨v', w2, hap, hown2, hu2, _⟩ := app1 hown P hul (by omega)
        have hltv := hown.lt
        have hu3 : Upd w w2 Nope := hu.trans hu2 (fun _ _ h => h) (fun i hi e => by have := (hltv i e).1; omega)
        have hPe : bsm (o ++ [(s.data.toList.drop f).take (k - f)]) = bsm o ++ [P] := by
          rw [← hP, piece_ext]; simp [bsm]
        have hsp : (o ++ [(s.data.toList.drop f).take (k - f)]) ++ spl (s.data.toList.drop (k + 1)) = spl s.data.toList := by
          rw [← h1, List.append_assoc]
          congr 1
          have hd := drop_piece (l := s.data.toList) hf
          rw [drop_cons (show k < s.data.toList.length from hlt), gd_eq s k hlt, he] at hd
          have e2 := spl_at (c := s.data.toList.drop (k + 1)) h3
          rw [← hd] at e2
          rw [e2]
          rfl
        rw [← hPe] at hown2
        have hol2 : (o ++ [(s.data.toList.drop f).take (k - f)]).length = o.length + 1 := by simp
        have HOWN : Hid (w2.ownsRow w.heap.size 9 1 v' (o ++ [(s.data.toList.drop f).take (k - f)]).length ((bsm (o ++ [(s.data.toList.drop f).take (k - f)])).map Value.string)) := Lib.hid (by rw [hol2]; exact hown2)
        have HSP := Lib.hid hsp
        have HP := Lib.hid hP
        have hfk : (f : Int) ≤ (k : Int) := by omega
        clear hown2 hsp hPe h1 h3 he hltv hown hol2
        go_wp2_with (at_builtin; refine wpList_append_eq _ _ rfl rfl hap rfl rfl rfl ?_)
        go_roundw
        case rel => exact ⟨k + 1, k + 1, o ++ [(s.data.toList.drop f).take (k - f)], by omega, Nat.le_refl _, by go_num, by go_num, HOWN.out, by simp; omega, fun _ => ⟨HSP.out, by simp⟩, fun h => by omega, hu3⟩
        case measure => simp [intOf]; omega
      · have hx : ((s[k].toNat : Int) == 46) = false := by
          rw [beq_eq_false_iff_ne]; exact fun h => he (u8_of (n := 46) (by decide) h)
        have H3 : Hid (∀ b ∈ (s.data.toList.drop f).take (k + 1 - f), b ≠ 46) := Lib.hid (by
          rw [take_next hf (show k < s.data.toList.length from hlt), gd_eq s k hlt]
          intro b hb
          rcases List.mem_append.1 hb with hb | hb
          · exact h3 b hb
          · rw [List.mem_singleton.1 hb]; exact he)
        have H1 := Lib.hid h1
        clear h1 h3 he
        go_wp2_with fail
        go_roundw
        case rel => exact ⟨k + 1, f, o, by omega, by omega, by go_num, rfl, hown, by omega, fun _ => ⟨H1.out, H3.out⟩, fun h => by omega, hu⟩
        case measure => simp [intOf]; omega
    · by_cases hle : k ≤ s.size
      · obtain rfl : k = s.size := by omega
        obtain ⟨h1, h3⟩ := h1 (Nat.le_refl _)
        clear h2
        obtain ⟨P, hP⟩ : ∃ P, s.extract f s.size = P := ⟨_, rfl⟩
        obtain ⟨v', w2, hap, hown2, hu2, _⟩ := app1 hown P hul (by omega)
        have hltv := hown.lt
        have hu3 : Upd w w2 Nope := hu.trans hu2 (fun _ _ h => h) (fun i hi e => by have := (hltv i e).1; omega)
        have hpc : (s.data.toList.drop f).take (s.size - f) = s.data.toList.drop f := List.take_of_length_le (by rw [List.length_drop]; omega)
        rw [hpc] at h3
        have hPe : bsm (o ++ [s.data.toList.drop f]) = bsm o ++ [P] := by
          rw [← hP, ext_drop]; simp [bsm, bs]
        have hsp : o ++ [s.data.toList.drop f] = spl s.data.toList := by rw [← h1, spl_none h3]
        rw [← hPe] at hown2
        have HOWN : Hid (w2.ownsRow w.heap.size 9 1 v' (o ++ [s.data.toList.drop f]).length ((bsm (o ++ [s.data.toList.drop f])).map Value.string)) := Lib.hid (by rw [List.length_append]; exact hown2)
        have HSP := Lib.hid hsp
        have hfk : (f : Int) ≤ (s.size : Int) := by omega
        clear hown2 hsp hPe h1 h3 hltv hown hpc
        go_wp2_with (at_builtin; refine wpList_append_eq _ _ rfl rfl hap rfl rfl rfl ?_)
        go_roundw
        case rel => exact ⟨s.size + 1, s.size + 1, o ++ [s.data.toList.drop f], Nat.le_refl _, Nat.le_refl _, by go_num, by go_num, HOWN.out, by simp; omega, fun h => by omega, fun _ => HSP.out, hu3⟩
        case measure => simp [intOf]
      · obtain rfl : k = s.size + 1 := by omega
        have ho := h2 (by omega)
        clear h1 h2
        obtain ⟨A, cap, hv, hrd⟩ := own_row hown (Upd.refl _ _)
        subst ho
        rw [bsm_pcs] at hv hrd
        subst hv
        clear hown
        go_wp2_with fail
        go_ret
        exact ⟨A, cap, rfl, hrd, hu⟩

theorem atB_ref (c : UInt8) : atB c = (letP c || [33, 35, 36, 37, 38, 39, 42, 43, 45, 47, 61, 63, 94, 95, 124, 126, 123, 125].contains c || c == 96) := by
  have := u8_all (fun c => atB c == (letP c || [33, 35, 36, 37, 38, 39, 42, 43, 45, 47, 61, 63, 94, 95, 124, 126, 123, 125].contains c || c == 96)) (by decide +kernel) c
  simpa using this
theorem all_take {α : Type} {p : α → Bool} {l : List α} {k : Nat} (h : k < l.length) (ha : (l.take k).all p = true) (hp : p l[k] = true) : (l.take (k + 1)).all p = true := by
  rw [List.take_succ_eq_append_getElem h, List.all_append, ha]
  simp [hp]
theorem all_no {α : Type} {p : α → Bool} {l : List α} {k : Nat} (h : k < l.length) (hp : p l[k] = false) : l.all p = false := by
  rw [List.all_eq_false]
  exact ⟨l[k], List.getElem_mem _, by simp [hp]⟩
theorem goodA_no {x : ByteArray} {j : Nat} (h : j < x.size) (hp : atB x[j] = false) : goodA x = false := by
  unfold goodA
  have : x.data.toList.all atB = false := by
    rw [List.all_eq_false]
    refine ⟨x[j], ?_, by simp [hp]⟩
    rw [← gd_eq x j h, List.getD, List.getElem?_eq_getElem (show j < x.data.toList.length from h)]
    exact List.getElem_mem _
  rw [this, Bool.and_false]
theorem get_data (x : ByteArray) (j : Nat) (h : j < x.size) : x.data.toList[j]'h = x[j] := rfl
theorem spl_count (l : List UInt8) : (spl l).length ≤ l.length + 1 := by
  induction l with
  | nil => simp [spl]
  | cons b r ih =>
    by_cases hb : b = 46
    · subst hb; rw [spl_dot]; simp only [List.length_cons]; omega
    · rw [spl_cons hb]
      cases h : spl r with
      | nil => simp [hd1]
      | cons p ps => rw [h] at ih; simp only [hd1, List.length_cons] at *; omega
theorem pcs_count (s : ByteArray) (hs : s.size ≤ 5000) : (pcs s).length ≤ 5001 := by
  have := spl_count s.data.toList
  unfold pcs
  rw [List.length_map]
  rw [data_len] at this
  omega
theorem pcs_len (s : ByteArray) (hs : s.size ≤ 5000) {x : ByteArray} (hx : x ∈ pcs s) : x.size ≤ 5000 := by
  obtain ⟨p, hp, rfl⟩ := List.mem_map.1 hx
  have := spl_len hp
  show p.length ≤ 5000
  rw [data_len] at this
  omega
set_option maxRecDepth 100000 in
set_option maxHeartbeats 8000000 in
theorem ratoms_any (s : ByteArray) (hs : s.size ≤ 5000) (w : World) : Calls Tryd.prog 19 #[.string s] w fun e w' => e = .returned (.bool (atomsL s.data.toList)) ∧ Upd w w' Nope := by
  have hcut := fun W => cut_any s hs W
  have hxs := fun (x : ByteArray) => pcs_len s hs (x := x)
  have hcnt := pcs_count s hs
  obtain ⟨R, hR⟩ : ∃ R, atomsL s.data.toList = R := ⟨_, rfl⟩
  rw [hR]
  rw [← atomsB_eq] at hR
  unfold atomsB at hR
  generalize pcs s = xs at hcut hR hxs hcnt
  have HC := Lib.hid hcut
  have HR := Lib.hid hR
  have HX := Lib.hid hxs
  clear hcut hR hxs
  go_enter Tryd.func19, Tryd.ntmps19
  go_wp2_with fail
  refine (HC.out _).mono ?_
  rintro e w2 ⟨A, cap, rfl, hrd, hu⟩
  go_wp2_with fail
  go_loopw [4] (fun iv wr => ∃ (i : Nat), i ≤ xs.length ∧ iv = .int .i64 i ∧ (xs.take i).all goodA = true ∧ Rd1 Value.string wr A xs ∧ Upd w wr Nope) (fun iv wr => xs.length - (intOf iv).toNat)
  case atStart => exact ⟨0, Nat.zero_le _, rfl, by simp, hrd, hu⟩
  case round =>
    clear hrd hu
    obtain ⟨i, hi, rfl, hall, hrd, hu⟩ := hrel
    by_cases hlt : i < xs.length
    · obtain ⟨ad, rfl, hcell⟩ := hrd i hlt
      have hxz := HX.out xs[i] (List.getElem_mem _)
      have HNO := Lib.hid (fun (h : goodA xs[i] = false) => (HR.out).symm.trans (all_no hlt h))
      have HYES := Lib.hid (fun (h : goodA xs[i] = true) => all_take hlt hall h)
      generalize xs[i] = x at hcell hxz HNO HYES
      have hbf := hu
      by_cases hx0 : x.toList = []
      · have hx1 : x.toList.isEmpty = true := by rw [hx0]; rfl
        have HRn : Hid (R = false) := Lib.hid (HNO.out (by unfold goodA; rw [← toList_empty, hx1]; rfl))
        clear hall
        go_wp2_with fail
        go_ret
        exact ⟨by rw [HRn.out]; rfl, hu⟩
      · have hx1 : x.toList.isEmpty = false := by simpa using hx0
        have hxp : ¬ x.size = 0 := fun h => by
          have := toList_empty x
          rw [hx1, h] at this
          cases this
        go_wp2_with fail
        go_loop [5] (fun jv => ∃ j : Nat, j ≤ x.size ∧ jv = .int .i64 j ∧ (x.data.toList.take j).all atB = true) (fun jv => x.size - (intOf jv).toNat)
        case atStart => exact ⟨0, Nat.zero_le _, rfl, by simp⟩
        case round =>
          obtain ⟨j, hj, rfl, hja⟩ := hrel
          by_cases hjl : j < x.size
          · have HAT := Lib.hid (fun (h : atB x[j] = true) => all_take (show j < x.data.toList.length from hjl) hja (by rw [get_data x j hjl]; exact h))
            have HNA := Lib.hid (fun (h : atB x[j] = false) => HNO.out (goodA_no hjl h))
            have har := atB_ref x[j]
            have HL := Lib.hid (fun W => rletter_any x[j] W)
            have HH := Lib.hid (fun W => has_any ⟨#[33, 35, 36, 37, 38, 39, 42, 43, 45, 47, 61, 63, 94, 95, 124, 126, 123, 125]⟩ (by decide) x[j] W)
            change Hid (∀ W, Calls Tryd.prog 39 _ W fun e w' => e = .returned (.bool ([33, 35, 36, 37, 38, 39, 42, 43, 45, 47, 61, 63, 94, 95, 124, 126, 123, 125].contains x[j])) ∧ w' = W) at HH
            generalize letP x[j] = L at har HL
            generalize [33, 35, 36, 37, 38, 39, 42, 43, 45, 47, 61, 63, 94, 95, 124, 126, 123, 125].contains x[j] = H at har HH
            have HAR := Lib.hid har
            clear har hja hall
            cases L with
            | true =>
              have HA2 := Lib.hid (HAT.out (by rw [HAR.out]; rfl))
              go_wp2_with fail
              refine (HL.out _).mono ?_
              rintro e wQ ⟨rfl, hwQ⟩
              obtain rfl := hwQ
              go_wp2_with fail
              go_round
              case rel => exact ⟨j + 1, by omega, by go_num, HA2.out⟩
              case measure => simp [intOf]; omega
            | false =>
              cases H with
              | true =>
                have HA2 := Lib.hid (HAT.out (by rw [HAR.out]; rfl))
                go_wp2_with fail
                refine (HL.out _).mono ?_
                rintro e wQ ⟨rfl, hwQ⟩
                obtain rfl := hwQ
                go_wp2_with fail
                refine (HH.out _).mono ?_
                rintro e wQ ⟨rfl, hwQ⟩
                obtain rfl := hwQ
                go_wp2_with fail
                go_round
                case rel => exact ⟨j + 1, by omega, by go_num, HA2.out⟩
                case measure => simp [intOf]; omega
              | false =>
                by_cases h96 : x[j] = 96
                · have HA2 := Lib.hid (HAT.out (by rw [HAR.out, h96]; rfl))
                  have hx2 : ((x[j].toNat : Int) != 96) = false := by rw [h96]; decide
                  clear h96
                  go_wp2_with fail
                  refine (HL.out _).mono ?_
                  rintro e wQ ⟨rfl, hwQ⟩
                  obtain rfl := hwQ
                  go_wp2_with fail
                  refine (HH.out _).mono ?_
                  rintro e wQ ⟨rfl, hwQ⟩
                  obtain rfl := hwQ
                  go_wp2_with fail
                  go_round
                  case rel => exact ⟨j + 1, by omega, by go_num, HA2.out⟩
                  case measure => simp [intOf]; omega
                · have h96' : (x[j] == 96) = false := by simpa using h96
                  have HRn := Lib.hid (HNA.out (by rw [HAR.out, h96']; rfl))
                  have hx2 : ((x[j].toNat : Int) != 96) = true := by
                    rw [bne_iff_ne]; exact fun h => h96 (u8_of (n := 96) (by decide) h)
                  clear h96 h96'
                  go_wp2_with fail
                  refine (HL.out _).mono ?_
                  rintro e wQ ⟨rfl, hwQ⟩
                  obtain rfl := hwQ
                  go_wp2_with fail
                  refine (HH.out _).mono ?_
                  rintro e wQ ⟨rfl, hwQ⟩
                  obtain rfl := hwQ
                  go_wp2_with fail
                  go_ret
                  exact ⟨by rw [HRn.out]; rfl, hu⟩
          · obtain rfl : j = x.size := by omega
            rw [List.take_of_length_le (show x.data.toList.length ≤ x.size from Nat.le_refl _)] at hja
            have HG := Lib.hid (HYES.out (by unfold goodA; rw [hja]; simp [hxp]))
            clear hja hall
            go_wp2_with fail
            go_roundw
            case rel => exact ⟨i + 1, by omega, by go_num, HG.out, hrd, hu⟩
            case measure => simp [intOf]; omega
    · obtain rfl : i = xs.length := by omega
      rw [List.take_of_length_le (Nat.le_refl _)] at hall
      have HRn : Hid (R = true) := Lib.hid (by rw [← HR.out, hall])
      clear hall
      go_wp2_with fail
      go_ret
      exact ⟨by rw [HRn.out]; rfl, hu⟩
end Go.Proofs.YthfmjiafdfoajaaDoor
