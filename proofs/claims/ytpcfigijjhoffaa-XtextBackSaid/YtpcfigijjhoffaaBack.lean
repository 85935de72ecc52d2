/- XtextBack: its walk. -/
import Derived.Test.YtpcfigijjhoffaaJoins
set_option linter.unusedVariables false
set_option linter.unusedSimpArgs false
namespace Go.Proofs.Ytpcfigijjhoffaa
open Go.RowKit

def okN (n : Nat) : Bool := decide (33 ≤ n) && decide (n ≤ 126) && decide (n ≠ 61)
theorem ok_digs : ∀ n, n < 16 → okN (UInt8.ofNat (digN n)).toNat = true := by decide +kernel
theorem ok_encB (b : UInt8) : ∀ c ∈ encB b, okN c.toNat = true := by
  intro c hc
  unfold encB at hc
  split at hc
  · rename_i h
    simp at hc
    subst hc
    unfold plainB plainN at h
    unfold okN
    simp at h ⊢
    omega
  · have hb := b.toNat_lt
    simp at hc
    rcases hc with rfl | rfl | rfl
    · decide
    · exact ok_digs _ (by omega)
    · exact ok_digs _ (by omega)
theorem ok_enc (l : List UInt8) : ∀ c ∈ encL l, okN c.toNat = true := by
  intro c hc
  obtain ⟨b, _, h⟩ := List.mem_flatMap.1 hc
  exact ok_encB b c h
theorem enc_inj {a b : List UInt8} (h : encL a = encL b) : a = b := by
  have h1 := decL_enc' a
  rw [h, decL_enc'] at h1
  injection h1 with h1
  exact h1.symm
theorem index_str {P : Program} {T : TypeId} (hT : P.underlying T = some .string) (s : ByteArray) (i : Int) (a : Nat) (hi : i = a) (h : a < s.size) (W : World) :
    (Instr.index T (.string s) (.int .i64 i)).run P W = .ok (.int .u8 (s.data.toList.getD a 0).toNat) W := by
  subst hi
  rw [run_index_string (P := P) (w := W) T s .i64 a hT, dif_pos (by omega)]
  have h' : a < s.data.size := h
  simp [List.getD]
  rw [Array.getElem?_eq_getElem h']
  rfl

set_option maxHeartbeats 4000000 in
set_option maxRecDepth 100000 in
theorem back_walk (w : World) (a : ByteArray) (ha : a.size ≤ 140737488351232) (b : ByteArray) (hb : b.size ≤ 140737488351232) :
    Calls Try.prog 4 #[.string a, .string b] w fun e w' => e = .returned (.bool true) ∧ Below w.heap.size w w' := by
  by_cases c1 : 5000 < a.size ∨ 5000 < b.size
  · rcases (show 5000 < a.size ∨ (a.size ≤ 5000 ∧ 5000 < b.size) by omega) with h | ⟨h, h'⟩
    all_goals
      go_enter Try.func4, Try.ntmps4
      go_wp2_with fail
      refine (awake_any w).mono ?_
      rintro e w1 ⟨rfl, hu1⟩
      go_wp2
      go_ret
      exact ⟨rfl, hu1.below (fun _ h => h.elim)⟩
  · have k1 : a.size ≤ 5000 := by omega
    have k2 : b.size ≤ 5000 := by omega
    have h1 := fun w => encode_any a w (by omega)
    have h2 := fun w => encode_any b w (by omega)
    have l1 := encL_len a.data.toList
    have l2 := encL_len b.data.toList
    rw [data_len] at l1 l2
    have z1 := ba_len (encL a.data.toList)
    have z2 := ba_len (encL b.data.toList)
    have hE : (⟨(encL a.data.toList).toArray⟩ : ByteArray).data.toList = encL a.data.toList := by simp
    have hF : (⟨(encL b.data.toList).toArray⟩ : ByteArray).data.toList = encL b.data.toList := by simp
    have hA : (⟨a.data.toList.toArray⟩ : ByteArray) = a := by simp
    have h3 := fun w => decode_any ⟨(encL a.data.toList).toArray⟩ w (by omega)
    have h4 := fun w => canon_any ⟨(encL a.data.toList).toArray⟩ w (by omega)
    have hd : decL (⟨(encL a.data.toList).toArray⟩ : ByteArray).data.toList = some a.data.toList := by rw [hE]; exact decL_enc' _
    rw [decRet_some hd, hA] at h3
    rw [canonRet_some hd] at h4
    have h5 := fun w => count_any a w (by omega)
    have hcn : cnt a.data.toList = (⟨(encL a.data.toList).toArray⟩ : ByteArray).size := by unfold cnt; rw [z1]
    rw [hcn] at h5
    have hok : ∀ c ∈ (⟨(encL a.data.toList).toArray⟩ : ByteArray).data.toList, okN c.toNat = true := by rw [hE]; exact ok_enc _
    have hin : ((⟨(encL a.data.toList).toArray⟩ : ByteArray).toList == (⟨(encL b.data.toList).toArray⟩ : ByteArray).toList) = (a.toList == b.toList) := by
      rw [ByteArray.toList_eq, ByteArray.toList_eq, ByteArray.toList_eq, ByteArray.toList_eq, hE, hF]
      by_cases h : a.data.toList = b.data.toList
      · simp [h]
      · have h' : encL a.data.toList ≠ encL b.data.toList := fun e => h (enc_inj e)
        rw [beq_false_of_ne h, beq_false_of_ne h']
    generalize (⟨(encL a.data.toList).toArray⟩ : ByteArray) = x at h1 h3 h4 h5 z1 hok hin
    generalize (⟨(encL b.data.toList).toArray⟩ : ByteArray) = y at h2 z2 hin
    generalize hq : (a.toList == b.toList) = bq at hin
    have e1 : x.size ≤ 15000 := by omega
    have e2 : a.size ≤ x.size := by omega
    have e3 : x.size ≤ 3 * a.size := by omega
    clear c1 l1 l2 z1 z2 hE hF hA hd hcn
    have H1 := Lib.hid h1
    have H2 := Lib.hid h2
    have H3 := Lib.hid h3
    have H4 := Lib.hid h4
    have H5 := Lib.hid h5
    have HOK := Lib.hid hok
    clear h1 h2 h3 h4 h5 hok
    have t1 : decide ((5000 : Int) < a.size) = false := by simp; omega
    have t2 : decide ((5000 : Int) < b.size) = false := by simp; omega
    go_enter Try.func4, Try.ntmps4
    go_wp2_with fail
    refine (awake_any w).mono ?_
    rintro e w1 ⟨rfl, u1⟩
    go_wp2_with fail
    refine (H1.out _).mono ?_
    rintro e w2 ⟨rfl, u2⟩
    go_wp2_with fail
    refine (H2.out _).mono ?_
    rintro e w3 ⟨rfl, u3⟩
    go_wp2_with fail
    refine (H3.out _).mono ?_
    rintro e w4 ⟨rfl, u4⟩
    go_wp2_with fail
    refine (H4.out _).mono ?_
    rintro e w5 ⟨rfl, u5⟩
    have U5 := (((u1.nn u2).nn u3).nn u4).nn u5
    clear u1 u2 u3 u4 u5 H1 H2 H3 H4
    cases bq
    all_goals
      go_wp2_with fail
      go_loopw [11] (fun i wr => ∃ k : Nat, k ≤ x.size ∧ i = .int .i64 k ∧ wr = w5) (fun i _ => x.size - (intOf i).toNat)
      case atStart => exact ⟨0, Nat.zero_le _, rfl, rfl⟩
      case round =>
        obtain ⟨k, hk, rfl, hwr⟩ := hrel
        obtain rfl : wr = w5 := hwr
        by_cases hlt : k < x.size
        · have hix := index_str (P := Try.prog) Try.underlying9 x (k : Int) k rfl hlt
          have hc := HOK.out (x.data.toList.getD k 0) (by
            have h' : k < x.data.toList.length := by rw [data_len]; exact hlt
            simp only [List.getD]
            rw [List.getElem?_eq_getElem h']
            exact List.getElem_mem h')
          have hcl := (x.data.toList.getD k 0).toNat_lt
          generalize (x.data.toList.getD k 0).toNat = c at hix hc hcl
          unfold okN at hc
          simp only [Bool.and_eq_true, decide_eq_true_eq] at hc
          obtain ⟨⟨o1, o2⟩, o3⟩ := hc
          have b1 : decide ((c : Int) < 33) = false := by simp; omega
          have b2 : decide ((126 : Int) < c) = false := by simp; omega
          have b3 : ((c : Int) == 61) = false := beq_false_of_ne (by omega)
          clear o1 o2 o3
          go_wp2
          go_roundw
          case rel => exact ⟨k + 1, by omega, by go_num, trivial⟩
          case measure => simp [intOf]; omega
        · obtain rfl : k = x.size := by omega
          go_wp2_with fail
          refine (H5.out _).mono ?_
          rintro e w6 ⟨rfl, u6⟩
          go_wp2_with fail
          go_ret
          exact ⟨ret_eq (by first | rfl | (simp; omega)), (U5.nn u6).below (fun _ h => h.elim)⟩
end Go.Proofs.Ytpcfigijjhoffaa
