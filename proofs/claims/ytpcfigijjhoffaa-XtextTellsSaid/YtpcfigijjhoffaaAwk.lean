/- The contracts of Canon and of awake. -/
import Derived.Test.YtpcfigijjhoffaaDec2
set_option linter.unusedVariables false
set_option linter.unusedSimpArgs false
namespace Go.Proofs.Ytpcfigijjhoffaa
open Go.RowKit

def canonRet (l : List UInt8) : Value := match decL l with
  | some o => .tuple #[.string ⟨(encL o).toArray⟩, .int .i64 0]
  | none => .tuple #[.string ⟨#[]⟩, .int .i64 2]
theorem decRet_some {l o : List UInt8} (h : decL l = some o) : decRet l = .tuple #[.string ⟨o.toArray⟩, .int .i64 0] := by unfold decRet; rw [h]
theorem decRet_none {l : List UInt8} (h : decL l = none) : decRet l = .tuple #[.string ⟨#[]⟩, .int .i64 2] := by unfold decRet; rw [h]
theorem canonRet_some {l o : List UInt8} (h : decL l = some o) : canonRet l = .tuple #[.string ⟨(encL o).toArray⟩, .int .i64 0] := by unfold canonRet; rw [h]
theorem canonRet_none {l : List UInt8} (h : decL l = none) : canonRet l = .tuple #[.string ⟨#[]⟩, .int .i64 2] := by unfold canonRet; rw [h]

theorem canon_any (s : ByteArray) (w : World) (hs : s.size ≤ 1000000) : Calls Try.prog 10 #[.string s] w fun e w' => e = .returned (canonRet s.data.toList) ∧ Upd w w' Nope := by
  cases hd : decL s.data.toList with
  | none =>
    have hc := decode_any s w hs
    rw [decRet_none hd] at hc
    rw [canonRet_none hd]
    have HC := Lib.hid hc
    clear hd hc
    go_enter Try.func10, Try.ntmps10
    go_wp2_with fail
    refine HC.out.mono ?_
    rintro e w1 ⟨rfl, hu⟩
    go_wp2
    go_ret2
    exact ⟨rfl, hu⟩
  | some o =>
    have hc := decode_any s w hs
    have hl := decL_len _ _ o rfl hd
    rw [data_len] at hl
    rw [decRet_some hd] at hc
    rw [canonRet_some hd]
    have HC := Lib.hid hc
    clear hd hc
    have hz : (⟨o.toArray⟩ : ByteArray).size = o.length := by show o.toArray.size = _; simp
    have hdt : (⟨o.toArray⟩ : ByteArray).data.toList = o := by simp
    generalize hb : (⟨o.toArray⟩ : ByteArray) = b at HC hz hdt
    rw [← hdt]
    clear hb hdt
    go_enter Try.func10, Try.ntmps10
    go_wp2_with fail
    refine HC.out.mono ?_
    rintro e w1 ⟨rfl, hu⟩
    go_wp2_with fail
    refine (encode_any b w1 (by omega)).mono ?_
    rintro e w2 ⟨rfl, hu2⟩
    go_wp2
    go_ret2
    exact ⟨rfl, hu.nn hu2⟩

theorem k_enc : encL [97, 32, 98] = [97, 43, 50, 48, 98] := by decide +kernel
theorem k_dec1 : decL [97, 43, 50, 48, 98] = some [97, 32, 98] := by rw [← k_enc]; exact decL_enc' _
theorem k_dec2 : decL [97, 32, 98] = none := by
  rw [decL_plain _ (by decide), decL_bad _ (by decide) (by decide)]; rfl
theorem k_dec3 : decL [43, 50] = none := decL_short _ (by decide)
theorem k_dec4 : decL [43, 54, 49] = some [97] := by
  rw [decL_plus]
  rfl
theorem k_enc2 : encL [97] = [97] := by decide +kernel
theorem k_cnt : cnt [97, 32, 98] = 5 := by unfold cnt; rw [k_enc]; rfl

set_option maxHeartbeats 2000000 in
theorem awake_any (w : World) : Calls Try.prog 7 #[] w fun e w' => e = .returned (.bool true) ∧ Upd w w' Nope := by
  have h1 := fun w => decode_any ⟨#[97, 43, 50, 48, 98]⟩ w (by decide)
  rw [decRet_some k_dec1] at h1
  have h2 := fun w => decode_any ⟨#[97, 32, 98]⟩ w (by decide)
  rw [decRet_none k_dec2] at h2
  have h3 := fun w => decode_any ⟨#[43, 50]⟩ w (by decide)
  rw [decRet_none k_dec3] at h3
  have h4 := fun w => canon_any ⟨#[43, 54, 49]⟩ w (by decide)
  rw [canonRet_some k_dec4, k_enc2] at h4
  have h5 := fun w => encode_any ⟨#[97, 32, 98]⟩ w (by decide)
  have e5 : encL (⟨#[97, 32, 98]⟩ : ByteArray).data.toList = [97, 43, 50, 48, 98] := k_enc
  rw [e5] at h5
  have h6 := fun w => count_any ⟨#[97, 32, 98]⟩ w (by decide)
  have e6 : cnt (⟨#[97, 32, 98]⟩ : ByteArray).data.toList = 5 := k_cnt
  rw [e6] at h6
  have H1 := Lib.hid h1
  have H2 := Lib.hid h2
  have H3 := Lib.hid h3
  have H4 := Lib.hid h4
  have H5 := Lib.hid h5
  have H6 := Lib.hid h6
  clear h1 h2 h3 h4 h5 h6 e5 e6
  go_enter Try.func7, Try.ntmps7
  go_wp2_with fail
  refine (H1.out _).mono ?_
  rintro e w1 ⟨rfl, u1⟩
  go_wp2_with fail
  refine (H2.out _).mono ?_
  rintro e w2 ⟨rfl, u2⟩
  go_wp2_with fail
  refine (H3.out _).mono ?_
  rintro e w3 ⟨rfl, u3⟩
  go_wp2_with fail
  refine (H4.out _).mono ?_
  rintro e w4 ⟨rfl, u4⟩
  go_wp2_with fail
  refine (H5.out _).mono ?_
  rintro e w5 ⟨rfl, u5⟩
  go_wp2_with fail
  refine (H6.out _).mono ?_
  rintro e w6 ⟨rfl, u6⟩
  go_wp2_with fail
  go_ret
  exact ⟨ret_eq (by rfl), ((((u1.nn u2).nn u3).nn u4).nn u5).nn u6⟩
end Go.Proofs.Ytpcfigijjhoffaa
