/- XtextTells: its walk. -/
import Derived.Test.YtpcfigijjhoffaaRfd
import Derived.Test.YtpcfigijjhoffaaJoins
set_option linter.unusedVariables false
set_option linter.unusedSimpArgs false
namespace Go.Proofs.Ytpcfigijjhoffaa
open Go.RowKit

set_option maxHeartbeats 4000000 in
set_option maxRecDepth 100000 in
theorem tells_walk (w : World) (a : ByteArray) (ha : a.size ≤ 140737488351232) (b : ByteArray) (hb : b.size ≤ 140737488351232) :
    Calls Try.prog 3 #[.string a, .string b] w fun e w' => e = .returned (.bool true) ∧ Below w.heap.size w w' := by
  by_cases c1 : 5000 < a.size ∨ 5000 < b.size
  · rcases (show 5000 < a.size ∨ (a.size ≤ 5000 ∧ 5000 < b.size) by omega) with h | ⟨h, h'⟩
    all_goals
      go_enter Try.func3, Try.ntmps3
      go_wp2_with fail
      refine (awake_any w).mono ?_
      rintro e w1 ⟨rfl, hu1⟩
      go_wp2
      go_ret
      exact ⟨rfl, hu1.below (fun _ h => h.elim)⟩
  · have k1 : a.size ≤ 5000 := by omega
    have k2 : b.size ≤ 5000 := by omega
    have h1 := fun w => encode_any a w (by omega)
    have h2 := fun w => refenc_any a w (by omega)
    have h3 := fun w => count_any a w (by omega)
    have h4 := fun w => decode_any b w (by omega)
    have h5 := fun w => refdec_any b w (by omega)
    have h6 := fun w => canon_any b w (by omega)
    have z1 := ba_len (encL a.data.toList)
    have hcn : cnt a.data.toList = (⟨(encL a.data.toList).toArray⟩ : ByteArray).size := by unfold cnt; rw [z1]
    rw [hcn] at h3
    have l1 := encL_len a.data.toList
    rw [data_len] at l1
    generalize (⟨(encL a.data.toList).toArray⟩ : ByteArray) = x at h1 h2 h3 z1
    have e1 : x.size ≤ 15000 := by omega
    clear c1 hcn l1 z1
    have H1 := Lib.hid h1
    have H2 := Lib.hid h2
    have H3 := Lib.hid h3
    clear h1 h2 h3
    rcases Option.eq_none_or_eq_some (decL b.data.toList) with hd | ⟨o, hd⟩
    · rw [decRet_none hd] at h4 h5
      rw [canonRet_none hd] at h6
      have H4 := Lib.hid h4
      have H5 := Lib.hid h5
      have H6 := Lib.hid h6
      clear h4 h5 h6 hd
      go_enter Try.func3, Try.ntmps3
      go_wp2_with fail
      refine (awake_any w).mono ?_
      rintro e w1 ⟨rfl, u1⟩
      go_wp2_with fail
      refine (H4.out _).mono ?_
      rintro e w2 ⟨rfl, u2⟩
      go_wp2_with fail
      refine (H5.out _).mono ?_
      rintro e w3 ⟨rfl, u3⟩
      go_wp2_with fail
      refine (H6.out _).mono ?_
      rintro e w4 ⟨rfl, u4⟩
      go_wp2_with fail
      refine (H1.out _).mono ?_
      rintro e w5 ⟨rfl, u5⟩
      go_wp2_with fail
      refine (H2.out _).mono ?_
      rintro e w6 ⟨rfl, u6⟩
      go_wp2_with fail
      refine (H3.out _).mono ?_
      rintro e w7 ⟨rfl, u7⟩
      go_wp2_with fail
      refine (H2.out _).mono ?_
      rintro e w8 ⟨rfl, u8⟩
      go_wp2_with fail
      go_ret
      exact ⟨ret_eq (by first | rfl | simp), (((((((u1.nn u2).nn u3).nn u4).nn u5).nn u6).nn u7).nn u8).below (fun _ h => h.elim)⟩
    · have lo := decL_len _ _ o rfl hd
      rw [data_len] at lo
      rw [decRet_some hd] at h4 h5
      rw [canonRet_some hd] at h6
      have zo := ba_len o
      have h7 := fun w => refenc_any (⟨o.toArray⟩ : ByteArray) w (by omega)
      have ho : (⟨o.toArray⟩ : ByteArray).data.toList = o := by simp
      rw [ho] at h7
      generalize (⟨o.toArray⟩ : ByteArray) = so at h4 h5 h7 zo
      generalize (⟨(encL o).toArray⟩ : ByteArray) = y at h6 h7
      have e2 : so.size ≤ 5000 := by omega
      have H4 := Lib.hid h4
      have H5 := Lib.hid h5
      have H6 := Lib.hid h6
      have H7 := Lib.hid h7
      clear h4 h5 h6 h7 hd zo lo ho
      go_enter Try.func3, Try.ntmps3
      go_wp2_with fail
      refine (awake_any w).mono ?_
      rintro e w1 ⟨rfl, u1⟩
      go_wp2_with fail
      refine (H4.out _).mono ?_
      rintro e w2 ⟨rfl, u2⟩
      go_wp2_with fail
      refine (H5.out _).mono ?_
      rintro e w3 ⟨rfl, u3⟩
      go_wp2_with fail
      refine (H6.out _).mono ?_
      rintro e w4 ⟨rfl, u4⟩
      go_wp2_with fail
      refine (H7.out _).mono ?_
      rintro e w4' ⟨rfl, u4'⟩
      go_wp2_with fail
      refine (H1.out _).mono ?_
      rintro e w5 ⟨rfl, u5⟩
      go_wp2_with fail
      refine (H2.out _).mono ?_
      rintro e w6 ⟨rfl, u6⟩
      go_wp2_with fail
      refine (H3.out _).mono ?_
      rintro e w7 ⟨rfl, u7⟩
      go_wp2_with fail
      refine (H2.out _).mono ?_
      rintro e w8 ⟨rfl, u8⟩
      go_wp2_with fail
      go_ret
      exact ⟨ret_eq (by first | rfl | simp), ((((((((u1.nn u2).nn u3).nn u4).nn u4').nn u5).nn u6).nn u7).nn u8).below (fun _ h => h.elim)⟩
end Go.Proofs.Ytpcfigijjhoffaa
