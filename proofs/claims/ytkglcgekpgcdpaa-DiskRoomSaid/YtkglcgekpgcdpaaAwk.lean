/- The law's 'awake', by the contracts on states that are written out. -/
import Derived.Test.YtkglcgekpgcdpaaApp
import Derived.Test.YtkglcgekpgcdpaaFin
import Derived.Test.YtkglcgekpgcdpaaLst
set_option linter.unusedVariables false
set_option linter.unusedSimpArgs false
namespace Go.Proofs.Ytkglcgekpgcdpaa
open Go.RowKit

theorem same_any (l : List ByteArray) {A B : Option Addr} {c c' : Nat} (w : World) (hA : Rd1 .string w A l) (hB : Rd1 .string w B l) (hl : l.length ≤ 1000000) :
    Calls Try.prog 24 #[.slice A l.length c, .slice B l.length c'] w fun e w' => e = .returned (.bool true) ∧ Drew w w' := by
  have HA := Lib.hid hA
  have HB := Lib.hid hB
  clear hA hB
  go_enter Try.func24, Try.ntmps24
  go_wp2_with fail
  go_loopw [5] (fun i wr => ∃ k : Nat, k ≤ l.length ∧ i = .int .i64 k ∧ Drew w wr) (fun i _ => l.length - (intOf i).toNat)
  case atStart => exact ⟨0, Nat.zero_le _, rfl, Drew.refl _⟩
  case round =>
    obtain ⟨k, hk, rfl, hdr⟩ := hrel
    by_cases hlt : k < l.length
    · obtain ⟨a1, rfl, hc1⟩ := HA.out k hlt
      obtain ⟨a2, rfl, hc2⟩ := HB.out k hlt
      rw [← hdr.cell] at hc1 hc2
      generalize l[k] = s at hc1 hc2
      go_upto_region 6 with fail
      go_big_region
      go_wp2_with fail
      go_roundw
      case rel => exact ⟨k + 1, by omega, by go_num, hdr.drew⟩
      case measure => simp [intOf]; omega
    · obtain rfl : k = l.length := by omega
      go_wp2
      go_ret
      exact ⟨rfl, hdr⟩

/-- All that is asked of a disk, as one test. -/
def fitB (d : Dk) : Bool := decide (0 ≤ d.ch) && decide (d.ch ≤ 1000000) && decide (-1000000 ≤ d.keep) && decide (d.keep ≤ 1000000) && decide (1 ≤ d.room) && decide (d.room ≤ 1048576) && decide (sumL d.L ≤ d.room) && decide (d.L.length ≤ 128) &&
  d.L.all fun p => decide (0 ≤ p.2.n) && decide (p.2.n ≤ p.2.s.size) && decide ((p.2.s.size : Int) ≤ 1000000)
theorem fit_of {d : Dk} (h : fitB d = true) : d.fit := by
  simp only [fitB, Bool.and_eq_true, decide_eq_true_eq, List.all_eq_true] at h
  obtain ⟨⟨⟨⟨⟨⟨⟨⟨a1, a2⟩, a3⟩, a4⟩, a5⟩, a6⟩, a7⟩, a8⟩, a9⟩ := h
  exact ⟨⟨a1, by omega, by omega, by omega, fun p hp => ⟨(a9 p hp).1.1, (a9 p hp).1.2, by have := (a9 p hp).2; omega⟩⟩, a5, a6, a7, a8⟩

def sa : ByteArray := ⟨#[97]⟩
def sb : ByteArray := ⟨#[98]⟩
def k0 : Dk := ⟨10, [], false, 0, 0, 0⟩
def k1 : Dk := ⟨10, [(sa, ⟨⟨#[120, 121]⟩, 0⟩)], false, 0, 0, 1⟩
def k2 : Dk := ⟨10, [(sa, ⟨⟨#[120, 121]⟩, 2⟩)], false, 0, 0, 2⟩
def k3 : Dk := ⟨10, [(sa, ⟨⟨#[120, 121, 122, 119]⟩, 2⟩)], false, 0, 0, 3⟩
def k4 : Dk := ⟨10, [(sa, ⟨⟨#[120, 121, 122]⟩, 3⟩)], true, 0, 0, 3⟩
def k5 : Dk := ⟨10, [(sa, ⟨⟨#[120, 121, 122]⟩, 3⟩)], false, 0, 0, 3⟩
def k6 : Dk := ⟨10, [(sb, ⟨⟨#[120, 121, 122]⟩, 3⟩)], false, 0, 0, 4⟩
def k7 : Dk := ⟨10, [(sb, ⟨⟨#[120, 121, 122]⟩, 3⟩)], false, 1, 9, 0⟩
def k8 : Dk := ⟨10, [(sb, ⟨⟨#[120, 121, 122, 49]⟩, 4⟩)], true, 0, 0, 1⟩
theorem x1 : appendR k0 sa ⟨#[120, 121]⟩ = (k1, 0) := by kernel_rfl
theorem x2 : syncR k1 sa = (k2, 0) := by kernel_rfl
theorem x3 : appendR k2 sa ⟨#[122, 119]⟩ = (k3, 0) := by kernel_rfl
theorem x4 : k3.crash 1 = k4 := by kernel_rfl
theorem x4w : wrap64 ((fileOf sa k3.L).s.size - (fileOf sa k3.L).n) = 2 := by kernel_rfl
theorem x5 : syncR k4 sa = (k4, 7) := by kernel_rfl
theorem x6 : findR k5 [] sa = (⟨⟨#[120, 121, 122]⟩, 3⟩, 0) := by kernel_rfl
theorem x7 : renameR k5 sa sb = (k6, 0) := by kernel_rfl
theorem x8 : removeR k6 sa = (k6, 4) := by kernel_rfl
theorem x9 : appendR k6 sb ⟨#[49, 50, 51, 52, 53, 54, 55, 56]⟩ = (k6, 6) := by kernel_rfl
theorem x10 : appendR k7 sb ⟨#[49]⟩ = (k8, 7) := by kernel_rfl
/-- A row of one-cell elements away from the disk. -/
theorem rd_keep {α : Type} {f : α → Value} {w w1 : World} {A : Option Addr} {l : List α} {g b : Nat} (h : Rd1 f w A l) (k : Upd w w1 (fun i => i = g ∨ i = b)) (hA : ∀ ad, A = some ad → ad.block ≠ g ∧ ad.block ≠ b) : Rd1 f w1 A l := by
  intro i hi
  obtain ⟨ad, e, hc⟩ := h i hi
  obtain ⟨h1, h2⟩ := hA ad e
  have hb : (ad.add i).block = ad.block := by unfold Addr.add; split <;> rfl
  rw [← hb] at h1 h2
  exact ⟨ad, e, k.cell hc (fun hf => hf.elim h1 h2)⟩

set_option maxHeartbeats 4000000 in
theorem awake_any (w : World) : Calls Try.prog 7 #[] w fun e w' => e = .returned (.bool true) ∧ Upd w w' Nope := by
  go_enter Try.func7, Try.ntmps7
  go_wp2_with fail
  refine (new_any 10 w).mono ?_
  rintro e w1 ⟨_, hn, u1⟩
  obtain ⟨g, b, rfl, h1, lg, lb⟩ := hn (by decide)
  clear hn
  have H1 := Lib.hid h1
  clear h1
  go_wp2_with fail
  refine (new_any 0 w1).mono ?_
  rintro e w2 ⟨hn, _, u2⟩
  obtain rfl := hn (by decide)
  clear hn
  have H2 := Lib.hid (H1.out.nn u2)
  have V2 := u1.nn u2
  clear u1 u2 H1
  have hc := append_any (d := k0) H2.out (fit_of (by kernel_rfl)) sa ⟨#[120, 121]⟩ (by decide)
  rw [x1] at hc
  have HC := Lib.hid hc
  clear hc
  go_wp2_with fail
  refine HC.out.mono ?_
  rintro e w3 ⟨rfl, h, u⟩
  clear HC
  have H3 := Lib.hid h
  have V3 := V2.trans u (fun _ _ h => h) (fun i hi h => by omega)
  clear H2 V2 u h
  have hc := sync_any H3.out (fit_of (by kernel_rfl)).ok sa
  rw [x2] at hc
  have HC := Lib.hid hc
  clear hc
  go_wp2_with fail
  refine HC.out.mono ?_
  rintro e w4 ⟨rfl, h, u⟩
  clear HC
  have H4 := Lib.hid h
  have V4 := V3.trans u (fun _ _ h => h) (fun i hi h => by omega)
  clear H3 V3 u h
  have hc := append_any H4.out (fit_of (by kernel_rfl)) sa ⟨#[122, 119]⟩ (by decide)
  rw [x3] at hc
  have HC := Lib.hid hc
  clear hc
  go_wp2_with fail
  refine HC.out.mono ?_
  rintro e w5 ⟨rfl, h, u⟩
  clear HC
  have H5 := Lib.hid h
  have V5 := V4.trans u (fun _ _ h => h) (fun i hi h => by omega)
  clear H4 V4 u h
  have hc := waits_any H5.out sa (by decide)
  rw [x4w] at hc
  have HC := Lib.hid hc
  clear hc
  go_wp2_with fail
  refine HC.out.mono ?_
  rintro e w6 ⟨rfl, u⟩
  clear HC
  have H6 := Lib.hid (H5.out.nn u)
  have V6 := V5.nn u
  clear H5 V5 u
  have hc := crash_any H6.out 1 (fit_of (by kernel_rfl)).ok.fs (by decide)
  rw [x4] at hc
  have HC := Lib.hid hc
  clear hc
  go_wp2_with fail
  refine HC.out.mono ?_
  rintro e w7 ⟨rfl, h, u⟩
  clear HC
  have H7 := Lib.hid h
  have V7 := V6.trans u (fun _ _ h => h) (fun i hi h => by omega)
  clear H6 V6 u h
  have hc := sync_any H7.out (fit_of (by kernel_rfl)).ok sa
  rw [x5] at hc
  have HC := Lib.hid hc
  clear hc
  go_wp2_with fail
  refine HC.out.mono ?_
  rintro e w8 ⟨rfl, h, u⟩
  clear HC
  have H8 := Lib.hid h
  have V8 := V7.trans u (fun _ _ h => h) (fun i hi h => by omega)
  clear H7 V7 u h
  have hc := start_any H8.out
  have HC := Lib.hid hc
  clear hc
  go_wp2_with fail
  refine HC.out.mono ?_
  rintro e w9 ⟨rfl, h, u⟩
  clear HC
  have H9 := Lib.hid (show DK w9 g b k5 from h)
  have V9 := V8.trans u (fun _ _ h => h) (fun i hi h => by omega)
  clear H8 V8 u
  have hc := read_any H9.out sa
  rw [x6] at hc
  have HC := Lib.hid hc
  clear hc
  go_wp2_with fail
  refine HC.out.mono ?_
  rintro e w10 ⟨rfl, u⟩
  clear HC
  have H10 := Lib.hid (H9.out.nn u)
  have V10 := V9.nn u
  clear H9 V9 u
  have hc := rename_any H10.out (fit_of (by kernel_rfl)).ok sa sb
  rw [x7] at hc
  have HC := Lib.hid hc
  clear hc
  go_wp2_with fail
  refine HC.out.mono ?_
  rintro e w11 ⟨rfl, h, u⟩
  clear HC
  have H11 := Lib.hid h
  have V11 := V10.trans u (fun _ _ h => h) (fun i hi h => by omega)
  clear H10 V10 u h
  have hc := list_any H11.out (by decide)
  have HC := Lib.hid hc
  clear hc
  go_wp2_with fail
  refine HC.out.mono ?_
  rintro e w12 ⟨A, cap, l, rfl, hrd, hp, u, hA⟩
  clear HC
  have hl : l = [sb] := by simpa [k6] using hp
  subst hl
  have ha : ∀ ad, A = some ad → ad.block ≠ g ∧ ad.block ≠ b := fun ad e => by have h1 := hA ad e; have h2 := H11.out.blk.lt; have h3 := H11.out.mp.lt; omega
  have HR := Lib.hid hrd
  have HAD := Lib.hid ha
  clear hrd hp hA ha
  have H12 := Lib.hid (H11.out.nn u)
  have V12 := V11.nn u
  clear H11 V11 u
  have hc := remove_any H12.out (fit_of (by kernel_rfl)).ok sa
  rw [x8] at hc
  have HC := Lib.hid hc
  clear hc
  go_wp2_with fail
  refine HC.out.mono ?_
  rintro e w13 ⟨rfl, h, u⟩
  clear HC
  have HR := Lib.hid (rd_keep HR.out u (fun ad e => HAD.out ad e))
  have H13 := Lib.hid h
  have V13 := V12.trans u (fun _ _ h => h) (fun i hi h => by omega)
  clear H12 V12 u h
  have hc := append_any H13.out (fit_of (by kernel_rfl)) sb ⟨#[49, 50, 51, 52, 53, 54, 55, 56]⟩ (by decide)
  rw [x9] at hc
  have HC := Lib.hid hc
  clear hc
  go_wp2_with fail
  refine HC.out.mono ?_
  rintro e w14 ⟨rfl, h, u⟩
  clear HC
  have HR := Lib.hid (rd_keep HR.out u (fun ad e => HAD.out ad e))
  have H14 := Lib.hid h
  have V14 := V13.trans u (fun _ _ h => h) (fun i hi h => by omega)
  clear H13 V13 u h
  have hc := arm_any H14.out 1 9
  have HC := Lib.hid hc
  clear hc
  go_wp2_with fail
  refine HC.out.mono ?_
  rintro e w15 ⟨rfl, h, u⟩
  clear HC
  have HR := Lib.hid (rd_keep HR.out (u.mono (fun _ _ h => Or.inl h)) (fun ad e => HAD.out ad e))
  have H15 := Lib.hid (show DK w15 g b k7 from h)
  have V15 := V14.trans u (fun _ _ h => h) (fun i hi h => by omega)
  clear H14 V14 u
  have hc := append_any H15.out (fit_of (by kernel_rfl)) sb ⟨#[49]⟩ (by decide)
  rw [x10] at hc
  have HC := Lib.hid hc
  clear hc
  go_wp2_with fail
  refine HC.out.mono ?_
  rintro e w16 ⟨rfl, h, u⟩
  clear HC
  have HR := Lib.hid (rd_keep HR.out u (fun ad e => HAD.out ad e))
  have H16 := Lib.hid h
  have V16 := V15.trans u (fun _ _ h => h) (fun i hi h => by omega)
  clear H15 V15 u h
  have hb := Blk.new w16 #[.string sb] 9
  have hs := same_any [sb] (c := cap) (c' := 1) (w16.alloc (.cells #[.string sb] 9)) (HR.out.upd ((Upd.refl w16 Nope).alloc _) (fun _ h => h.elim)) (rd1_blk hb rfl) (by decide)
  have HS := Lib.hid hs
  clear hs hb
  go_wp2_with fail
  refine HS.out.mono ?_
  rintro e w17 ⟨rfl, hdr⟩
  have u17 : Upd w16 w17 Nope := (((Upd.refl w16 _).alloc _).dr hdr)
  have h17 := H16.out.nn u17
  have V17 := V16.nn u17
  have hD := down_any h17
  have hU := used_any h17 (by decide)
  have hX : sumL k8.L = 4 := by kernel_rfl
  rw [hX] at hU
  have HD := Lib.hid hD
  have HU := Lib.hid hU
  have HK := Lib.hid h17
  clear hD hU h17 u17 hdr HS
  go_wp2_with fail
  refine HD.out.mono ?_
  rintro e w18 ⟨rfl, hw⟩
  obtain rfl : w17 = w18 := hw.symm
  have hoff : k8.off = true := rfl
  go_wp2_with fail
  refine HU.out.mono ?_
  rintro e w19 ⟨rfl, u⟩
  have hC := changes_any (HK.out.nn u)
  have hch : k8.ch = 1 := rfl
  rw [hch] at hC
  have HC := Lib.hid hC
  have VE := V17.nn u
  clear hC
  go_wp2_with fail
  refine HC.out.mono ?_
  rintro e w20 ⟨rfl, hw⟩
  obtain rfl : w19 = w20 := hw.symm
  go_wp2
  go_ret
  exact ⟨rfl, VE⟩
end Go.Proofs.Ytkglcgekpgcdpaa
