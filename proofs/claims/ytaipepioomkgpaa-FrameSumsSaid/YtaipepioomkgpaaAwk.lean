/- awake: it answers true, and turns nothing that was there. -/
import Derived.Test.YtaipepioomkgpaaRefs2
set_option linter.unusedVariables false
set_option linter.unusedSimpArgs false
namespace Go.Proofs.Ytaipepioomkgpaa
open Go.RowKit

/-- What Scan answers, as records. -/
def recs (s : ByteArray) : List ByteArray := strs (scanL s.data.toList).1
def upto (s : ByteArray) : Nat := (scanL s.data.toList).2
def SP (w : World) (s : ByteArray) (e : Ending) (w' : World) : Prop :=
  ∃ A cap, e = .returned (.tuple #[.slice A (recs s).length cap, .int .i64 (upto s : Nat)]) ∧ Rd1 Value.string w' A (recs s) ∧ (A = none → cap = 0) ∧ (recs s).length ≤ cap ∧ Upd w w' Nope
theorem sp_of {w : World} {s : ByteArray} {e : Ending} {w' : World} (h : ScanPost w s e w') : SP w s e w' := by
  obtain ⟨v, rfl, ho, hu⟩ := h
  have ho' : w'.ownsRow w.heap.size 9 1 v (scanL s.data.toList).1.length ((recs s).map Value.string) := ho
  obtain ⟨A, cap, rfl, hn, hr, h0, hc⟩ := rd1_of_owns ho'
  exact ⟨A, cap, by rw [hn]; rfl, hr, h0, by omega, hu⟩
theorem scan2 (s : ByteArray) (w : World) (hs : s.size ≤ 1000000) : Calls Try.prog 12 #[.string s] w (SP w s) := (scan_any s w hs).mono fun _ _ h => sp_of h
theorem refscan2 (s : ByteArray) (w : World) (hs : s.size ≤ 1000000) : Calls Try.prog 13 #[.string s] w (SP w s) := (refscan_any s w hs).mono fun _ _ h => sp_of h

def ab : ByteArray := ⟨#[97, 98]⟩
def nil : ByteArray := ⟨#[]⟩
def xx : ByteArray := ⟨#[120]⟩
def abFrames : ByteArray := ⟨(framesOf [ab, nil]).toArray⟩
theorem ab_fits : fitsAll [ab, nil] := by decide +kernel
theorem ab_size : abFrames.size = 22 := by
  show (framesOf [ab, nil]).toArray.size = 22
  rw [List.size_toArray, framesOf_length]; rfl
theorem x_none : scanL [120] = ([], 0) := scanL_none (by unfold frontOf; rfl)
theorem ab_scan : recs (abFrames ++ xx) = [ab, nil] ∧ upto (abFrames ++ xx) = 22 := by
  have h := scan_frames [ab, nil] [120] ab_fits
  have e : (abFrames ++ xx).data.toList = framesOf [ab, nil] ++ [120] := by simp [abFrames, xx]
  unfold recs upto
  rw [e, h.1, h.2, x_none, framesOf_length]
  exact ⟨rfl, rfl⟩
theorem x_scan : recs xx = [] ∧ upto xx = 0 := by unfold recs upto; exact ⟨by rw [show xx.data.toList = [120] from rfl, x_none]; rfl, by rw [show xx.data.toList = [120] from rfl, x_none]⟩
theorem crc_nine : crcOf [49, 50, 51, 52, 53, 54, 55, 56, 57] = 3421780262 := by decide +kernel
theorem ab_print : printRet [ab, nil] = .tuple #[.string abFrames, .int .i64 0] := printRet_yes ab_fits

set_option maxHeartbeats 1000000 in
theorem awake_any (w : World) : Calls Try.prog 8 #[] w fun e w' => e = .returned (.bool true) ∧ Upd w w' Nope := by
  go_enter Try.func8, Try.ntmps8
  go_wp2_with fail
  have hr : Rd1 Value.string (w.alloc (.cells #[.string ab, .string nil] 9)) (some ⟨w.heap.size, 0, none⟩) [ab, nil] := rd1_blk (Blk.new _ _ _) rfl
  have hpr := print_any (some ⟨w.heap.size, 0, none⟩) 2 [ab, nil] _ hr (by decide) (by decide)
  rw [ab_print] at hpr
  refine hpr.mono ?_
  clear hpr hr
  rintro e w1 ⟨rfl, hu1⟩
  have hu1' := ((Upd.refl w Nope).alloc _).nn hu1
  clear hu1
  have hz := ab_size
  obtain ⟨hs1, hs2⟩ := ab_scan
  obtain ⟨hx1, hx2⟩ := x_scan
  generalize abFrames = fr at hz hs1 hs2 ⊢
  have hsz : (fr ++ xx).size ≤ 1000000 := by rw [ByteArray.size_append, hz]; decide
  go_wp2_with fail
  refine (scan2 (fr ++ xx) w1 hsz).mono ?_
  rintro e w2 ⟨A2, cap2, rfl, hr2, _, _, hu2⟩
  rw [hs1] at hr2 ⊢
  rw [hs2]
  have hu2' := hu1'.nn hu2
  clear hu1' hu2 hs1 hs2
  go_wp2_with fail
  refine (scan2 xx w2 (by decide)).mono ?_
  rintro e w3 ⟨A3, cap3, rfl, hr3, _, _, hu3⟩
  rw [hx1, hx2]
  have hr2' := hr2.upd hu3 (fun _ h => h.elim)
  have hu3' := hu2'.nn hu3
  clear hr2 hu2' hu3 hr3 hx1 hx2
  go_wp2_with fail
  refine (sum_any _ w3 (by decide)).mono ?_
  rintro e w4 ⟨rfl, hu4⟩
  have hr4 := hr2'.upd hu4 (fun _ h => h.elim)
  have hu4' := hu3'.nn hu4
  clear hr2' hu3' hu4
  have hcr : crcOf (⟨#[49, 50, 51, 52, 53, 54, 55, 56, 57]⟩ : ByteArray).data.toList = 3421780262 := crc_nine
  rw [hcr]
  clear hcr
  have hb : Rd1 Value.string (w4.alloc (.cells #[.string ab, .string nil] 9)) (some ⟨w4.heap.size, 0, none⟩) [ab, nil] := rd1_blk (Blk.new _ _ _) rfl
  have hsm := same_any A2 (some ⟨w4.heap.size, 0, none⟩) cap2 2 [ab, nil] [ab, nil] _ (hr4.upd ((Upd.refl w4 Nope).alloc _) (fun _ h => h.elim)) hb (by decide) (by decide)
  have HS := Lib.hid hsm
  clear hsm hb hr4
  go_wp2_with fail
  refine HS.out.mono ?_
  rintro e w5 ⟨rfl, hd5⟩
  go_wp2_with fail
  refine (size_any _ w5 (by decide)).mono ?_
  rintro e w6 ⟨rfl, rfl⟩
  go_wp2_with fail
  go_ret
  exact ⟨by rfl, (hu4'.alloc _).dr hd5⟩
end Go.Proofs.Ytaipepioomkgpaa
