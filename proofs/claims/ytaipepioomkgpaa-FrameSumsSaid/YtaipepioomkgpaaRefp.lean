/- The contracts of the reference's Frame, Print and Scan. -/
import Derived.Test.YtaipepioomkgpaaRefs
set_option linter.unusedVariables false
set_option linter.unusedSimpArgs false
namespace Go.Proofs.Ytaipepioomkgpaa
open Go.RowKit
attribute [local go_sem] le2_length le4_length le2_size le4_size ByteArray.size_append

set_option maxHeartbeats 1000000 in
theorem frame_any (r : ByteArray) (w : World) (hr : r.size ≤ 65535) : Calls Try.prog 22 #[.string r] w fun e w' => e = .returned (.string ⟨(frameOf r.data.toList).toArray⟩) ∧ Upd w w' Nope := by
  have hcv := fun w => conv_new w [(r.size : Int) % 256, (r.size : Int) / 256] (by simp [maxLen])
  have hs : strOfNums [(r.size : Int) % 256, (r.size : Int) / 256] = ⟨(le2 r.size).toArray⟩ := by
    have e1 : ((r.size : Int) % 256).toNat = r.size % 256 := by omega
    have e2 : ((r.size : Int) / 256).toNat = r.size / 256 := by omega
    have e3 : UInt8.ofNat (r.size % 256) = UInt8.ofNat r.size := by apply UInt8.toNat.inj; simp
    simp [strOfNums, le2, e1, e2, e3]
  simp only [List.length_cons, List.length_nil, Nat.zero_add, Nat.reduceAdd, List.map_cons, List.map_nil, hs] at hcv
  clear hs
  have hcat := frame_cat r
  have HC := Lib.hid hcat
  clear hcat
  go_enter Try.func22, Try.ntmps22
  go_wp2_with fail
  refine (refsum_any ⟨(le2 r.size).toArray⟩ _ (by rw [le2_size]; omega)).mono ?_
  rintro e w2 ⟨rfl, hd2⟩
  have hu2 := ((Upd.refl w Nope).alloc (.cells #[.int .u8 ((r.size : Int) % 256), .int .u8 ((r.size : Int) / 256)] 5)).dr hd2
  clear hd2
  go_wp2_with fail
  refine (four_any (crcOf (le2 r.size)) w2 (crcOf_lt _)).mono ?_
  rintro e w3 ⟨rfl, hu3⟩
  have hu3' := hu2.nn hu3
  clear hu2 hu3
  go_wp2_with fail
  refine (refsum_any r w3 (by omega)).mono ?_
  rintro e w4 ⟨rfl, hd4⟩
  have hu4 := hu3'.dr hd4
  clear hd4
  go_wp2_with fail
  refine (four_any (crcOf r.data.toList) w4 (crcOf_lt _)).mono ?_
  rintro e w5 ⟨rfl, hu5⟩
  have hu5' := hu4.nn hu5
  clear hu4 hu5
  go_wp2
  go_ret
  refine ⟨ret_eq ?_, hu5'⟩
  have e : ∀ x : ByteArray, (⟨x.data.toList.toArray⟩ : ByteArray) = x := fun x => by simp
  rw [← HC.out, e]
  rfl

theorem ba_append (a b : List UInt8) : (⟨a.toArray⟩ : ByteArray) ++ ⟨b.toArray⟩ = ⟨(a ++ b).toArray⟩ := by
  apply ByteArray.ext
  simp
/-- What the reference's Print answers. -/
theorem refprint_any (A : Option Addr) (c : Nat) (l : List ByteArray) (w : World) (hr : Rd1 Value.string w A l) (hl : l.length ≤ 100000) (ht : total l ≤ 1000000) :
    Calls Try.prog 11 #[.slice A l.length c] w fun e w' => e = .returned (printRet l) ∧ Upd w w' Nope := by
  go_enter Try.func11, Try.ntmps11
  go_wp2_with fail
  go_loopw [4, 5] (fun s i wr => ∃ k : Nat, k ≤ l.length ∧ i = .int .i64 k ∧ s = .string ⟨(framesOf (l.take k)).toArray⟩ ∧ fitsAll (l.take k) ∧ Upd w wr Nope) (fun _ i _ => l.length - (intOf i).toNat)
  case atStart => exact ⟨0, Nat.zero_le _, rfl, rfl, by simp [fitsAll], Upd.refl _ _⟩
  case round =>
    obtain ⟨k, hk, rfl, rfl, hf, hu⟩ := hrel
    by_cases hlt : k < l.length
    · obtain ⟨ad, rfl, hx⟩ := (hr.upd hu (fun _ h => h.elim)) k hlt
      by_cases hlong : 65535 < (l[k]'hlt).size
      · go_wp2_with fail
        go_ret2
        exact ⟨ret_eq (by rw [printRet_no (fun h => by have := h _ (List.getElem_mem hlt); omega)]; rfl), hu⟩
      · have hsn := List.take_succ_eq_append_getElem hlt
        generalize l[k] = r at hx hlong hsn
        have hff : fitsAll (l.take (k + 1)) := by rw [hsn]; intro x hx; rcases List.mem_append.1 hx with h | h; exact hf x h; (simp at h; subst h; omega)
        have hfl := framesOf_length (l.take (k + 1))
        have htl := total_take l (k + 1)
        have hkl : (l.take (k + 1)).length = k + 1 := by rw [List.length_take]; omega
        rw [hkl] at hfl
        have hfr : framesOf (l.take (k + 1)) = framesOf (l.take k) ++ frameOf r.data.toList := by rw [hsn, framesOf_snoc]
        rw [hfr] at hfl
        generalize hF : framesOf (l.take k) = F at hfr hfl
        have HF := Lib.hid hfr
        have HL := Lib.hid hfl
        clear hsn hfr hkl hfl hF
        go_wp2_with fail
        refine (frame_any r wr (by omega)).mono ?_
        rintro e w2 ⟨rfl, hu2⟩
        have hsz : F.length + (frameOf r.data.toList).length ≤ 140737488351232 := by have := HL.out; rw [List.length_append] at this; omega
        go_wp2
        go_roundw
        case rel => exact ⟨k + 1, by omega, by go_num, by rw [HF.out]; exact congrArg Value.string (ba_append _ _), hff, hu.nn hu2⟩
        case measure => simp [intOf]; omega
    · have e : l.take k = l := List.take_of_length_le (by omega)
      rw [e] at hf
      rw [e]
      go_wp2
      go_ret2
      exact ⟨ret_eq (by rw [printRet_yes hf]; rfl), hu⟩
end Go.Proofs.Ytaipepioomkgpaa
