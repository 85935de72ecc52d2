/- The contracts of frame.number, at two bytes and at four. -/
import Derived.Test.YtaipepioomkgpaaSum
import Derived.Lib.BufferRead
set_option linter.unusedVariables false
set_option linter.unusedSimpArgs false
namespace Go.Proofs.Ytaipepioomkgpaa
open Go.RowKit

/-- A number's two bytes, and its four, the lowest first. -/
def le2 (n : Nat) : List UInt8 := [UInt8.ofNat n, UInt8.ofNat (n / 256)]
def le4 (n : Nat) : List UInt8 := [UInt8.ofNat n, UInt8.ofNat (n / 256), UInt8.ofNat (n / 65536), UInt8.ofNat (n / 16777216)]

/-- string(b), b a new block of bytes. -/
theorem conv_new (w : World) (xs : List Int) (hx : xs.length ≤ maxLen) : (convert 38 9 (.slice (some ⟨w.heap.size, 0, none⟩) xs.length xs.length)).run Try.prog (w.alloc (.cells (xs.map (Value.int .u8)).toArray 5)) = .ok (.string (strOfNums xs)) (w.alloc (.cells (xs.map (Value.int .u8)).toArray 5)) := by
  refine run_convert_bytes_arg (P := Try.prog) _ 38 5 Try.underlying38 Try.underlying5 w.heap.size 0 xs.length xs.length xs rfl (fun i hi => ?_) 9 Try.underlying9
  rw [Nat.zero_add, World.cell?_alloc_new]
  simp [List.getD, hi]

set_option maxHeartbeats 1000000 in
theorem num2_any (n : Nat) (w : World) (hn : n < 65536) :
    Calls Try.prog 18 #[.int .u16 n, .int .i64 2] w fun e w' => e = .returned (.string ⟨(le2 n).toArray⟩) ∧ Upd w w' Nope := by
  have hmk : ∀ w, (Instr.makeSlice 38 (.int .i64 2) (.int .i64 2)).run Try.prog w = .ok (.slice (some ⟨w.heap.size, 0, none⟩) 2 2) (w.alloc (.cells #[.int .u8 0, .int .u8 0] 5)) := fun _ => by kernel_rfl
  have hcv := conv_new w [(n : Int) % 256, (n : Int) / 256] (by simp [maxLen])
  have hs : strOfNums [(n : Int) % 256, (n : Int) / 256] = ⟨(le2 n).toArray⟩ := by
    have e1 : ((n : Int) % 256).toNat = n % 256 := by omega
    have e2 : ((n : Int) / 256).toNat = n / 256 := by omega
    have e3 : UInt8.ofNat (n % 256) = UInt8.ofNat n := by apply UInt8.toNat.inj; simp
    simp [strOfNums, le2, e1, e2, e3]
  simp only [List.length_cons, List.length_nil, Nat.zero_add, Nat.reduceAdd, List.map_cons, List.map_nil, hs] at hcv
  clear hs
  go_enter Try.func18, Try.ntmps18
  go_wp2_with fail
  refine wp_loop_rounds 3 ?_
  rw [rounds_succ]
  go_wp2_with fail
  rw [rounds_succ]
  go_wp2_with fail
  rw [rounds_succ]
  go_wp2_with fail
  go_ret
  exact ⟨rfl, (Upd.refl _ _).alloc _⟩

set_option maxHeartbeats 1000000 in
theorem num4_any (n : Nat) (w : World) (hn : n < 4294967296) :
    Calls Try.prog 20 #[.int .u32 n, .int .i64 4] w fun e w' => e = .returned (.string ⟨(le4 n).toArray⟩) ∧ Upd w w' Nope := by
  have hmk : ∀ w, (Instr.makeSlice 38 (.int .i64 4) (.int .i64 4)).run Try.prog w = .ok (.slice (some ⟨w.heap.size, 0, none⟩) 4 4) (w.alloc (.cells #[.int .u8 0, .int .u8 0, .int .u8 0, .int .u8 0] 5)) := fun _ => by kernel_rfl
  have hcv := conv_new w [(n : Int) % 256, (n : Int) / 256 % 256, (n : Int) / 65536 % 256, (n : Int) / 16777216] (by simp [maxLen])
  have hs : strOfNums [(n : Int) % 256, (n : Int) / 256 % 256, (n : Int) / 65536 % 256, (n : Int) / 16777216] = ⟨(le4 n).toArray⟩ := by
    have e1 : ((n : Int) % 256).toNat = n % 256 := by omega
    have e2 : ((n : Int) / 256 % 256).toNat = n / 256 % 256 := by omega
    have e3 : ((n : Int) / 65536 % 256).toNat = n / 65536 % 256 := by omega
    have e4 : ((n : Int) / 16777216).toNat = n / 16777216 := by omega
    have e5 : ∀ m, UInt8.ofNat (m % 256) = UInt8.ofNat m := fun m => by apply UInt8.toNat.inj; simp
    simp [strOfNums, le4, e1, e2, e3, e4, e5]
  simp only [List.length_cons, List.length_nil, Nat.zero_add, Nat.reduceAdd, List.map_cons, List.map_nil, hs] at hcv
  clear hs
  go_enter Try.func20, Try.ntmps20
  go_wp2_with fail
  refine wp_loop_rounds 5 ?_
  rw [rounds_succ]
  go_wp2_with fail
  rw [rounds_succ]
  go_wp2_with fail
  rw [rounds_succ]
  go_wp2_with fail
  rw [rounds_succ]
  go_wp2_with fail
  rw [rounds_succ]
  go_wp2_with fail
  go_ret
  exact ⟨rfl, (Upd.refl _ _).alloc _⟩

set_option maxHeartbeats 1000000 in
theorem refsum_any (s : ByteArray) (w : World) (hs : s.size ≤ 140737488351232) :
    Calls Try.prog 16 #[.string s] w fun e w' => e = .returned (.int .u32 (crcOf s.data.toList)) ∧ Drew w w' := by
  go_enter Try.func16, Try.ntmps16
  go_wp2_with fail
  go_loop [3, 4, 5] (fun r i _ => ∃ k : Nat, k ≤ s.size ∧ i = .int .i64 k ∧ r = .int .u32 (crcReg (s.data.toList.take k))) (fun _ i _ => s.size - (intOf i).toNat)
  case atStart => exact ⟨0, Nat.zero_le _, rfl, rfl⟩
  case round =>
    obtain ⟨k, hk, rfl, rfl⟩ := hrel
    have hr := crcReg_lt (s.data.toList.take k)
    by_cases hlt : k < s.size
    · have hsn := bytes_snoc s k hlt
      have hb0 : s.data.toList.getD k 0 = s[k] := by
        have h' : k < s.data.size := hlt
        simp [List.getD]
        rw [Array.getElem?_eq_getElem h']
        rfl
      have hreg : crcReg (s.data.toList.take (k + 1)) = crcByte (crcReg (s.data.toList.take k)) (s[k]'hlt) := by rw [hsn, crcReg_snoc, hb0]
      clear hsn hb0
      have hb := (s[k]'hlt).toNat_lt
      generalize hR : crcReg (s.data.toList.take k) = R at hr hreg ⊢
      have HB := Lib.hid hreg
      clear hreg hR
      have hX := xor_u32 R (s[k]'hlt).toNat hr (by omega)
      have hS := fun q => crcSteps_lt q (xor_lt32 hr (show (s[k]'hlt).toNat < 4294967296 by omega))
      go_wp2_with fail
      go_loop [3, 5] (fun r i => ∃ j : Nat, j ≤ 8 ∧ i = .int .i64 j ∧ r = .int .u32 (crcSteps j (R ^^^ (s[k]'hlt).toNat))) (fun _ i => 8 - (intOf i).toNat)
      case atStart => exact ⟨0, by omega, rfl, rfl⟩
      case round =>
        obtain ⟨j, hj, rfl, rfl⟩ := hrel
        have h1 := hS j
        generalize HS : crcSteps j (R ^^^ (s[k]'hlt).toNat) = S at h1 ⊢
        have HS2 := Lib.hid HS
        clear HS
        by_cases hlt2 : j < 8
        · have hx2 := xor_u32 (S / 2) 3988292384 (by omega) (by omega)
          rw [show ((S / 2 : Nat) : Int) = (S : Int) / 2 by omega, show ((3988292384 : Nat) : Int) = 3988292384 from rfl] at hx2
          by_cases hp : S % 2 = 1
          · have hp' : (((S : Int) % 2) == 1) = true := by rw [beq_iff_eq]; omega
            have HP := Lib.hid hp
            clear hp
            go_wp2
            go_round
            case rel => exact ⟨j + 1, by omega, by go_num, by rw [show crcSteps (j + 1) (R ^^^ (s[k]'hlt).toNat) = crcStep (crcSteps j (R ^^^ (s[k]'hlt).toNat)) from rfl, HS2.out, crcStep, if_pos HP.out]⟩
            case measure => simp [intOf]; omega
          · have hp' : (((S : Int) % 2) == 1) = false := by rw [beq_eq_false_iff_ne]; omega
            have HP := Lib.hid hp
            clear hp
            go_wp2
            go_round
            case rel => exact ⟨j + 1, by omega, by go_num, by rw [show crcSteps (j + 1) (R ^^^ (s[k]'hlt).toNat) = crcStep (crcSteps j (R ^^^ (s[k]'hlt).toNat)) from rfl, HS2.out, crcStep, if_neg HP.out]; go_num⟩
            case measure => simp [intOf]; omega
        · obtain rfl : j = 8 := by omega
          go_wp2
          go_round
          case rel => exact ⟨k + 1, by omega, by go_num, by rw [HB.out, ← HS2.out]; rfl⟩
          case measure => simp [intOf]; omega
    · have hv := xor_u32 _ 4294967295 hr (by omega)
      rw [show ((4294967295 : Nat) : Int) = 4294967295 from rfl] at hv
      go_wp2
      go_ret
      obtain rfl : k = s.size := by omega
      exact ⟨ret_eq (by simp [crcOf]; rw [List.take_of_length_le (by simp)]), Drew.refl _⟩
end Go.Proofs.Ytaipepioomkgpaa
