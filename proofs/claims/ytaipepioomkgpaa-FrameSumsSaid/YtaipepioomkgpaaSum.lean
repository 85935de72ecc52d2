/- The contracts of the two sums (frame.Sum, and the reference's), over any world. -/
import Derived.Test.YtaipepioomkgpaaOpen
import Derived.Lib.ConvBytes
set_option linter.unusedVariables false
set_option linter.unusedSimpArgs false
namespace Go.Proofs.Ytaipepioomkgpaa
open Go.RowKit

/-- One step of the register. -/
def crcStep (r : Nat) : Nat := if r % 2 = 1 then (r / 2) ^^^ 3988292384 else r / 2
def crcSteps : Nat → Nat → Nat
  | 0, r => r
  | k + 1, r => crcStep (crcSteps k r)
/-- One byte. -/
def crcByte (r : Nat) (b : UInt8) : Nat := crcSteps 8 (r ^^^ b.toNat)
/-- The register behind bytes. -/
def crcReg (l : List UInt8) : Nat := l.foldl crcByte 4294967295
def crcOf (l : List UInt8) : Nat := crcReg l ^^^ 4294967295

theorem xor_lt32 {a b : Nat} (ha : a < 4294967296) (hb : b < 4294967296) : a ^^^ b < 4294967296 := Nat.xor_lt_two_pow (n := 32) ha hb
theorem crcStep_lt {r : Nat} (h : r < 4294967296) : crcStep r < 4294967296 := by
  unfold crcStep
  split
  · exact xor_lt32 (by omega) (by omega)
  · omega
theorem crcSteps_lt (k : Nat) {r : Nat} (h : r < 4294967296) : crcSteps k r < 4294967296 := by
  induction k with
  | zero => exact h
  | succ k ih => exact crcStep_lt ih
theorem crcByte_lt {r : Nat} (b : UInt8) (h : r < 4294967296) : crcByte r b < 4294967296 := crcSteps_lt 8 (xor_lt32 h (by have := b.toNat_lt; omega))
theorem crcReg_lt (l : List UInt8) : crcReg l < 4294967296 := by
  unfold crcReg
  suffices h : ∀ (l : List UInt8) r, r < 4294967296 → l.foldl crcByte r < 4294967296 from h l _ (by omega)
  intro l
  induction l with
  | nil => exact fun r h => h
  | cons b l ih => exact fun r h => ih _ (crcByte_lt b h)
theorem crcReg_snoc (l : List UInt8) (b : UInt8) : crcReg (l ++ [b]) = crcByte (crcReg l) b := by simp [crcReg]

theorem xor_u32 (a b : Nat) (ha : a < 4294967296) (hb : b < 4294967296) : bits .xor .u32 (a : Int) (b : Int) = ((a ^^^ b : Nat) : Int) := by
  have ha' : a % 2 ^ 32 = a := Nat.mod_eq_of_lt ha
  have hb' : b % 2 ^ 32 = b := Nat.mod_eq_of_lt hb
  have hx := xor_lt32 ha hb
  have e : bits .xor .u32 (a : Int) (b : Int) = IntKind.u32.wrap ((((BitVec.ofInt 32 (a : Int)) ^^^ (BitVec.ofInt 32 (b : Int))).toNat : Nat) : Int) := rfl
  rw [e, BitVec.ofInt_natCast, BitVec.ofInt_natCast, BitVec.toNat_xor, BitVec.toNat_ofNat, BitVec.toNat_ofNat, ha', hb', IntKind.wrap_u32]
  exact Int.emod_eq_of_lt (by omega) (by omega)
theorem and_u32 (a b : Nat) (ha : a < 4294967296) (hb : b < 4294967296) : bits .and .u32 (a : Int) (b : Int) = ((a &&& b : Nat) : Int) := by
  have ha' : a % 2 ^ 32 = a := Nat.mod_eq_of_lt ha
  have hb' : b % 2 ^ 32 = b := Nat.mod_eq_of_lt hb
  have hx : a &&& b < 4294967296 := Nat.lt_of_le_of_lt Nat.and_le_left ha
  have e : bits .and .u32 (a : Int) (b : Int) = IntKind.u32.wrap ((((BitVec.ofInt 32 (a : Int)) &&& (BitVec.ofInt 32 (b : Int))).toNat : Nat) : Int) := rfl
  rw [e, BitVec.ofInt_natCast, BitVec.ofInt_natCast, BitVec.toNat_and, BitVec.toNat_ofNat, BitVec.toNat_ofNat, ha', hb', IntKind.wrap_u32]
  exact Int.emod_eq_of_lt (by omega) (by omega)
theorem step_u32 (S : Nat) (h : S < 4294967296) : bits .xor .u32 ((S : Int) / 2) (bits .and .u32 (-bits .and .u32 (S : Int) 1 % 4294967296) 3988292384) = (crcStep S : Int) := by
  have e1 := and_u32 S 1 h (by omega)
  rw [Nat.and_one_is_mod] at e1
  rw [show ((1 : Nat) : Int) = 1 from rfl] at e1
  rw [e1]
  have e2 : (S : Int) / 2 = ((S / 2 : Nat) : Int) := by omega
  rw [e2]
  unfold crcStep
  by_cases hp : S % 2 = 1
  · rw [if_pos hp, hp]
    have e3 := and_u32 4294967295 3988292384 (by omega) (by omega)
    rw [show (4294967295 &&& 3988292384 : Nat) = 3988292384 by decide] at e3
    have e4 := xor_u32 (S / 2) 3988292384 (by omega) (by omega)
    rw [show -((1 : Nat) : Int) % 4294967296 = ((4294967295 : Nat) : Int) by decide]
    rw [show ((3988292384 : Int)) = ((3988292384 : Nat) : Int) from rfl, e3, e4]
  · have hz : S % 2 = 0 := by omega
    rw [if_neg hp, hz]
    have e3 := and_u32 0 3988292384 (by omega) (by omega)
    rw [Nat.zero_and] at e3
    have e4 := xor_u32 (S / 2) 0 (by omega) (by omega)
    rw [Nat.xor_zero] at e4
    rw [show -((0 : Nat) : Int) % 4294967296 = ((0 : Nat) : Int) by decide]
    rw [show ((3988292384 : Int)) = ((3988292384 : Nat) : Int) from rfl, e3, e4]
theorem inv_u32 (a : Nat) (ha : a < 4294967296) : bits .xor .u32 IntKind.u32.max (a : Int) = ((a ^^^ 4294967295 : Nat) : Int) := by
  have e : IntKind.u32.max = ((4294967295 : Nat) : Int) := by simp [IntKind.max, IntKind.signed, IntKind.bits]
  rw [e, xor_u32 _ _ (by omega) ha, Nat.xor_comm]

theorem bytes_snoc (s : ByteArray) (k : Nat) (h : k < s.size) : s.data.toList.take (k + 1) = s.data.toList.take k ++ [s.data.toList.getD k 0] := by
  have h' : k < s.data.size := h
  rw [List.take_succ_eq_append_getElem (by simpa using h)]
  simp [List.getD, h']
  rw [Array.getElem?_eq_getElem h']
  rfl

set_option maxHeartbeats 1000000 in
theorem sum_any (s : ByteArray) (w : World) (hs : s.size ≤ 140737488351232) :
    Calls Try.prog 15 #[.string s] w fun e w' => e = .returned (.int .u32 (crcOf s.data.toList)) ∧ Upd w w' Nope := by
  have kc := fun (W : World) => Lib.run_convert_string_bytes (P := Try.prog) W 9 38 5 s Try.underlying9 Try.underlying38 Try.underlying5
  have hcell := fun j hj => Lib.bytesWorld_cell w 5 s j hj
  have hu : Upd w (Lib.bytesWorld w 5 s) Nope := ⟨rfl, rfl, rfl, by rw [Lib.bytesWorld_size]; omega, fun i hi _ => Lib.bytesWorld_at_old w 5 s i hi⟩
  go_enter Try.func15, Try.ntmps15
  go_wp2_with fail
  generalize Lib.bytesWorld w 5 s = w1 at hcell hu ⊢
  go_loop [3, 9] (fun r i => ∃ k : Nat, k ≤ s.size ∧ i = .int .i64 k ∧ r = .int .u32 (crcReg (s.data.toList.take k))) (fun _ i => s.size - (intOf i).toNat)
  case atStart => exact ⟨0, Nat.zero_le _, rfl, rfl⟩
  case round =>
    obtain ⟨k, hk, rfl, rfl⟩ := hrel
    have hr := crcReg_lt (s.data.toList.take k)
    by_cases hlt : k < s.size
    · have hx := hcell k hlt
      clear hcell
      have hsn := bytes_snoc s k hlt
      have hreg : crcReg (s.data.toList.take (k + 1)) = crcByte (crcReg (s.data.toList.take k)) (s.data.toList.getD k 0) := by rw [hsn, crcReg_snoc]
      clear hsn
      generalize s.data.toList.getD k 0 = b at hx hreg
      have hb := b.toNat_lt
      generalize crcReg (s.data.toList.take k) = R at hr hreg
      have HB := Lib.hid hreg
      clear hreg
      have hX := xor_u32 R b.toNat hr (by omega)
      have hS := fun k => crcSteps_lt k (xor_lt32 hr (show b.toNat < 4294967296 by omega))
      go_wp2_with fail
      go_loop [3, 17] (fun r i => ∃ j : Nat, j ≤ 8 ∧ i = .int .i64 j ∧ r = .int .u32 (crcSteps j (R ^^^ b.toNat))) (fun _ i => 8 - (intOf i).toNat)
      case atStart => exact ⟨0, by omega, rfl, rfl⟩
      case round =>
        obtain ⟨j, hj, rfl, rfl⟩ := hrel
        have h1 := hS j
        generalize HS : crcSteps j (R ^^^ b.toNat) = S at h1 ⊢
        have HS2 := Lib.hid HS
        clear HS
        by_cases hlt2 : j < 8
        · go_wp2_with fail
          have e := step_u32 S h1
          refine ⟨⟨j + 1, by omega, by go_num, ?_⟩, by simp [intOf]; omega⟩
          rw [e, ← HS2.out]
          rfl
        · obtain rfl : j = 8 := by omega
          go_wp2
          go_round
          case rel => exact ⟨k + 1, by omega, by go_num, by rw [HB.out, ← HS2.out]; rfl⟩
          case measure => simp [intOf]; omega
    · have hv := inv_u32 _ hr
      have hsg : IntKind.u32.signed = false := rfl
      go_wp2
      go_ret
      obtain rfl : k = s.size := by omega
      exact ⟨ret_eq (by simp [crcOf]; rw [List.take_of_length_le (by simp)]), hu⟩
end Go.Proofs.Ytaipepioomkgpaa
