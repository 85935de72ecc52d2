/- The contract of Decode. -/
import Derived.Test.YtpcfigijjhoffaaEnc
set_option linter.unusedVariables false
set_option linter.unusedSimpArgs false
namespace Go.Proofs.Ytpcfigijjhoffaa
open Go.RowKit
attribute [local go_sem] bmin2 bmax2 bmin_two bmax_two

theorem idx_val : ∀ n, n < 256 → Lib.indexByte digits.data.toList (UInt8.ofNat n) = (match valN n with | some x => (x : Int) | none => -1) := by decide +kernel
theorem idx_val' (c : UInt8) : Lib.indexByte digits.data.toList (c.toNat : Int).toNat.toUInt8 = (match val c with | some x => (x : Int) | none => -1) := by
  have h := idx_val c.toNat c.toNat_lt
  have e : UInt8.ofNat c.toNat = (c.toNat : Int).toNat.toUInt8 := by simp
  rw [← e, h]
  rfl

/-- What the closure leaves, of what is left of the text and of the mark. -/
def dgV : List UInt8 → Nat
  | [] => 0
  | c :: _ => (val c).getD 0
def dgB (bad : Bool) : List UInt8 → Bool
  | [] => true
  | c :: _ => bad || (val c).isNone

theorem index0 (s : ByteArray) (c : UInt8) (l : List UInt8) (h : s.data.toList = c :: l) (W : World) : (Instr.index 9 (.string s) (.int .i64 0)).run Try.prog W = .ok (.int .u8 c.toNat) W := by
  have hz : 0 < s.size := by rw [← data_len, h]; simp
  rw [run_index_string (P := Try.prog) (w := W) 9 s .i64 0 Try.underlying9, dif_pos (by omega)]
  have h' : 0 < s.data.size := hz
  have e : s[(0 : Int).toNat]'(by simpa using hz) = c := by
    have e1 : s.data.toList[0]'(by rw [h]; simp) = c := by simp [h]
    rw [← e1]
    rfl
  rw [e]
def tl (s : ByteArray) : ByteArray := s.extract 1 s.size
theorem tl_list (s : ByteArray) : (tl s).data.toList = s.data.toList.tail := by
  unfold tl
  simp [ByteArray.extract, ByteArray.copySlice]
  rw [← List.drop_one]
  exact List.take_of_length_le (by simp)
theorem tl_size (s : ByteArray) : (tl s).size = s.size - 1 := by
  have h := congrArg List.length (tl_list s)
  rw [data_len, List.length_tail, data_len] at h
  exact h
theorem list_eq (s t : ByteArray) (h : s.data.toList = t.data.toList) : s = t := ByteArray.ext (Array.toList_inj.1 h)

set_option maxHeartbeats 1000000 in
set_option maxRecDepth 20000 in
theorem dig_any (gs gb : Nat) (s : ByteArray) (bad : Bool) (w : World) (hs : Blk w gs #[.string s] 9) (hb : Blk w gb #[.bool bad] 4) (hz : s.size ≤ 1000000) :
    Calls Try.prog 14 #[.pointer (some ⟨gs, 0, none⟩), .pointer (some ⟨gb, 0, none⟩)] w fun e w' => e = .returned (.int .u8 (dgV s.data.toList : Nat)) ∧ Blk w' gs #[.string (tl s)] 9 ∧ Blk w' gb #[.bool (dgB bad s.data.toList)] 4 ∧ Upd w w' (fun k => k = gs ∨ k = gb) := by
  have c0 : w.cell? ⟨gs, 0, none⟩ = some (.string s) := (hs.cell 0).trans rfl
  have c1 : w.cell? ⟨gb, 0, none⟩ = some (.bool bad) := (hb.cell 0).trans rfl
  have f0 := hs.frozen 0
  have f1 := hb.frozen 0
  have hne : gs ≠ gb := Blk.ne hs hb (by decide)
  by_cases h0 : s.size = 0
  · have hl : s.data.toList = [] := List.eq_nil_of_length_eq_zero (by rw [data_len]; exact h0)
    have hts : tl s = s := list_eq _ _ (by rw [tl_list, hl]; rfl)
    have hq : (s.toList == []) = true := by rw [ByteArray.toList_eq, hl]; rfl
    rw [hl, hts]
    clear hl hts h0
    go_enter Try.func14, Try.ntmps14
    go_wp2
    go_ret
    exact ⟨rfl, hs.far (p := ⟨gb, 0, none⟩) hne _, by simpa [dgB] using hb.set 0 (.bool true), (Upd.refl _ _).set _ _ (.inl (.inr rfl))⟩
  · cases hl : s.data.toList with
    | nil => exact absurd (by rw [← data_len, hl]; rfl) h0
    | cons c r =>
      have hq : (s.toList == []) = false := by rw [ByteArray.toList_eq, hl]; rfl
      have hix := index0 s c r hl
      have hcall := fun w => Try.strings_IndexByte digits (c.toNat : Int) w
      rw [idx_val' c] at hcall
      have hcl := c.toNat_lt
      have hsl : (1 : Int) ≤ s.size := by omega
      have hv : ∀ x, val c = some x → x < 16 := fun x h => valN_lt h
      have htl : s.extract 1 s.size = tl s := rfl
      have HTL := Lib.hid htl
      unfold dgV dgB
      simp only []
      generalize val c = vo at hcall hv ⊢
      unfold digits at hcall
      have HC := Lib.hid hcall
      clear hcall hl h0 htl
      go_enter Try.func14, Try.ntmps14
      go_wp2_with fail
      refine (HC.out _).mono ?_
      rintro e w1 ⟨rfl, hw1⟩
      obtain rfl : w = w1 := hw1.symm
      have hfin : ∀ b1 : Bool, Blk ((w.setCell ⟨gb, 0, none⟩ (.bool b1)).setCell ⟨gs, 0, none⟩ (.string (s.extract 1 s.size))) gs #[.string (tl s)] 9 ∧ Blk ((w.setCell ⟨gb, 0, none⟩ (.bool b1)).setCell ⟨gs, 0, none⟩ (.string (s.extract 1 s.size))) gb #[.bool b1] 4 ∧ Upd w ((w.setCell ⟨gb, 0, none⟩ (.bool b1)).setCell ⟨gs, 0, none⟩ (.string (s.extract 1 s.size))) (fun k => k = gs ∨ k = gb) := by
        intro b1
        rw [HTL.out]
        refine ⟨?_, ?_, ((Upd.refl _ _).set _ _ (.inl (.inr rfl))).set _ _ (.inl (.inl rfl))⟩
        · simpa using (hs.far (p := ⟨gb, 0, none⟩) hne (.bool b1)).set 0 (.string (tl s))
        · have h1 : Blk (w.setCell ⟨gb, 0, none⟩ (.bool b1)) gb #[.bool b1] 4 := by simpa using hb.set 0 (.bool b1)
          exact h1.far (p := ⟨gs, 0, none⟩) hne.symm _
      have HF := Lib.hid hfin
      clear hfin hs hb
      cases vo with
      | none =>
        have hmx : imax (-1) 0 = 0 := by decide
        cases bad
        all_goals
          go_wp2_with fail
          go_ret
          exact ⟨ret_eq (by first | rfl | simp [hmx]), HF.out _⟩
      | some x =>
        have hx := hv x rfl
        have hmx : imax (x : Int) 0 % 256 = x := by unfold imax; split <;> omega
        have hd : decide ((x : Int) < 0) = false := by simp
        clear hv
        cases bad
        all_goals
          go_wp2_with fail
          go_ret
          exact ⟨ret_eq (by first | rfl | simp [hmx]), HF.out _⟩
end Go.Proofs.Ytpcfigijjhoffaa
