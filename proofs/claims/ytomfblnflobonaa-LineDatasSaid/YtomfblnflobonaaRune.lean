/- strings.IndexRune at the three bytes 0, 13, 10 and a rune of more than one byte: it is not there. -/
import Derived.Test.YtomfblnflobonaaOpen
import Derived.Test.YtomfblnflobonaaShelf
import Derived.Laws.RangeAny
import Derived.Lib.OthersKept
import Derived.Lib.TrimU
import Derived.Laws.Runes
import Derived.WalkMore
set_option linter.unusedVariables false
set_option linter.unusedSimpArgs false
namespace Go.Proofs.Ytomfblnflobonaa
open Go.RowKit

theorem index_str {P : Program} {T : TypeId} (hT : P.underlying T = some .string) (s : ByteArray) (i : Int) (a : Nat) (hi : i = a) (h : a < s.size) (W : World) :
    (Instr.index T (.string s) (.int .i64 i)).run P W = .ok (.int .u8 (s.data.toList.getD a 0).toNat) W := by
  subst hi
  rw [run_index_string (P := P) (w := W) T s .i64 a hT, dif_pos (by omega)]
  simp only [Result.ok.injEq, Value.int.injEq, true_and, and_true]
  have h3 : a < s.data.size := h
  simp [List.getD]
  rw [Array.getElem?_eq_getElem h3]
  rfl

/-- The three bytes. -/
abbrev ends : ByteArray := ⟨#[0, 13, 10]⟩

set_option maxRecDepth 100000 in
theorem enc_last (r : Nat) (h : 128 ≤ r) (hr : r ≤ 1114111) (hv : Lib.validRune (r : Int) = true) :
    ∃ k, (Utf8.encode (r : Int)).size = k + 1 ∧ 1 ≤ k ∧ k ≤ 3 ∧ 128 ≤ ((Utf8.encode (r : Int)).data.toList.getD k 0).toNat := by
  have hv' : r < 55296 ∨ 57344 ≤ r := by
    simp only [Lib.validRune, decide_eq_true_eq] at hv
    omega
  have v : Utf8.valid (r : Int) = true := by simp [Utf8.valid]; omega
  have hz : ∀ l : List UInt8, (Utf8.encode (r : Int)).data.toList = l → (Utf8.encode (r : Int)).size = l.length := by
    intro l hl
    rw [← hl]
    simp
  have c1 : ¬ r < 128 := by omega
  have hm : (UInt8.ofNat (128 + r % 64)).toNat = 128 + r % 64 := by simp; omega
  by_cases c2 : r < 2048
  · have e : (Utf8.encode (r : Int)).data.toList = [UInt8.ofNat (192 + r / 64), UInt8.ofNat (128 + r % 64)] := by simp [Utf8.encode, v, c1, c2]
    refine ⟨1, hz _ e, by omega, by omega, ?_⟩
    rw [e]
    show 128 ≤ (UInt8.ofNat (128 + r % 64)).toNat
    omega
  by_cases c3 : r < 65536
  · have e : (Utf8.encode (r : Int)).data.toList = [UInt8.ofNat (224 + r / 4096), UInt8.ofNat (128 + r / 64 % 64), UInt8.ofNat (128 + r % 64)] := by simp [Utf8.encode, v, c1, c2, c3]
    refine ⟨2, hz _ e, by omega, by omega, ?_⟩
    rw [e]
    show 128 ≤ (UInt8.ofNat (128 + r % 64)).toNat
    omega
  · have e : (Utf8.encode (r : Int)).data.toList = [UInt8.ofNat (240 + r / 262144), UInt8.ofNat (128 + r / 4096 % 64), UInt8.ofNat (128 + r / 64 % 64), UInt8.ofNat (128 + r % 64)] := by simp [Utf8.encode, v, c1, c2, c3]
    refine ⟨3, hz _ e, by omega, by omega, ?_⟩
    rw [e]
    show 128 ≤ (UInt8.ofNat (128 + r % 64)).toNat
    omega

set_option maxHeartbeats 2000000 in
set_option maxRecDepth 100000 in
/-- U+FFFD itself. -/
theorem rune_bad (w : World) : Calls Try.prog 39 #[.string ends, .int .i32 65533] w fun e w' => e = .returned (.int .i64 (-1)) ∧ Upd w w' Nope := by
  have hz : ends.size = 3 := rfl
  go_enter Try.func39, Try.ntmps39
  go_wp2_with fail
  go_loopg [5, 6] 3 (fun gk _ _ wx => ∃ i : Nat, i + gk = 3 ∧ wx = w.iter ends i)
  case atStart => exact ⟨0, by omega, rfl⟩
  case round =>
    obtain ⟨i, hi, hwx⟩ := hrel
    cases gk with
    | zero =>
      obtain rfl : i = 3 := by omega
      have hnx := fun ty => run_next_end (P := Try.prog) w ends 3 ty (by decide)
      subst hwx
      go_wp2_with fail
      go_ret
      exact ⟨rfl, (Upd.refl _ _).alloc _⟩
    | succ g =>
      have hlt : i < 3 := by omega
      have hc : i = 0 ∨ i = 1 ∨ i = 2 := by omega
      rcases hc with rfl | rfl | rfl
      · have hnx := fun ty => run_next_ascii (P := Try.prog) w ends 0 ty (by decide) (by decide)
        subst hwx
        go_wp2_with fail
        go_roundg g
        case measure => omega
        case rel => exact ⟨1, by omega, rfl⟩
      · have hnx := fun ty => run_next_ascii (P := Try.prog) w ends 1 ty (by decide) (by decide)
        subst hwx
        go_wp2_with fail
        go_roundg g
        case measure => omega
        case rel => exact ⟨2, by omega, rfl⟩
      · have hnx := fun ty => run_next_ascii (P := Try.prog) w ends 2 ty (by decide) (by decide)
        subst hwx
        go_wp2_with fail
        go_roundg g
        case measure => omega
        case rel => exact ⟨3, by omega, rfl⟩

set_option maxHeartbeats 4000000 in
set_option maxRecDepth 100000 in
theorem rune_good (r k : Nat) (h : 128 ≤ r) (hr : r ≤ 1114111) (h3 : (((r : Int)) == 65533) = false) (hv : Lib.validRune (r : Int) = true) (w : World)
    (hsz : (Utf8.encode (r : Int)).size = k + 1) (hk1 : 1 ≤ k) (hk3 : k ≤ 3) (hl : 128 ≤ ((Utf8.encode (r : Int)).data.toList.getD k 0).toNat) :
    Calls Try.prog 39 #[.string ends, .int .i32 (r : Int)] w fun e w' => e = .returned (.int .i64 (-1)) ∧ Upd w w' Nope := by
  have hix := index_str (P := Try.prog) Try.underlying9 (Utf8.encode (r : Int)) (k : Int) k rfl (by omega)
  have hub : ((Utf8.encode (r : Int)).data.toList.getD k 0).toNat < 256 := (((Utf8.encode (r : Int)).data.toList.getD k 0)).toNat_lt
  have hb0 : decide ((r : Int) < 128) = false := by simp; omega
  have hub8 : (Utf8.encode (r : Int)).size ≤ maxLen := by unfold maxLen; omega
  have hv2 := Try.utf8_ValidRune (r : Int)
  rw [hv] at hv2
  have HV := Lib.hid hv2
  have HI := Lib.hid hix
  have hge : decide ((0 : Int) ≤ (r : Int)) = true := by simp
  generalize (Utf8.encode (r : Int)).data.toList.getD k 0 = x at hix hub hl HI
  have hx13 : (((13 : Int)) != (x.toNat : Int)) = true := by simp; omega
  have hx10 : (((10 : Int)) != (x.toNat : Int)) = true := by simp; omega
  have hkk : k = 1 ∨ k = 2 ∨ k = 3 := by omega
  have h3' := True.intro
  clear hv hv2 hix hub hk1 hk3
  rcases hkk with rfl | rfl | rfl
  · have hsl : ∀ W, (Instr.slice 9 (.string ends) (some (.int .i64 2)) none none).run Try.prog W = .ok (.string ⟨#[10]⟩) W := by
      intro W
      rw [run_slice_string_from_if (P := Try.prog) (w := W) 9 ends .i64 2 Try.underlying9]
      rfl
    have hI : ∀ W, Calls Try.prog 47 #[.string ⟨#[10]⟩, .int .u8 x.toNat] W fun e w' => e = .returned (.int .i64 (-1)) ∧ Drew W w' := by
      intro W
      refine (Try.strings_IndexByte _ _ W).mono ?_
      rintro e w' ⟨rfl, rfl⟩
      exact ⟨ret_eq (by have hx : ¬ ((x.toNat : Int)).toNat.toUInt8 = 10 := (by simp; intro e; rw [e] at hl; exact absurd hl (by decide)); simp [Lib.indexByte]; intro e; exact absurd e.symm (by simpa using hx)), Drew.refl _⟩
    clear hl h3'
    go_enter Try.func39, Try.ntmps39
    go_wp2_with fail
    refine (HV.out _).mono ?_
    rintro e w2 ⟨rfl, hw⟩
    obtain rfl : w = w2 := hw.symm
    have hcv : ∀ W, (convert 21 9 (.int .i32 (r : Int))).run Try.prog W = .ok (.string (Utf8.encode (r : Int))) W := fun W => run_convert_int_string W 21 9 .i32 r (by rw [Try.underlying21]; rfl) Try.underlying9
    clear h hr h3 hge hb0
    have hiy := HI.out
    rw [show (((1 : Nat) : Int)) = 1 from rfl] at hiy
    have i13 : ∀ W, (Instr.index 9 (.string ends) (.int .i64 1)).run Try.prog W = .ok (.int .u8 13) W := index_str (P := Try.prog) Try.underlying9 ends 1 1 rfl (by decide)
    go_wp2_with fail
    go_step3
    go_wp2_with fail
    go_loopg [9] 1 (fun gk i wx => i = .int .i64 1 ∧ wx = w)
    case atStart => exact ⟨rfl, rfl⟩
    case round =>
      obtain ⟨rfl, hwx⟩ := hrel
      obtain rfl : w = wr := hwx.symm
      go_wp2_with fail
      go_step3
      go_wp2_with fail
      go_region
      go_wp2_with fail
      have hdw : Drew w w.drew := Drew.one w
      generalize w.drew = w5 at hdw ⊢
      go_quiet ((go_at_call 47; exact Drew.quiet (hI _)))
      go_wp2_with fail
      try simp only [Exit.noGoto, Exit.inBlock, Exit.then]
      change bodyPost Try.prog Try.f39 _ Exit.ret _ _
      go_ret
      exact ⟨rfl, (hdw.upd _).dr ⟨_, rfl⟩⟩
  · have hsl : ∀ W, (Instr.slice 9 (.string ends) (some (.int .i64 3)) none none).run Try.prog W = .ok (.string ⟨#[]⟩) W := by
      intro W
      rw [run_slice_string_from_if (P := Try.prog) (w := W) 9 ends .i64 3 Try.underlying9]
      rfl
    have hI : ∀ W, Calls Try.prog 47 #[.string ⟨#[]⟩, .int .u8 x.toNat] W fun e w' => e = .returned (.int .i64 (-1)) ∧ Drew W w' := by
      intro W
      refine (Try.strings_IndexByte _ _ W).mono ?_
      rintro e w' ⟨rfl, rfl⟩
      exact ⟨ret_eq (by simp [Lib.indexByte]), Drew.refl _⟩
    clear hl h3'
    go_enter Try.func39, Try.ntmps39
    go_wp2_with fail
    refine (HV.out _).mono ?_
    rintro e w2 ⟨rfl, hw⟩
    obtain rfl : w = w2 := hw.symm
    have hcv : ∀ W, (convert 21 9 (.int .i32 (r : Int))).run Try.prog W = .ok (.string (Utf8.encode (r : Int))) W := fun W => run_convert_int_string W 21 9 .i32 r (by rw [Try.underlying21]; rfl) Try.underlying9
    clear h hr h3 hge hb0
    have hiy := HI.out
    rw [show (((2 : Nat) : Int)) = 2 from rfl] at hiy
    have i13 : ∀ W, (Instr.index 9 (.string ends) (.int .i64 2)).run Try.prog W = .ok (.int .u8 10) W := index_str (P := Try.prog) Try.underlying9 ends 2 2 rfl (by decide)
    go_wp2_with fail
    go_step3
    go_wp2_with fail
    go_loopg [9] 1 (fun gk i wx => i = .int .i64 2 ∧ wx = w)
    case atStart => exact ⟨rfl, rfl⟩
    case round =>
      obtain ⟨rfl, hwx⟩ := hrel
      obtain rfl : w = wr := hwx.symm
      go_wp2_with fail
      go_step3
      go_wp2_with fail
      go_region
      go_wp2_with fail
      have hdw : Drew w w.drew := Drew.one w
      generalize w.drew = w5 at hdw ⊢
      go_quiet ((go_at_call 47; exact Drew.quiet (hI _)))
      go_wp2_with fail
      try simp only [Exit.noGoto, Exit.inBlock, Exit.then]
      change bodyPost Try.prog Try.f39 _ Exit.ret _ _
      go_ret
      exact ⟨rfl, (hdw.upd _).dr ⟨_, rfl⟩⟩
  · clear hl h3' HI
    go_enter Try.func39, Try.ntmps39
    go_wp2_with fail
    refine (HV.out _).mono ?_
    rintro e w2 ⟨rfl, hw⟩
    obtain rfl : w = w2 := hw.symm
    have hcv : ∀ W, (convert 21 9 (.int .i32 (r : Int))).run Try.prog W = .ok (.string (Utf8.encode (r : Int))) W := fun W => run_convert_int_string W 21 9 .i32 r (by rw [Try.underlying21]; rfl) Try.underlying9
    clear h hr h3 hge hb0
    go_wp2_with fail
    go_step3
    go_wp2_with fail
    go_loopg [9] 1 (fun gk i wx => i = .int .i64 3 ∧ wx = w)
    case atStart => exact ⟨rfl, rfl⟩
    case round =>
      obtain ⟨rfl, hwx⟩ := hrel
      obtain rfl : w = wr := hwx.symm
      go_wp2_with fail
      try simp only [Exit.noGoto, Exit.inBlock, Exit.then]
      change bodyPost Try.prog Try.f39 _ Exit.ret _ _
      go_ret
      exact ⟨rfl, Upd.refl _ _⟩

set_option maxRecDepth 100000 in
/-- At any rune beyond 127. -/
theorem rune_any (r : Nat) (h : 128 ≤ r) (hr : r ≤ 1114111) (w : World) : Calls Try.prog 39 #[.string ends, .int .i32 (r : Int)] w fun e w' => e = .returned (.int .i64 (-1)) ∧ Upd w w' Nope := by
  by_cases h1 : r = 65533
  · subst h1
    exact rune_bad w
  · have h3 : (((r : Int)) == 65533) = false := by simp; omega
    cases hv : Lib.validRune (r : Int)
    · have hv2 := Try.utf8_ValidRune (r : Int)
      rw [hv] at hv2
      have HV := Lib.hid hv2
      have hge : decide ((0 : Int) ≤ (r : Int)) = true := by simp
      have hb0 : decide ((r : Int) < 128) = false := by simp; omega
      clear hv2 h1 h hr hv
      go_enter Try.func39, Try.ntmps39
      go_wp2_with fail
      refine (HV.out _).mono ?_
      rintro e w2 ⟨rfl, hw⟩
      obtain rfl : w = w2 := hw.symm
      go_wp2_with fail
      go_ret
      exact ⟨rfl, Upd.refl _ _⟩
    · obtain ⟨k, a, b, c, d⟩ := enc_last r h hr hv
      exact rune_good r k h hr h3 hv w a b c d
end Go.Proofs.Ytomfblnflobonaa
