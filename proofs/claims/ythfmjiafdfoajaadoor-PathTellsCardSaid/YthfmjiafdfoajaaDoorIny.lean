/- strings.IndexAny at the two signs, at any string. -/
import Derived.Test.YthfmjiafdfoajaaDoorQuo
import Derived.Laws.RangeAny
import Derived.Lib.OthersKept
import Derived.Lib.TrimU
import Derived.Laws.Runes
import Derived.WalkMore
set_option linter.unusedVariables false
set_option linter.unusedSimpArgs false
namespace Go.Proofs.YthfmjiafdfoajaaDoor
open Go.RowKit

/-- The two signs. -/
abbrev ends : ByteArray := ⟨#[64, 62]⟩

set_option maxRecDepth 100000 in
theorem enc_last (r : Nat) (h : 128 ≤ r) (hr : r ≤ 1114111) (hv : Lib.validRune (r : Int) = true) :
    ∃ k, (Utf8.encode (r : Int)).size = k + 1 ∧ 1 ≤ k ∧ k ≤ 3 ∧ 128 ≤ ((Utf8.encode (r : Int)).data.toList.getD k 0).toNat := by
  have hv' : r < 55296 ∨ 57344 ≤ r := by
    simp only [Lib.validRune, decide_eq_true_eq] at hv
    omega
  have v : Utf8.valid (r : Int) = true := by simp [Utf8.valid]; omega
  have hz : ∀ l : List UInt8, (Utf8.encode (r : Int)).data.toList = l → (Utf8.encode (r : Int)).size = l.length := by
    intro l hl
    rw [← hl]
    simp
  have c1 : ¬ r < 128 := by omega
  have hm : (UInt8.ofNat (128 + r % 64)).toNat = 128 + r % 64 := by simp; omega
  by_cases c2 : r < 2048
  · have e : (Utf8.encode (r : Int)).data.toList = [UInt8.ofNat (192 + r / 64), UInt8.ofNat (128 + r % 64)] := by simp [Utf8.encode, v, c1, c2]
    refine ⟨1, hz _ e, by omega, by omega, ?_⟩
    rw [e]
    show 128 ≤ (UInt8.ofNat (128 + r % 64)).toNat
    omega
  by_cases c3 : r < 65536
  · have e : (Utf8.encode (r : Int)).data.toList = [UInt8.ofNat (224 + r / 4096), UInt8.ofNat (128 + r / 64 % 64), UInt8.ofNat (128 + r % 64)] := by simp [Utf8.encode, v, c1, c2, c3]
    refine ⟨2, hz _ e, by omega, by omega, ?_⟩
    rw [e]
    show 128 ≤ (UInt8.ofNat (128 + r % 64)).toNat
    omega
  · have e : (Utf8.encode (r : Int)).data.toList = [UInt8.ofNat (240 + r / 262144), UInt8.ofNat (128 + r / 4096 % 64), UInt8.ofNat (128 + r / 64 % 64), UInt8.ofNat (128 + r % 64)] := by simp [Utf8.encode, v, c1, c2, c3]
    refine ⟨3, hz _ e, by omega, by omega, ?_⟩
    rw [e]
    show 128 ≤ (UInt8.ofNat (128 + r % 64)).toNat
    omega

set_option maxHeartbeats 2000000 in
set_option maxRecDepth 100000 in
/-- U+FFFD itself. -/
theorem rune_bad (w : World) : Calls Tryd.prog 44 #[.string ends, .int .i32 65533] w fun e w' => e = .returned (.int .i64 (-1)) ∧ Upd w w' Nope := by
  have hz : ends.size = 2 := rfl
  go_enter Tryd.func44, Tryd.ntmps44
  go_wp2_with fail
  go_loopg [5, 6] 2 (fun gk _ _ wx => ∃ i : Nat, i + gk = 2 ∧ wx = w.iter ends i)
  case atStart => exact ⟨0, by omega, rfl⟩
  case round =>
    obtain ⟨i, hi, hwx⟩ := hrel
    cases gk with
    | zero =>
      obtain rfl : i = 2 := by omega
      have hnx := fun ty => run_next_end (P := Tryd.prog) w ends 2 ty (by decide)
      subst hwx
      go_wp2_with fail
      go_ret
      exact ⟨rfl, (Upd.refl _ _).alloc _⟩
    | succ g =>
      have hlt : i < 2 := by omega
      have hc : i = 0 ∨ i = 1 := by omega
      rcases hc with rfl | rfl
      · have hnx := fun ty => run_next_ascii (P := Tryd.prog) w ends 0 ty (by decide) (by decide)
        subst hwx
        go_wp2_with fail
        go_roundg g
        case measure => omega
        case rel => exact ⟨1, by omega, rfl⟩
      · have hnx := fun ty => run_next_ascii (P := Tryd.prog) w ends 1 ty (by decide) (by decide)
        subst hwx
        go_wp2_with fail
        go_roundg g
        case measure => omega
        case rel => exact ⟨2, by omega, rfl⟩

set_option maxHeartbeats 4000000 in
set_option maxRecDepth 100000 in
theorem rune_good (r k : Nat) (h : 128 ≤ r) (hr : r ≤ 1114111) (h3 : (((r : Int)) == 65533) = false) (hv : Lib.validRune (r : Int) = true) (w : World)
    (hsz : (Utf8.encode (r : Int)).size = k + 1) (hk1 : 1 ≤ k) (hk3 : k ≤ 3) (hl : 128 ≤ ((Utf8.encode (r : Int)).data.toList.getD k 0).toNat) :
    Calls Tryd.prog 44 #[.string ends, .int .i32 (r : Int)] w fun e w' => e = .returned (.int .i64 (-1)) ∧ Upd w w' Nope := by
  have hix := index_str (P := Tryd.prog) Tryd.underlying9 (Utf8.encode (r : Int)) (k : Int) k rfl (by omega)
  have hub : ((Utf8.encode (r : Int)).data.toList.getD k 0).toNat < 256 := (((Utf8.encode (r : Int)).data.toList.getD k 0)).toNat_lt
  have hb0 : decide ((r : Int) < 128) = false := by simp; omega
  have hub8 : (Utf8.encode (r : Int)).size ≤ maxLen := by unfold maxLen; omega
  have hv2 := Tryd.utf8_ValidRune (r : Int)
  rw [hv] at hv2
  have HV := Lib.hid hv2
  have HI := Lib.hid hix
  have hge : decide ((0 : Int) ≤ (r : Int)) = true := by simp
  generalize (Utf8.encode (r : Int)).data.toList.getD k 0 = x at hix hub hl HI
  have hx13 : (((62 : Int)) != (x.toNat : Int)) = true := by simp; omega
  have hkk : k = 1 ∨ k = 2 ∨ k = 3 := by omega
  have h3' := True.intro
  clear hv hv2 hix hub hk1 hk3
  rcases hkk with rfl | rfl | rfl
  · have hsl : ∀ W, (Instr.slice 9 (.string ends) (some (.int .i64 2)) none none).run Tryd.prog W = .ok (.string ⟨#[]⟩) W := by
      intro W
      rw [run_slice_string_from_if (P := Tryd.prog) (w := W) 9 ends .i64 2 Tryd.underlying9]
      rfl
    have hI : ∀ W, Calls Tryd.prog 40 #[.string ⟨#[]⟩, .int .u8 x.toNat] W fun e w' => e = .returned (.int .i64 (-1)) ∧ Drew W w' := by
      intro W
      refine (Tryd.strings_IndexByte _ _ W).mono ?_
      rintro e w' ⟨rfl, rfl⟩
      exact ⟨ret_eq (by simp [Lib.indexByte]), Drew.refl _⟩
    clear hl h3'
    go_enter Tryd.func44, Tryd.ntmps44
    go_wp2_with fail
    refine (HV.out _).mono ?_
    rintro e w2 ⟨rfl, hw⟩
    obtain rfl : w = w2 := hw.symm
    have hcv : ∀ W, (convert 21 9 (.int .i32 (r : Int))).run Tryd.prog W = .ok (.string (Utf8.encode (r : Int))) W := fun W => run_convert_int_string W 21 9 .i32 r (by rw [Tryd.underlying21]; rfl) Tryd.underlying9
    clear h hr h3 hge hb0
    have hiy := HI.out
    rw [show (((1 : Nat) : Int)) = 1 from rfl] at hiy
    have i13 : ∀ W, (Instr.index 9 (.string ends) (.int .i64 1)).run Tryd.prog W = .ok (.int .u8 62) W := index_str (P := Tryd.prog) Tryd.underlying9 ends 1 1 rfl (by decide)
    go_wp2_with fail
    go_step3
    go_wp2_with fail
    go_loopg [9] 1 (fun gk i wx => i = .int .i64 1 ∧ wx = w)
    case atStart => exact ⟨rfl, rfl⟩
    case round =>
      obtain ⟨rfl, hwx⟩ := hrel
      obtain rfl : w = wr := hwx.symm
      go_wp2_with fail
      go_step3
      go_wp2_with fail
      go_region
      go_wp2_with fail
      have hdw : Drew w w.drew := Drew.one w
      generalize w.drew = w5 at hdw ⊢
      go_quiet ((go_at_call 40; exact Drew.quiet (hI _)))
      go_wp2_with fail
      try simp only [Exit.noGoto, Exit.inBlock, Exit.then]
      change bodyPost Tryd.prog Tryd.f44 _ Exit.ret _ _
      go_ret
      exact ⟨rfl, (hdw.upd _).dr ⟨_, rfl⟩⟩
  · clear hl h3' HI
    go_enter Tryd.func44, Tryd.ntmps44
    go_wp2_with fail
    refine (HV.out _).mono ?_
    rintro e w2 ⟨rfl, hw⟩
    obtain rfl : w = w2 := hw.symm
    have hcv : ∀ W, (convert 21 9 (.int .i32 (r : Int))).run Tryd.prog W = .ok (.string (Utf8.encode (r : Int))) W := fun W => run_convert_int_string W 21 9 .i32 r (by rw [Tryd.underlying21]; rfl) Tryd.underlying9
    clear h hr h3 hge hb0
    go_wp2_with fail
    go_step3
    go_wp2_with fail
    go_loopg [9] 1 (fun gk i wx => i = .int .i64 2 ∧ wx = w)
    case atStart => exact ⟨rfl, rfl⟩
    case round =>
      obtain ⟨rfl, hwx⟩ := hrel
      obtain rfl : w = wr := hwx.symm
      go_wp2_with fail
      try simp only [Exit.noGoto, Exit.inBlock, Exit.then]
      change bodyPost Tryd.prog Tryd.f44 _ Exit.ret _ _
      go_ret
      exact ⟨rfl, Upd.refl _ _⟩
  · clear hl h3' HI
    go_enter Tryd.func44, Tryd.ntmps44
    go_wp2_with fail
    refine (HV.out _).mono ?_
    rintro e w2 ⟨rfl, hw⟩
    obtain rfl : w = w2 := hw.symm
    have hcv : ∀ W, (convert 21 9 (.int .i32 (r : Int))).run Tryd.prog W = .ok (.string (Utf8.encode (r : Int))) W := fun W => run_convert_int_string W 21 9 .i32 r (by rw [Tryd.underlying21]; rfl) Tryd.underlying9
    clear h hr h3 hge hb0
    go_wp2_with fail
    go_step3
    go_wp2_with fail
    go_loopg [9] 1 (fun gk i wx => i = .int .i64 3 ∧ wx = w)
    case atStart => exact ⟨rfl, rfl⟩
    case round =>
      obtain ⟨rfl, hwx⟩ := hrel
      obtain rfl : w = wr := hwx.symm
      go_wp2_with fail
      try simp only [Exit.noGoto, Exit.inBlock, Exit.then]
      change bodyPost Tryd.prog Tryd.f44 _ Exit.ret _ _
      go_ret
      exact ⟨rfl, Upd.refl _ _⟩

set_option maxRecDepth 100000 in
/-- At any rune beyond 127. -/
theorem rune_any (r : Nat) (h : 128 ≤ r) (hr : r ≤ 1114111) (w : World) : Calls Tryd.prog 44 #[.string ends, .int .i32 (r : Int)] w fun e w' => e = .returned (.int .i64 (-1)) ∧ Upd w w' Nope := by
  by_cases h1 : r = 65533
  · subst h1
    exact rune_bad w
  · have h3 : (((r : Int)) == 65533) = false := by simp; omega
    cases hv : Lib.validRune (r : Int)
    · have hv2 := Tryd.utf8_ValidRune (r : Int)
      rw [hv] at hv2
      have HV := Lib.hid hv2
      have hge : decide ((0 : Int) ≤ (r : Int)) = true := by simp
      have hb0 : decide ((r : Int) < 128) = false := by simp; omega
      clear hv2 h1 h hr hv
      go_enter Tryd.func44, Tryd.ntmps44
      go_wp2_with fail
      refine (HV.out _).mono ?_
      rintro e w2 ⟨rfl, hw⟩
      obtain rfl : w = w2 := hw.symm
      go_wp2_with fail
      go_ret
      exact ⟨rfl, Upd.refl _ _⟩
    · obtain ⟨k, a, b, c, d⟩ := enc_last r h hr hv
      exact rune_good r k h hr h3 hv w a b c d
theorem contains_ends (x : UInt8) : ends.data.toList.contains x = (x == 64 || x == 62) := by
  show [64, 62].contains x = _
  simp only [List.contains_cons, List.contains_nil, Bool.or_false]
theorem decodeN_high (n b0 b1 b2 b3 : Nat) : (b0 < 128 ∧ Lib.decodeN n b0 b1 b2 b3 = (b0, 1)) ∨ (128 ≤ b0 ∧ 128 ≤ (Lib.decodeN n b0 b1 b2 b3).1 ∧ (Lib.decodeN n b0 b1 b2 b3).2 ≤ 4 ∧ (2 ≤ (Lib.decodeN n b0 b1 b2 b3).2 → 128 ≤ b1) ∧ (3 ≤ (Lib.decodeN n b0 b1 b2 b3).2 → 128 ≤ b2) ∧ (4 ≤ (Lib.decodeN n b0 b1 b2 b3).2 → 128 ≤ b3)) := by
  by_cases h : b0 < 128
  · exact .inl ⟨h, by simp [Lib.decodeN, h]⟩
  · refine .inr ⟨by omega, ?_⟩
    unfold Lib.decodeN
    repeat' split
    all_goals simp_all
    all_goals omega
theorem get_get (s : ByteArray) (j : Nat) (b : UInt8) (h : s.data.toList[j]? = some b) : s.get! j = b := by
  obtain ⟨hj, e⟩ := List.getElem?_eq_some_iff.1 h
  have hj' : j < s.size := by simpa using hj
  have := Go.get_at s j hj'
  rw [Nat.add_zero] at this
  rw [this, ← e]
  rfl
theorem ends_big (b : UInt8) (h : 128 ≤ b.toNat) : ends.data.toList.contains b = false := by
  rw [contains_ends]
  have h1 : b ≠ 64 := by rintro rfl; revert h; decide
  have h2 : b ≠ 62 := by rintro rfl; revert h; decide
  simp [h1, h2]
/-- What the next rune is: a byte below 128, or a rune beyond; of its bytes none is one of the three. -/
theorem decode_cases (s : ByteArray) (i : Nat) (x : UInt8) (hx : s.data.toList[i]? = some x) (hno : Lib.NoAny s.data.toList ends.data.toList i) :
    (x.toNat < 128 ∧ Utf8.decode s i = (x.toNat, 1)) ∨ (128 ≤ (Utf8.decode s i).1 ∧ (Utf8.decode s i).1 ≤ 1114111 ∧ 1 ≤ (Utf8.decode s i).2 ∧ Lib.NoAny s.data.toList ends.data.toList (i + (Utf8.decode s i).2)) := by
  have hr := Lib.rune_le s i
  have hw := Lib.width_pos s i
  rw [Lib.decode_at] at hr hw ⊢
  rw [get_get s i x hx] at hr hw ⊢
  rcases decodeN_high (s.size - i) x.toNat (s.get! (i + 1)).toNat (s.get! (i + 2)).toNat (s.get! (i + 3)).toNat with ⟨h1, h2⟩ | ⟨h1, h2, h3, h4, h5, h6⟩
  · exact .inl ⟨h1, h2⟩
  · refine .inr ⟨h2, hr, hw, ?_⟩
    generalize (Lib.decodeN (s.size - i) x.toNat (s.get! (i + 1)).toNat (s.get! (i + 2)).toNat (s.get! (i + 3)).toNat).2 = k at h3 h4 h5 h6 hw ⊢
    intro j b hj hb
    by_cases hji : j < i
    · exact hno j b hji hb
    · apply ends_big
      have hg := get_get s j b hb
      have hc : j = i ∨ j = i + 1 ∨ j = i + 2 ∨ j = i + 3 := by omega
      rcases hc with rfl | rfl | rfl | rfl
      · rw [hx] at hb
        injection hb with hb
        rw [← hb]
        exact h1
      · rw [hg] at h4
        exact h4 (by omega)
      · rw [hg] at h5
        exact h5 (by omega)
      · rw [hg] at h6
        exact h6 (by omega)

set_option maxHeartbeats 8000000 in
set_option maxRecDepth 1000000 in
/-- strings.IndexAny at the three bytes, s of at most 8 bytes, whatever these. -/
theorem indexAny_short (s : ByteArray) (w : World) (h8 : s.size ≤ 8) (r : Int) (hr : Lib.indexAny s.data.toList ends.data.toList = r) :
    Calls Tryd.prog 27 #[.string s, .string ends] w fun e w' => e = .returned (.int .i64 r) ∧ Upd w w' Nope := by
  have HR := Lib.hid hr
  clear hr
  have hemp : ends.toList.isEmpty = false := by decide +kernel
  have hn1 : ((ends.size : Int) == 1) = false := by decide
  have h8z : decide ((8 : Int) < (s.size : Int)) = false := decide_eq_false (by omega)
  have hlen : s.data.toList.length = s.size := by simp
  clear h8
  go_enter Tryd.func27, Tryd.ntmps27
  go_wp2_with (go_at_call 45; refine (Tryd.strings_shouldUseASCIISet _ _).mono ?_; rintro e w' ⟨rfl, hw⟩; rw [hw, h8z])
  go_loopg [9, 10] s.size (fun g _ _ wx => ∃ i : Nat, s.size ≤ i + g ∧ wx.heap[w.heap.size]? = some (.stringIter s i) ∧ Upd w wx Nope ∧ Lib.NoAny s.data.toList ends.data.toList i)
  case atStart => exact ⟨0, by omega, World.iter_heap w s 0, (Upd.refl _ _).alloc _, Lib.NoAny.zero _ _⟩
  case round =>
    obtain ⟨i, hig, hit, hup, hno⟩ := hrel
    by_cases hlt : i < s.size
    · obtain ⟨g, rfl⟩ : ∃ g, gk = g + 1 := ⟨gk - 1, by omega⟩
      obtain ⟨x, hx⟩ : ∃ x : UInt8, s.data.toList[i]? = some x := ⟨_, List.getElem?_eq_getElem (by rw [hlen]; exact hlt)⟩
      have hnx : ∀ ty, (Instr.next (.pointer (some ⟨w.heap.size, 0, none⟩)) true ty).run Tryd.prog wr = _ := fun ty => Lib.run_next_any_at wr w.heap.size s i ty hit hlt
      have hcs := decode_cases s i x hx hno
      obtain ⟨R, hR⟩ : ∃ R, (Utf8.decode s i).1 = R := ⟨_, rfl⟩
      obtain ⟨K, hK⟩ : ∃ K, (Utf8.decode s i).2 = K := ⟨_, rfl⟩
      rw [hR, hK] at hnx
      have hit2 := Lib.iterAt_heap wr w.heap.size s i (i + K) hit
      have hup2 : Upd w (wr.iterAt w.heap.size s (i + K)) Nope := hup.on (g := w.heap.size) ⟨rfl, rfl, rfl, by simp [World.iterAt], fun k hk hn => by
        simp only [World.iterAt]
        rw [Array.getElem?_setIfInBounds]
        rw [if_neg (fun e => hn e.symm)]⟩ (Nat.le_refl _)
      generalize wr.iterAt w.heap.size s (i + K) = W at hnx hit2 hup2
      rcases hcs with ⟨h1, h2⟩ | ⟨h1, h2, h3, h4⟩
      · have hr : R = x.toNat := by rw [← hR, h2]
        have hk : K = 1 := by rw [← hK, h2]
        subst hr hk
        have hcon := Lib.contains_iff_indexByte ends.data.toList x
        have hC : ∀ w, Calls Tryd.prog 44 #[.string ends, .int .i32 (x.toNat : Int)] w fun e w' => e = .returned (.int .i64 (Lib.indexByte ends.data.toList x)) ∧ w' = w := by
          intro w
          have := Tryd.strings_IndexRune_ascii ends (x.toNat : Int) w (by omega) (by omega)
          simpa using this
        cases hin : ends.data.toList.contains x
        · rw [hin] at hcon
          have hlt0 : decide ((0 : Int) ≤ Lib.indexByte ends.data.toList x) = false := hcon.symm
          have hno2 := Lib.hid (hno.succ hx hin)
          have HC := Lib.hid hC
          generalize Lib.indexByte ends.data.toList x = q at HC hlt0
          clear hno hcon hin hC hR hK h2 hx h1 hit
          go_wp2_with fail
          refine (HC.out _).mono ?_
          rintro e w2 ⟨rfl, hw2⟩
          obtain rfl : W = w2 := hw2.symm
          go_wp2_with fail
          go_roundg g
          case measure => omega
          case rel => exact ⟨i + 1, by omega, hit2, hup2, hno2.out⟩
        · rw [hin] at hcon
          have hlt0 : decide ((0 : Int) ≤ Lib.indexByte ends.data.toList x) = true := hcon.symm
          have hfin : Lib.indexAny s.data.toList ends.data.toList = i := Lib.indexAny_hit hno hx hin
          have HF := Lib.hid hfin
          have HC := Lib.hid hC
          generalize Lib.indexByte ends.data.toList x = q at HC hlt0
          clear hno hcon hin hC hR hK h2 hx h1 hit hfin
          go_wp2_with fail
          refine (HC.out _).mono ?_
          rintro e w2 ⟨rfl, hw2⟩
          obtain rfl : W = w2 := hw2.symm
          go_wp2_with fail
          go_ret
          exact ⟨ret_eq (by rw [← HR.out, HF.out]; rfl), hup2⟩
      · have hC := rune_any R (by omega) (by omega) W
        rw [hK] at h3 h4
        have hno2 := Lib.hid h4
        have HC := Lib.hid hC
        clear hno hC hR hK h1 h2 h4 hx hit
        go_wp2_with fail
        refine HC.out.mono ?_
        rintro e w2 ⟨rfl, hw2⟩
        go_wp2_with fail
        go_roundg g
        case measure => omega
        case rel => exact ⟨i + K, by omega, hw2.blk hit2 id, hup2.nn hw2, hno2.out⟩
    · have hnx : ∀ ty, (Instr.next (.pointer (some ⟨w.heap.size, 0, none⟩)) true ty).run Tryd.prog wr = _ := fun ty => Lib.run_next_end_at wr w.heap.size s i ty hit hlt
      have hfin : Lib.indexAny s.data.toList ends.data.toList = -1 := Lib.indexAny_none (fun j b hj hb => hno j b (by omega) hb)
      have HF := Lib.hid hfin
      clear hno hfin
      go_wp2
      go_ret
      exact ⟨ret_eq (by rw [← HR.out, HF.out]; rfl), hup⟩


theorem zero77 : (Tryd.prog.info? 77).map (fun i => (i.zero, i.size)) = some (some (.agg (Array.replicate 256 (.bool false))), 256) := by kernel_rfl
theorem indexAny_any (s : ByteArray) (w : World) (hs : s.size < 4294967281) : Calls Tryd.prog 27 #[.string s, .string ends] w fun e w' => e = .returned (.int .i64 (Lib.indexAny s.data.toList ends.data.toList)) ∧ Upd w w' Nope := by
  by_cases h8 : s.size ≤ 8
  · exact indexAny_short s w h8 _ rfl
  · refine (Tryd.strings_IndexAny_long (zero_of_info zero77).1 s ends w (by decide) (by omega) hs (by decide) ?_).mono ?_
    · intro j b hb
      have : b ∈ ends.data.toList := List.mem_of_getElem? hb
      revert this
      simp
      rintro (rfl | rfl) <;> decide
    · rintro e w' ⟨rfl, rfl⟩
      exact ⟨rfl, ((Upd.refl _ _).alloc _).alloc _⟩
end Go.Proofs.YthfmjiafdfoajaaDoor
