/- line.Plain, the reference's Plain. -/
import Derived.Test.YtomfblnflobonaaRune
import Derived.Test.YtomfblnflobonaaLaw
set_option linter.unusedVariables false
set_option linter.unusedSimpArgs false
namespace Go.Proofs.Ytomfblnflobonaa
open Go.RowKit

theorem contains_ends (x : UInt8) : ends.data.toList.contains x = (x == 0 || x == 10 || x == 13) := by
  show [0, 13, 10].contains x = _
  simp only [List.contains_cons, List.contains_nil, Bool.or_false]
  cases h1 : x == 0 <;> cases h2 : x == 10 <;> cases h3 : x == 13 <;> simp_all
theorem plain_noAny (s : ByteArray) : (∀ i, i ≤ s.size → True) → (plainL s.data.toList = true ↔ Lib.NoAny s.data.toList ends.data.toList s.data.toList.length) := by
  intro _
  unfold plainL Lib.NoAny
  rw [List.all_eq_true]
  constructor
  · intro h j b hj hb
    have := h b (List.mem_of_getElem? hb)
    rw [contains_ends]
    simpa using this
  · intro h b hb
    obtain ⟨j, hj, e⟩ := List.getElem_of_mem hb
    have := h j b hj (by rw [List.getElem?_eq_getElem hj, e])
    rw [contains_ends] at this
    simp [this]

theorem decodeN_high (n b0 b1 b2 b3 : Nat) : (b0 < 128 ∧ Lib.decodeN n b0 b1 b2 b3 = (b0, 1)) ∨ (128 ≤ b0 ∧ 128 ≤ (Lib.decodeN n b0 b1 b2 b3).1 ∧ (Lib.decodeN n b0 b1 b2 b3).2 ≤ 4 ∧ (2 ≤ (Lib.decodeN n b0 b1 b2 b3).2 → 128 ≤ b1) ∧ (3 ≤ (Lib.decodeN n b0 b1 b2 b3).2 → 128 ≤ b2) ∧ (4 ≤ (Lib.decodeN n b0 b1 b2 b3).2 → 128 ≤ b3)) := by
  by_cases h : b0 < 128
  · exact .inl ⟨h, by simp [Lib.decodeN, h]⟩
  · refine .inr ⟨by omega, ?_⟩
    unfold Lib.decodeN
    repeat' split
    all_goals simp_all
    all_goals omega
theorem get_get (s : ByteArray) (j : Nat) (b : UInt8) (h : s.data.toList[j]? = some b) : s.get! j = b := by
  obtain ⟨hj, e⟩ := List.getElem?_eq_some_iff.1 h
  have hj' : j < s.size := by simpa using hj
  have := Go.get_at s j hj'
  rw [Nat.add_zero] at this
  rw [this, ← e]
  rfl
theorem ends_big (b : UInt8) (h : 128 ≤ b.toNat) : ends.data.toList.contains b = false := by
  rw [contains_ends]
  have h0 : b ≠ 0 := by rintro rfl; revert h; decide
  have h1 : b ≠ 10 := by rintro rfl; revert h; decide
  have h2 : b ≠ 13 := by rintro rfl; revert h; decide
  simp [h0, h1, h2]
/-- What the next rune is: a byte below 128, or a rune beyond; of its bytes none is one of the three. -/
theorem decode_cases (s : ByteArray) (i : Nat) (x : UInt8) (hx : s.data.toList[i]? = some x) (hno : Lib.NoAny s.data.toList ends.data.toList i) :
    (x.toNat < 128 ∧ Utf8.decode s i = (x.toNat, 1)) ∨ (128 ≤ (Utf8.decode s i).1 ∧ (Utf8.decode s i).1 ≤ 1114111 ∧ 1 ≤ (Utf8.decode s i).2 ∧ Lib.NoAny s.data.toList ends.data.toList (i + (Utf8.decode s i).2)) := by
  have hr := Lib.rune_le s i
  have hw := Lib.width_pos s i
  rw [Lib.decode_at] at hr hw ⊢
  rw [get_get s i x hx] at hr hw ⊢
  rcases decodeN_high (s.size - i) x.toNat (s.get! (i + 1)).toNat (s.get! (i + 2)).toNat (s.get! (i + 3)).toNat with ⟨h1, h2⟩ | ⟨h1, h2, h3, h4, h5, h6⟩
  · exact .inl ⟨h1, h2⟩
  · refine .inr ⟨h2, hr, hw, ?_⟩
    generalize (Lib.decodeN (s.size - i) x.toNat (s.get! (i + 1)).toNat (s.get! (i + 2)).toNat (s.get! (i + 3)).toNat).2 = k at h3 h4 h5 h6 hw ⊢
    intro j b hj hb
    by_cases hji : j < i
    · exact hno j b hji hb
    · apply ends_big
      have hg := get_get s j b hb
      have hc : j = i ∨ j = i + 1 ∨ j = i + 2 ∨ j = i + 3 := by omega
      rcases hc with rfl | rfl | rfl | rfl
      · rw [hx] at hb
        injection hb with hb
        rw [← hb]
        exact h1
      · rw [hg] at h4
        exact h4 (by omega)
      · rw [hg] at h5
        exact h5 (by omega)
      · rw [hg] at h6
        exact h6 (by omega)

set_option maxHeartbeats 8000000 in
set_option maxRecDepth 1000000 in
/-- strings.IndexAny at the three bytes, s of at most 8 bytes, whatever these. -/
theorem indexAny_short (s : ByteArray) (w : World) (h8 : s.size ≤ 8) (r : Int) (hr : Lib.indexAny s.data.toList ends.data.toList = r) :
    Calls Try.prog 36 #[.string s, .string ends] w fun e w' => e = .returned (.int .i64 r) ∧ Upd w w' Nope := by
  have HR := Lib.hid hr
  clear hr
  have hemp : ends.toList.isEmpty = false := by decide +kernel
  have hn1 : ((ends.size : Int) == 1) = false := by decide
  have h8z : decide ((8 : Int) < (s.size : Int)) = false := decide_eq_false (by omega)
  have hlen : s.data.toList.length = s.size := by simp
  clear h8
  go_enter Try.func36, Try.ntmps36
  go_wp2_with (go_at_call 40; refine (Try.strings_shouldUseASCIISet _ _).mono ?_; rintro e w' ⟨rfl, hw⟩; rw [hw, h8z])
  go_loopg [9, 10] s.size (fun g _ _ wx => ∃ i : Nat, s.size ≤ i + g ∧ wx.heap[w.heap.size]? = some (.stringIter s i) ∧ Upd w wx Nope ∧ Lib.NoAny s.data.toList ends.data.toList i)
  case atStart => exact ⟨0, by omega, World.iter_heap w s 0, (Upd.refl _ _).alloc _, Lib.NoAny.zero _ _⟩
  case round =>
    obtain ⟨i, hig, hit, hup, hno⟩ := hrel
    by_cases hlt : i < s.size
    · obtain ⟨g, rfl⟩ : ∃ g, gk = g + 1 := ⟨gk - 1, by omega⟩
      obtain ⟨x, hx⟩ : ∃ x : UInt8, s.data.toList[i]? = some x := ⟨_, List.getElem?_eq_getElem (by rw [hlen]; exact hlt)⟩
      have hnx : ∀ ty, (Instr.next (.pointer (some ⟨w.heap.size, 0, none⟩)) true ty).run Try.prog wr = _ := fun ty => Lib.run_next_any_at wr w.heap.size s i ty hit hlt
      have hcs := decode_cases s i x hx hno
      obtain ⟨R, hR⟩ : ∃ R, (Utf8.decode s i).1 = R := ⟨_, rfl⟩
      obtain ⟨K, hK⟩ : ∃ K, (Utf8.decode s i).2 = K := ⟨_, rfl⟩
      rw [hR, hK] at hnx
      have hit2 := Lib.iterAt_heap wr w.heap.size s i (i + K) hit
      have hup2 : Upd w (wr.iterAt w.heap.size s (i + K)) Nope := hup.on (g := w.heap.size) ⟨rfl, rfl, rfl, by simp [World.iterAt], fun k hk hn => by
        simp only [World.iterAt]
        rw [Array.getElem?_setIfInBounds]
        rw [if_neg (fun e => hn e.symm)]⟩ (Nat.le_refl _)
      generalize wr.iterAt w.heap.size s (i + K) = W at hnx hit2 hup2
      rcases hcs with ⟨h1, h2⟩ | ⟨h1, h2, h3, h4⟩
      · have hr : R = x.toNat := by rw [← hR, h2]
        have hk : K = 1 := by rw [← hK, h2]
        subst hr hk
        have hcon := Lib.contains_iff_indexByte ends.data.toList x
        have hC : ∀ w, Calls Try.prog 39 #[.string ends, .int .i32 (x.toNat : Int)] w fun e w' => e = .returned (.int .i64 (Lib.indexByte ends.data.toList x)) ∧ w' = w := by
          intro w
          have := Try.strings_IndexRune_ascii ends (x.toNat : Int) w (by omega) (by omega)
          simpa using this
        cases hin : ends.data.toList.contains x
        · rw [hin] at hcon
          have hlt0 : decide ((0 : Int) ≤ Lib.indexByte ends.data.toList x) = false := hcon.symm
          have hno2 := Lib.hid (hno.succ hx hin)
          have HC := Lib.hid hC
          generalize Lib.indexByte ends.data.toList x = q at HC hlt0
          clear hno hcon hin hC hR hK h2 hx h1 hit
          go_wp2_with fail
          refine (HC.out _).mono ?_
          rintro e w2 ⟨rfl, hw2⟩
          obtain rfl : W = w2 := hw2.symm
          go_wp2_with fail
          go_roundg g
          case measure => omega
          case rel => exact ⟨i + 1, by omega, hit2, hup2, hno2.out⟩
        · rw [hin] at hcon
          have hlt0 : decide ((0 : Int) ≤ Lib.indexByte ends.data.toList x) = true := hcon.symm
          have hfin : Lib.indexAny s.data.toList ends.data.toList = i := Lib.indexAny_hit hno hx hin
          have HF := Lib.hid hfin
          have HC := Lib.hid hC
          generalize Lib.indexByte ends.data.toList x = q at HC hlt0
          clear hno hcon hin hC hR hK h2 hx h1 hit hfin
          go_wp2_with fail
          refine (HC.out _).mono ?_
          rintro e w2 ⟨rfl, hw2⟩
          obtain rfl : W = w2 := hw2.symm
          go_wp2_with fail
          go_ret
          exact ⟨ret_eq (by rw [← HR.out, HF.out]; rfl), hup2⟩
      · have hC := rune_any R (by omega) (by omega) W
        rw [hK] at h3 h4
        have hno2 := Lib.hid h4
        have HC := Lib.hid hC
        clear hno hC hR hK h1 h2 h4 hx hit
        go_wp2_with fail
        refine HC.out.mono ?_
        rintro e w2 ⟨rfl, hw2⟩
        go_wp2_with fail
        go_roundg g
        case measure => omega
        case rel => exact ⟨i + K, by omega, hw2.blk hit2 id, hup2.nn hw2, hno2.out⟩
    · have hnx : ∀ ty, (Instr.next (.pointer (some ⟨w.heap.size, 0, none⟩)) true ty).run Try.prog wr = _ := fun ty => Lib.run_next_end_at wr w.heap.size s i ty hit hlt
      have hfin : Lib.indexAny s.data.toList ends.data.toList = -1 := Lib.indexAny_none (fun j b hj hb => hno j b (by omega) hb)
      have HF := Lib.hid hfin
      clear hno hfin
      go_wp2
      go_ret
      exact ⟨ret_eq (by rw [← HR.out, HF.out]; rfl), hup⟩

theorem plain_indexL (c : List UInt8) (hc : ∀ x : UInt8, c.contains x = (x == 0 || x == 10 || x == 13)) : ∀ l, decide ((0 : Int) ≤ Lib.indexAny l c) = !plainL l
  | [] => by simp [Lib.indexAny, plainL]
  | b :: l => by
    have ih := plain_indexL c hc l
    have hg := Lib.indexAny_ge c l
    have e : plainL (b :: l) = (!(b == 0 || b == 10 || b == 13) && plainL l) := rfl
    rw [e, Lib.indexAny, hc b]
    cases hb : (b == 0 || b == 10 || b == 13)
    · simp only [Bool.not_false, Bool.true_and, Bool.false_eq_true, if_false]
      rw [← ih]
      split
      · rename_i h
        simp at h
        rw [h]
      · rename_i h
        simp at h
        rw [decide_eq_decide]
        omega
    · simp
theorem plain_index (s : ByteArray) : decide ((0 : Int) ≤ Lib.indexAny s.data.toList ends.data.toList) = !plainL s.data.toList := plain_indexL _ contains_ends _

theorem zero79 : (Try.prog.info? 79).map (fun i => (i.zero, i.size)) = some (some (.agg (Array.replicate 256 (.bool false))), 256) := by kernel_rfl
theorem contains_any (s : ByteArray) (w : World) (hs : s.size ≤ 1000000) : Calls Try.prog 31 #[.string s, .string ends] w fun e w' => e = .returned (.bool (!plainL s.data.toList)) ∧ Upd w w' Nope := by
  have hC : ∀ w, Calls Try.prog 36 #[.string s, .string ends] w fun e w' => e = .returned (.int .i64 (Lib.indexAny s.data.toList ends.data.toList)) ∧ Upd w w' Nope := by
    intro w
    by_cases h8 : s.size ≤ 8
    · exact indexAny_short s w h8 _ rfl
    · refine (Try.strings_IndexAny_long (zero_of_info zero79).1 s ends w (by decide) (by omega) (by omega) (by decide) ?_).mono ?_
      · intro j b hb
        have : b ∈ ends.data.toList := List.mem_of_getElem? hb
        revert this
        simp
        rintro (rfl | rfl | rfl) <;> decide
      · rintro e w' ⟨rfl, rfl⟩
        exact ⟨rfl, ((Upd.refl _ _).alloc _).alloc _⟩
  have hp := plain_index s
  generalize Lib.indexAny s.data.toList ends.data.toList = q at hC hp
  generalize plainL s.data.toList = p at hp ⊢
  have HC := Lib.hid hC
  clear hC
  go_enter Try.func31, Try.ntmps31
  go_wp2_with fail
  refine (HC.out _).mono ?_
  rintro e w' ⟨rfl, hu⟩
  go_wp2_with fail
  go_ret
  exact ⟨ret_eq (by first | rfl | simp), hu⟩

theorem plain_any (s : ByteArray) (w : World) (hs : s.size ≤ 1000000) : Calls Try.prog 21 #[.string s] w fun e w' => e = .returned (.bool (plainL s.data.toList)) ∧ Upd w w' Nope := by
  have hC := fun w => contains_any s w hs
  generalize plainL s.data.toList = p at hC ⊢
  have HC := Lib.hid hC
  clear hC
  go_enter Try.func21, Try.ntmps21
  go_wp2_with fail
  refine (HC.out _).mono ?_
  rintro e w' ⟨rfl, hu⟩
  go_wp2_with fail
  go_ret
  exact ⟨ret_eq (by first | rfl | simp), hu⟩

theorem plain_take (l : List UInt8) (k : Nat) (h : k < l.length) : plainL (l.take (k + 1)) = (plainL (l.take k) && !(l.getD k 0 == 0 || l.getD k 0 == 10 || l.getD k 0 == 13)) := by
  rw [show l.getD k 0 = l[k] by simp [List.getD, h]]
  rw [List.take_succ_eq_append_getElem h]
  simp only [plainL, List.all_append, List.all_cons, List.all_nil, Bool.and_true]
theorem plain_of_take {l : List UInt8} {k : Nat} (h : plainL (l.take k) = false) : plainL l = false := by
  cases hp : plainL l
  · rfl
  · rw [← h]
    unfold plainL at hp ⊢
    rw [List.all_eq_true] at *
    exact (List.all_eq_true.2 (fun x hx => hp x (List.mem_of_mem_take hx))).symm
theorem u8_eq (x : UInt8) (k : Nat) (hk : k < 256) : (((x.toNat : Int)) == (k : Int)) = (x == UInt8.ofNat k) := by
  cases h : x == UInt8.ofNat k
  · simp at h ⊢
    intro e
    apply h
    have : x.toNat = k := by omega
    rw [← this]
    simp
  · simp at h
    subst h
    simp
    omega

set_option maxHeartbeats 1000000 in
theorem refplain_any (s : ByteArray) (w : World) (hs : s.size ≤ 1000000) : Calls Try.prog 22 #[.string s] w fun e w' => e = .returned (.bool (plainL s.data.toList)) ∧ Upd w w' Nope := by
  have hlen : s.data.toList.length = s.size := by simp
  go_enter Try.func22, Try.ntmps22
  go_wp2_with fail
  go_loopg [3] s.size (fun g i wx => ∃ k : Nat, k ≤ s.size ∧ s.size ≤ k + g ∧ i = .int .i64 k ∧ plainL (s.data.toList.take k) = true ∧ Upd w wx Nope)
  case atStart => exact ⟨0, by omega, by omega, rfl, by simp [plainL], Upd.refl _ _⟩
  case round =>
    obtain ⟨k, hk, hkg, rfl, hpl, hup⟩ := hrel
    by_cases hlt : k < s.size
    · obtain ⟨g, rfl⟩ : ∃ g, gk = g + 1 := ⟨gk - 1, by omega⟩
      have hix := index_str (P := Try.prog) Try.underlying9 s (k : Int) k rfl hlt
      have hst := plain_take s.data.toList k (by omega)
      rw [hpl, Bool.true_and] at hst
      have hof := @plain_of_take s.data.toList (k + 1)
      generalize s.data.toList.getD k 0 = x at hix hst
      have e0 := u8_eq x 0 (by decide)
      have e10 := u8_eq x 10 (by decide)
      have e13 := u8_eq x 13 (by decide)
      cases h0 : x == 0
      · cases h1 : x == 10
        · cases h2 : x == 13
          · simp only [h0, h1, h2, Bool.or_false, Bool.not_false] at hst
            have HS := Lib.hid hst
            have e0' : (((x.toNat : Int)) == 0) = false := e0.trans h0
            have e10' : (((x.toNat : Int)) == 10) = false := e10.trans h1
            have e13' : (((x.toNat : Int)) == 13) = false := e13.trans h2
            clear hst hof hpl e0 e10 e13 h0 h1 h2
            go_wp2_with fail
            go_roundg g
            case measure => omega
            case rel => exact ⟨k + 1, by omega, by omega, by go_num, HS.out, hup⟩
          · have HF := Lib.hid (hof (by rw [hst, h2]; simp))
            have e0' : (((x.toNat : Int)) == 0) = false := e0.trans h0
            have e10' : (((x.toNat : Int)) == 10) = false := e10.trans h1
            have e13' : (((x.toNat : Int)) == 13) = true := e13.trans h2
            clear hst hof hpl e0 e10 e13 h0 h1 h2
            go_wp2_with fail
            go_ret
            exact ⟨ret_eq (by rw [HF.out]; rfl), hup⟩
        · have HF := Lib.hid (hof (by rw [hst, h1]; simp))
          have e0' : (((x.toNat : Int)) == 0) = false := e0.trans h0
          have e10' : (((x.toNat : Int)) == 10) = true := e10.trans h1
          clear hst hof hpl e0 e10 e13 h0 h1
          go_wp2_with fail
          go_ret
          exact ⟨ret_eq (by rw [HF.out]; rfl), hup⟩
      · have HF := Lib.hid (hof (by rw [hst, h0]; simp))
        have e0' : (((x.toNat : Int)) == 0) = true := e0.trans h0
        clear hst hof hpl e0 e10 e13 h0
        go_wp2_with fail
        go_ret
        exact ⟨ret_eq (by rw [HF.out]; rfl), hup⟩
    · have e : s.data.toList.take k = s.data.toList := List.take_of_length_le (by omega)
      rw [e] at hpl
      have HF := Lib.hid hpl
      clear hpl e
      go_wp2_with fail
      go_ret
      exact ⟨ret_eq (by rw [HF.out]; rfl), hup⟩
end Go.Proofs.Ytomfblnflobonaa
