/- path.Parse: what it calls. -/
import Derived.Test.YthfmjiafdfoajaaDoorIny
set_option linter.unusedVariables false
set_option linter.unusedSimpArgs false
namespace Go.Proofs.YthfmjiafdfoajaaDoor
open Go.RowKit Go.Shelf

def bs (l : List UInt8) : ByteArray := ⟨l.toArray⟩
theorem bs_data (l : List UInt8) : (bs l).data.toList = l := rfl
theorem bs_of (s : ByteArray) : bs s.data.toList = s := bytes_eq rfl
theorem bs_size (l : List UInt8) : (bs l).size = l.length := rfl

theorem pre_yes (s r : ByteArray) (c : UInt8) (h : s.data.toList = c :: r.data.toList) (w : World) :
    Calls Tryd.prog 24 #[.string s, .string ⟨#[c]⟩] w fun e w' => e = .returned (.tuple #[.string r, .bool true]) ∧ w' = w := by
  refine (Tryd.strings_CutPrefix s ⟨#[c]⟩ w).mono ?_
  rintro e w' ⟨rfl, rfl⟩
  refine ⟨?_, rfl⟩
  have e1 : Lib.hasPrefix s.data.toList [c] = true := by rw [h]; simp [Lib.hasPrefix]
  have e2 : Lib.trimPrefix s.data.toList [c] = r.data.toList := by unfold Lib.trimPrefix; rw [e1, h]; rfl
  show Ending.returned (.tuple #[.string ⟨(Lib.trimPrefix s.data.toList [c]).toArray⟩, .bool (Lib.hasPrefix s.data.toList [c])]) = _
  rw [e1, e2]
theorem pre_no (s : ByteArray) (c : UInt8) (h : ∀ r, s.data.toList ≠ c :: r) (w : World) :
    Calls Tryd.prog 24 #[.string s, .string ⟨#[c]⟩] w fun e w' => e = .returned (.tuple #[.string s, .bool false]) ∧ w' = w := by
  refine (Tryd.strings_CutPrefix s ⟨#[c]⟩ w).mono ?_
  rintro e w' ⟨rfl, rfl⟩
  refine ⟨?_, rfl⟩
  have e1 : Lib.hasPrefix s.data.toList [c] = false := by
    cases hl : s.data.toList with
    | nil => rfl
    | cons b r =>
      have : b ≠ c := fun e => h r (by rw [hl, e])
      show (c == b && List.isPrefixOf [] r) = false
      rw [beq_eq_false_iff_ne.2 (Ne.symm this)]
      rfl
  have e2 : Lib.trimPrefix s.data.toList [c] = s.data.toList := by unfold Lib.trimPrefix; rw [e1]; rfl
  show Ending.returned (.tuple #[.string ⟨(Lib.trimPrefix s.data.toList [c]).toArray⟩, .bool (Lib.hasPrefix s.data.toList [c])]) = _
  rw [e1, e2]
theorem has_yes (s r : ByteArray) (c : UInt8) (h : s.data.toList = c :: r.data.toList) (w : World) :
    Calls Tryd.prog 25 #[.string s, .string ⟨#[c]⟩] w fun e w' => e = .returned (.bool true) ∧ w' = w := by
  refine (Tryd.strings_HasPrefix s ⟨#[c]⟩ w).mono ?_
  rintro e w' ⟨rfl, rfl⟩
  refine ⟨?_, rfl⟩
  show Ending.returned (.bool (Lib.hasPrefix s.data.toList [c])) = _
  rw [h]; simp [Lib.hasPrefix]
theorem has_no (s : ByteArray) (c : UInt8) (h : ∀ r, s.data.toList ≠ c :: r) (w : World) :
    Calls Tryd.prog 25 #[.string s, .string ⟨#[c]⟩] w fun e w' => e = .returned (.bool false) ∧ w' = w := by
  refine (Tryd.strings_HasPrefix s ⟨#[c]⟩ w).mono ?_
  rintro e w' ⟨rfl, rfl⟩
  refine ⟨?_, rfl⟩
  show Ending.returned (.bool (Lib.hasPrefix s.data.toList [c])) = _
  cases hl : s.data.toList with
  | nil => rfl
  | cons b r =>
    have : b ≠ c := fun e => h r (by rw [hl, e])
    have e1 : Lib.hasPrefix (b :: r) [c] = false := by
      show (c == b && List.isPrefixOf [] r) = false
      rw [beq_eq_false_iff_ne.2 (Ne.symm this)]
      rfl
    rw [e1]

set_option maxRecDepth 100000 in
set_option maxHeartbeats 4000000 in
theorem cut0_no (s : ByteArray) (h : Lib.indexByte s.data.toList 62 = -1) (w : World) :
    Calls Tryd.prog 52 #[.string s, .string ⟨#[62]⟩] w fun e w' => e = .returned (.tuple #[.string s, .string ⟨#[]⟩, .bool false]) ∧ Below w.heap.size w w' := by
  have hI := fun W => Tryd.stringslite_Index_one s 62 W
  rw [h] at hI
  have HI := Lib.hid hI
  clear hI h
  go_enter Tryd.func52, Tryd.ntmps52
  go_wp2_with fail
  refine (HI.out _).mono ?_
  rintro e w2 ⟨rfl, hw⟩
  obtain rfl : w = w2 := hw.symm
  go_wp2_with fail
  exact bodyPost_ret (v := .tuple #[.string s, .string ⟨#[]⟩, .bool false]) (by simp [results, Tryd.results52, go_sem]) rfl ⟨rfl, Below.refl _ _⟩
set_option maxRecDepth 100000 in
set_option maxHeartbeats 4000000 in
theorem cut0_yes (s a b : ByteArray) (h : s.data.toList = a.data.toList ++ 62 :: b.data.toList) (hi : Lib.indexByte s.data.toList 62 = (a.size : Int)) (hs : s.size < 4294967281) (w : World) :
    Calls Tryd.prog 52 #[.string s, .string ⟨#[62]⟩] w fun e w' => e = .returned (.tuple #[.string a, .string b, .bool true]) ∧ Below w.heap.size w w' := by
  have hI := fun W => Tryd.stringslite_Index_one s 62 W
  rw [hi] at hI
  have HI := Lib.hid hI
  have hz : s.size = a.size + 1 + b.size := by
    have := congrArg List.length h
    simp only [List.length_append, List.length_cons, data_len] at this
    omega
  have e1 : s.extract 0 a.size = a := bytes_eq (by rw [ext_list, h, List.drop_zero, Nat.sub_zero]; exact List.take_left' (data_len a))
  have e2 : s.extract (a.size + 1) s.size = b := by
    rw [ext_drop, h]
    apply bytes_eq
    show List.drop (a.size + 1) (a.data.toList ++ 62 :: b.data.toList) = _
    rw [show a.data.toList ++ 62 :: b.data.toList = (a.data.toList ++ [62]) ++ b.data.toList by simp]
    exact List.drop_left' (by simp)
  have HS : Hid (s.size = a.size + 1 + b.size) := Lib.hid hz
  have h1 : a.size ≤ s.size := by omega
  have h1' : (a.size : Int) ≤ (s.size : Int) := by omega
  have h2 : (a.size : Int) + 1 ≤ (s.size : Int) := by omega
  have h2' : a.size + 1 ≤ s.size := by omega
  have E1 := Lib.hid e1
  have E2 := Lib.hid e2
  clear hI h hi hz e1 e2
  go_enter Tryd.func52, Tryd.ntmps52
  go_wp2_with fail
  refine (HI.out _).mono ?_
  rintro e w2 ⟨rfl, hw⟩
  obtain rfl : w = w2 := hw.symm
  go_wp2_with fail
  go_region
  all_goals
    go_wp2_with fail
    refine bodyPost_ret (v := .tuple #[.string (s.extract 0 a.size), .string (s.extract (a.size + 1) s.size), .bool true]) (by simp [results, Tryd.results52, go_sem]) rfl ⟨?_, (Below.refl _ _).drew⟩
    rw [E1.out, E2.out]

set_option maxRecDepth 100000 in
set_option maxHeartbeats 4000000 in
theorem cut_no (s : ByteArray) (h : Lib.indexByte s.data.toList 62 = -1) (w : World) :
    Calls Tryd.prog 29 #[.string s, .string ⟨#[62]⟩] w fun e w' => e = .returned (.tuple #[.string s, .string ⟨#[]⟩, .bool false]) ∧ Below w.heap.size w w' := by
  have HI := Lib.hid (cut0_no s h w)
  clear h
  go_enter Tryd.func29, Tryd.ntmps29
  go_wp2_with fail
  refine HI.out.mono ?_
  rintro e w2 ⟨rfl, hw⟩
  go_wp2_with fail
  exact bodyPost_ret (v := .tuple #[.string s, .string ⟨#[]⟩, .bool false]) (by simp [results, Tryd.results29, go_sem]) rfl ⟨rfl, hw⟩
set_option maxRecDepth 100000 in
set_option maxHeartbeats 4000000 in
theorem cut_yes (s a b : ByteArray) (h : s.data.toList = a.data.toList ++ 62 :: b.data.toList) (hi : Lib.indexByte s.data.toList 62 = (a.size : Int)) (hs : s.size < 4294967281) (w : World) :
    Calls Tryd.prog 29 #[.string s, .string ⟨#[62]⟩] w fun e w' => e = .returned (.tuple #[.string a, .string b, .bool true]) ∧ Below w.heap.size w w' := by
  have HI := Lib.hid (cut0_yes s a b h hi hs w)
  clear h hi
  go_enter Tryd.func29, Tryd.ntmps29
  go_wp2_with fail
  refine HI.out.mono ?_
  rintro e w2 ⟨rfl, hw⟩
  go_wp2_with fail
  exact bodyPost_ret (v := .tuple #[.string a, .string b, .bool true]) (by simp [results, Tryd.results29, go_sem]) rfl ⟨rfl, hw⟩
set_option maxRecDepth 100000 in
set_option maxHeartbeats 4000000 in
theorem none_any (w : World) : Calls Tryd.prog 23 #[] w fun e w' => e = .returned (.tuple #[.agg #[.string ⟨#[]⟩, .string ⟨#[]⟩], .string ⟨#[]⟩, .int .i64 2]) ∧ Below w.heap.size w w' := by
  go_enter Tryd.func23, Tryd.ntmps23
  go_wp2_with fail
  exact bodyPost_ret (v := .tuple #[.agg #[.string ⟨#[]⟩, .string ⟨#[]⟩], .string ⟨#[]⟩, .int .i64 2]) (by simp [results, Tryd.results23, go_sem]) rfl ⟨rfl, (Below.refl _ _).alloc (Nat.le_refl _) _⟩
theorem at_ascii {b : UInt8} (h : atB b = true) : b.toNat < 128 := by
  have := u8_all (fun b => !atB b || decide (b.toNat < 128)) (by decide +kernel) b
  rw [h] at this
  simpa using this
theorem lower_any (s : ByteArray) (h : atomsL s.data.toList = true) (hs : s.size < 4294967281) (w : World) :
    Calls Tryd.prog 28 #[.string s] w fun e w' => e = .returned (.string (bs (Lib.toLowerA s.data.toList))) ∧ Below w.heap.size w w' :=
  Tryd.strings_ToLower_ascii s w (by omega) fun j b hb => by
    rcases atoms_ok h b (List.mem_of_getElem? hb) with rfl | h
    · decide
    · exact at_ascii h
theorem dom_any (s : ByteArray) (w : World) (hs : s.size < 4294967281) : Calls Tryd.prog 13 #[.string s] w fun e w' => e = .returned (.tuple #[.string (bs (domL s.data.toList).1), .int .i64 (domL s.data.toList).2]) ∧ Below w.heap.size w w' := by
  have := domain_any s w hs
  rw [domR_eq] at this
  exact this
end Go.Proofs.YthfmjiafdfoajaaDoor
