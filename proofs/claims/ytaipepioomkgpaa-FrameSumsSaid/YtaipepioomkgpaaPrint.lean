/- The contract of frame.Print, over any world in which the records lie. -/
import Derived.Test.YtaipepioomkgpaaNum
import Derived.Test.YtaipepioomkgpaaBld
set_option linter.unusedVariables false
set_option linter.unusedSimpArgs false
namespace Go.Proofs.Ytaipepioomkgpaa
open Go.RowKit

/-- A record's frame. -/
def frameOf (r : List UInt8) : List UInt8 := le2 r.length ++ le4 (crcOf (le2 r.length)) ++ r ++ le4 (crcOf r)
def framesOf (l : List ByteArray) : List UInt8 := l.flatMap fun r => frameOf r.data.toList
def fitsAll (l : List ByteArray) : Prop := ∀ r ∈ l, r.size ≤ 65535
instance (l : List ByteArray) : Decidable (fitsAll l) := by unfold fitsAll; infer_instance
def total (l : List ByteArray) : Nat := (l.map ByteArray.size).sum

theorem le2_length (n : Nat) : (le2 n).length = 2 := rfl
theorem le4_length (n : Nat) : (le4 n).length = 4 := rfl
theorem frameOf_length (r : List UInt8) : (frameOf r).length = r.length + 10 := by simp [frameOf, le2_length, le4_length]; omega
theorem framesOf_snoc (l : List ByteArray) (r : ByteArray) : framesOf (l ++ [r]) = framesOf l ++ frameOf r.data.toList := by simp [framesOf]
theorem total_snoc (l : List ByteArray) (r : ByteArray) : total (l ++ [r]) = total l + r.size := by simp [total]
theorem total_take (l : List ByteArray) (k : Nat) : total (l.take k) ≤ total l := by
  induction l generalizing k with
  | nil => simp [total]
  | cons x l ih =>
    cases k with
    | zero => simp [total]
    | succ k => have := ih k; simp [total] at this ⊢; omega
theorem framesOf_length (l : List ByteArray) : (framesOf l).length = total l + 10 * l.length := by
  induction l with
  | nil => simp [framesOf, total]
  | cons x l ih =>
    simp only [framesOf, total, List.flatMap_cons, List.length_append, List.map_cons, List.sum_cons, List.length_cons] at ih ⊢
    rw [ih, frameOf_length]
    simp only [Array.length_toList]
    have : x.data.size = x.size := rfl
    omega

/-- What Print answers. -/
def printRet (l : List ByteArray) : Value := if fitsAll l then .tuple #[.string ⟨(framesOf l).toArray⟩, .int .i64 0] else .tuple #[.string ⟨#[]⟩, .int .i64 3]
theorem printRet_no {l : List ByteArray} (h : ¬ fitsAll l) : printRet l = .tuple #[.string ⟨#[]⟩, .int .i64 3] := if_neg h
theorem printRet_yes {l : List ByteArray} (h : fitsAll l) : printRet l = .tuple #[.string ⟨(framesOf l).toArray⟩, .int .i64 0] := if_pos h
theorem data_len (r : ByteArray) : r.data.toList.length = r.size := by simp
theorem frame_cat (r : ByteArray) : ((⟨(le2 r.size).toArray⟩ : ByteArray) ++ ⟨(le4 (crcOf (le2 r.size))).toArray⟩ ++ r ++ ⟨(le4 (crcOf r.data.toList)).toArray⟩).data.toList = frameOf r.data.toList := by
  have e : r.data.toList.length = r.size := data_len r
  simp [frameOf]
theorem le2_size (n : Nat) : (⟨(le2 n).toArray⟩ : ByteArray).size = 2 := rfl
theorem le4_size (n : Nat) : (⟨(le4 n).toArray⟩ : ByteArray).size = 4 := rfl
theorem crcOf_lt (l : List UInt8) : crcOf l < 4294967296 := xor_lt32 (crcReg_lt l) (by omega)

attribute [local go_sem] le2_length le4_length le2_size le4_size ByteArray.size_append
set_option maxHeartbeats 2000000 in
theorem print_any (A : Option Addr) (c : Nat) (l : List ByteArray) (w : World) (hr : Rd1 Value.string w A l) (hl : l.length ≤ 100000) (ht : total l ≤ 1000000) :
    Calls Try.prog 10 #[.slice A l.length c] w fun e w' => e = .returned (printRet l) ∧ Upd w w' Nope := by
  go_enter Try.func10, Try.ntmps10
  go_wp2_with fail
  have hb0 := Bld.new w w.heap.size (Nat.le_refl _)
  have hu0 : Upd w (w.alloc (.cells #[.pointer none, .slice none 0 0] 43)) Nope := (Upd.refl _ _).alloc _
  obtain ⟨g, hg⟩ : ∃ g, g = w.heap.size := ⟨_, rfl⟩
  generalize w.alloc (.cells #[.pointer none, .slice none 0 0] 43) = w1 at hb0 hu0 ⊢
  rw [← hg] at hb0 ⊢
  have HG := Lib.hid hg
  clear hg
  go_loopw [10] (fun i wr => ∃ (k : Nat) (v : Value), k ≤ l.length ∧ i = .int .i64 k ∧ Bld wr g g v (framesOf (l.take k)) ∧ fitsAll (l.take k) ∧ Upd w wr Nope) (fun i _ => l.length - (intOf i).toNat)
  case atStart => exact ⟨0, _, Nat.zero_le _, rfl, hb0, by simp [fitsAll], hu0⟩
  case round =>
    clear hb0 hu0
    obtain ⟨k, v, hk, rfl, hb, hf, hu⟩ := hrel
    by_cases hlt : k < l.length
    · obtain ⟨ad, rfl, hx⟩ := (hr.upd hu (fun _ h => h.elim)) k hlt
      by_cases hlong : 65535 < (l[k]'hlt).size
      · go_wp2_with fail
        go_ret2
        exact ⟨ret_eq (by rw [printRet_no (fun h => by have := h _ (List.getElem_mem hlt); omega)]; rfl), hu⟩
      · have hsn := List.take_succ_eq_append_getElem hlt
        have hm : total (l.take (k + 1)) ≤ 1000000 := Nat.le_trans (total_take l _) ht
        have hfl := framesOf_length (l.take k)
        have htl := total_take l k
        have hkl : (l.take k).length = k := by rw [List.length_take]; omega
        rw [hkl] at hfl
        generalize l[k] = r at hx hlong hsn
        have H1 := Lib.hid hsn
        have H2 := Lib.hid hfl
        clear hsn hfl hkl
        have hlt2 := hb.lt
        go_wp2_with fail
        refine (num2_any r.size wr (by omega)).mono ?_
        rintro e w2 ⟨rfl, hu2⟩
        have hb2 := hb.nope hu2
        have hu2' := hu.nn hu2
        clear hb hu hu2
        go_wp2_with fail
        refine (sum_any ⟨(le2 r.size).toArray⟩ w2 (by rw [le2_size]; omega)).mono ?_
        rintro e w3 ⟨rfl, hu3⟩
        have hb3 := hb2.nope hu3
        have hu3' := hu2'.nn hu3
        clear hb2 hu2' hu3
        go_wp2_with fail
        refine (num4_any (crcOf (le2 r.size)) w3 (crcOf_lt _)).mono ?_
        rintro e w4 ⟨rfl, hu4⟩
        have hb4 := hb3.nope hu4
        have hu4' := hu3'.nn hu4
        clear hb3 hu3' hu4
        go_wp2_with fail
        refine (sum_any r w4 (by omega)).mono ?_
        rintro e w5 ⟨rfl, hu5⟩
        have hb5 := hb4.nope hu5
        have hu5' := hu4'.nn hu5
        clear hb4 hu4' hu5
        go_wp2_with fail
        refine (num4_any (crcOf r.data.toList) w5 (crcOf_lt _)).mono ?_
        rintro e w6 ⟨rfl, hu6⟩
        have hb6 := hb5.nope hu6
        have hu6' := hu5'.nn hu6
        clear hb5 hu5' hu6
        have hcat := frame_cat r
        have hsz : ((⟨(le2 r.size).toArray⟩ : ByteArray) ++ ⟨(le4 (crcOf (le2 r.size))).toArray⟩ ++ r ++ ⟨(le4 (crcOf r.data.toList)).toArray⟩).size = r.size + 10 := by
          simp [ByteArray.size_append, le2_size, le4_size]; omega
        have HC := Lib.hid hcat
        have HZ := Lib.hid hsz
        have hb0 := hu6'.size
        clear hcat hsz
        go_wp2_with fail
        generalize ((⟨(le2 r.size).toArray⟩ : ByteArray) ++ ⟨(le4 (crcOf (le2 r.size))).toArray⟩ ++ r ++ ⟨(le4 (crcOf r.data.toList)).toArray⟩) = fr at HC HZ ⊢
        refine (bld_writeString w6 g g v _ hb6 fr (by have := H2.out; have := HZ.out; omega) (by have := hb6.lt; omega)).mono ?_
        rintro e w7 ⟨rfl, v', hb7, hu7, hl7⟩
        have hu7' := hu6'.trans hu7 (H := Nope) (fun _ _ h => h) (fun i hi h => by
          have := HG.out
          rcases h with h | h
          · omega
          · have := hb6.rowlt i h; omega)
        go_wp2
        go_roundw
        case rel => exact ⟨k + 1, v', by omega, by go_num, by rw [H1.out, framesOf_snoc, ← HC.out]; exact hb7, by rw [H1.out]; intro x hx; rcases List.mem_append.1 hx with h | h; exact hf x h; (simp at h; subst h; omega), hu7'⟩
        case measure => simp [intOf]; omega
    · obtain rfl : k = l.length := by omega
      rw [List.take_length] at hb hf
      have hlt2 := hb.lt
      go_wp2_with fail
      refine (bld_string wr g g v _ hb (by omega)).mono ?_
      rintro e w2 ⟨rfl, hd2⟩
      go_wp2
      go_ret2
      have h2 : Upd w w2 Nope := Upd.of_below ((hu.below (fun _ h => h.elim)).trans (hd2.mono (by have := HG.out; omega))) Nope
      exact ⟨ret_eq (by rw [printRet_yes hf]; rfl), h2⟩
end Go.Proofs.Ytaipepioomkgpaa
