/- The contracts of Count and Encode. -/
import Derived.Test.YtpcfigijjhoffaaSmall
set_option linter.unusedVariables false
set_option linter.unusedSimpArgs false
namespace Go.Proofs.Ytpcfigijjhoffaa
open Go.RowKit

theorem data_len (r : ByteArray) : r.data.toList.length = r.size := by simp
theorem take_snoc (l : List UInt8) (k : Nat) (h : k < l.length) : l.take (k + 1) = l.take k ++ [l.getD k 0] := by
  rw [List.take_succ_eq_append_getElem h]
  simp [List.getD, h]
/-- How many bytes the xtext has. -/
def cnt (l : List UInt8) : Nat := (encL l).length
theorem cnt_snoc (l : List UInt8) (b : UInt8) : cnt (l ++ [b]) = cnt l + (if plainB b then 1 else 3) := by unfold cnt; rw [encL_snoc, List.length_append, encB_len]

set_option maxHeartbeats 1000000 in
theorem count_any (s : ByteArray) (w : World) (hs : s.size ≤ 1000000) : Calls Try.prog 13 #[.string s] w fun e w' => e = .returned (.int .i64 (cnt s.data.toList : Nat)) ∧ Upd w w' Nope := by
  have kc := Lib.run_convert_string_bytes (P := Try.prog) w 9 31 5 s Try.underlying9 Try.underlying31 Try.underlying5
  have hby := Byt.new w s
  have hub := Byt.newUpd w s Nope
  generalize hg : w.heap.size = g at kc hby
  clear hg
  generalize Lib.bytesWorld w 5 s = w1 at kc hby hub
  go_enter Try.func13, Try.ntmps13
  go_wp2_with fail
  go_loopw [3, 11] (fun n i wr => ∃ k : Nat, k ≤ s.size ∧ i = .int .i64 k ∧ n = .int .i64 ((s.size - k + cnt (s.data.toList.take k) : Nat) : Int) ∧ wr = w1) (fun _ i _ => s.size - (intOf i).toNat)
  case atStart => exact ⟨0, Nat.zero_le _, rfl, by simp [cnt, encL], rfl⟩
  case round =>
    obtain ⟨k, hk, rfl, rfl, hwr⟩ := hrel
    obtain rfl : wr = w1 := hwr
    have hbd := encL_len (s.data.toList.take k)
    have htl : (s.data.toList.take k).length = k := by rw [List.length_take, data_len]; omega
    rw [htl] at hbd
    by_cases hlt : k < s.size
    · have hcell := hby.cell k (by rw [data_len]; exact hlt)
      have hsn := take_snoc s.data.toList k (by rw [data_len]; exact hlt)
      have hc := cnt_snoc (s.data.toList.take k) (s.data.toList.getD k 0)
      rw [← hsn] at hc
      have hb := (s.data.toList.getD k 0).toNat_lt
      have hpl := fun w => plain_any (s.data.toList.getD k 0).toNat w (by omega)
      have hbd2 : cnt (s.data.toList.take k) ≤ 3 * k := hbd.2
      clear hbd hsn htl
      have HC := Lib.hid hc
      unfold plainB at hc
      generalize hp : plainN (s.data.toList.getD k 0).toNat = p at hc hpl
      have HC := Lib.hid hc
      generalize (s.data.toList.getD k 0).toNat = b at hcell hpl hb
      generalize cnt (s.data.toList.take k) = c at hc HC hbd2
      clear hc hp
      go_wp2_with fail
      refine (hpl wr).mono ?_
      rintro e w2 ⟨rfl, hw2⟩
      obtain rfl : wr = w2 := hw2.symm
      cases p
      · go_wp2
        go_roundw
        case rel => exact ⟨k + 1, by omega, by go_num, by rw [HC.out]; congr 1; simp; omega, trivial⟩
        case measure => simp [intOf]; omega
      · go_wp2
        go_roundw
        case rel => exact ⟨k + 1, by omega, by go_num, by rw [HC.out]; congr 1; simp; omega, trivial⟩
        case measure => simp [intOf]; omega
    · obtain rfl : k = s.size := by omega
      have e : s.data.toList.take s.size = s.data.toList := List.take_of_length_le (by rw [data_len]; omega)
      rw [e] at hbd
      rw [e]
      go_wp2
      go_ret
      exact ⟨ret_eq (by simp), hub⟩

def digits : ByteArray := ⟨#[48, 49, 50, 51, 52, 53, 54, 55, 56, 57, 65, 66, 67, 68, 69, 70]⟩
theorem digits_at : ∀ n, n < 16 → digits.data.toList.getD n 0 = UInt8.ofNat (digN n) := by decide +kernel
theorem digits_dig : ∀ n, n < 16 → (UInt8.ofNat (digN n)).toNat = digN n := by decide +kernel
theorem dig_get (n : Nat) (h : n < (⟨#[48, 49, 50, 51, 52, 53, 54, 55, 56, 57, 65, 66, 67, 68, 69, 70]⟩ : ByteArray).size) : ((⟨#[48, 49, 50, 51, 52, 53, 54, 55, 56, 57, 65, 66, 67, 68, 69, 70]⟩ : ByteArray)[n]'h).toNat = digN n := by
  have h' : n < 16 := h
  have h3 : n < digits.data.size := h
  have e : digits.data.toList.getD n 0 = digits[n]'h := by
    simp [List.getD]
    rw [Array.getElem?_eq_getElem h3]
    rfl
  have h2 := digits_at n h'
  rw [e] at h2
  have h4 := digits_dig n h'
  rw [← h2] at h4
  exact h4

theorem bld_step {w w1 w2 : World} {g : Nat} {v : Value} (h : Upd w w1 Nope) (hg : w.heap.size ≤ g) (hv : ∀ k, v.ownBlock = some k → w.heap.size ≤ k) (k : Upd w1 w2 (BldF g v)) : Upd w w2 Nope :=
  h.trans k (fun _ _ h => h) (fun i hi hf => by
    rcases hf with h | h
    · omega
    · have := hv i h; omega)
theorem own_step {w : World} {v v' : Value} {n : Nat} (h : ∀ k, v.ownBlock = some k → n ≤ k) (hw : n ≤ w.heap.size) (hl : v'.ownBlock = v.ownBlock ∨ ∃ k, v'.ownBlock = some k ∧ w.heap.size ≤ k) : ∀ k, v'.ownBlock = some k → n ≤ k := by
  intro k hk
  rcases hl with e | ⟨q, e, hq⟩
  · exact h k (by rw [← e]; exact hk)
  · rw [e] at hk
    injection hk with hk
    omega

set_option maxHeartbeats 4000000 in
theorem encode_any (s : ByteArray) (w : World) (hs : s.size ≤ 1000000) : Calls Try.prog 12 #[.string s] w fun e w' => e = .returned (.string ⟨(encL s.data.toList).toArray⟩) ∧ Upd w w' Nope := by
  have hb0 := Bld.new w w.heap.size (Nat.le_refl _)
  have hu0 : Upd w (w.alloc (.cells #[.pointer none, .slice none 0 0] 35)) Nope := (Upd.refl _ _).alloc _
  have hz0 : (w.alloc (.cells #[.pointer none, .slice none 0 0] 35)).heap.size = w.heap.size + 1 := by simp
  have kc := Lib.run_convert_string_bytes (P := Try.prog) (w.alloc (.cells #[.pointer none, .slice none 0 0] 35)) 9 31 5 s Try.underlying9 Try.underlying31 Try.underlying5
  have hby := Byt.new (w.alloc (.cells #[.pointer none, .slice none 0 0] 35)) s
  have hub := Byt.newUpd (w.alloc (.cells #[.pointer none, .slice none 0 0] 35)) s Nope
  rw [hz0] at kc hby
  have hb1 := hb0.nope hub
  have hu1 := hu0.nn hub
  have hs1 := hby.lt
  have HKC := Lib.hid kc
  generalize hwb : Lib.bytesWorld (w.alloc (.cells #[.pointer none, .slice none 0 0] 35)) 5 s = wb at kc hby hb1 hu1 hs1
  generalize hcap : grownCap (w.alloc (.cells #[.pointer none, .slice none 0 0] 35)) s.size 0 5 = gc at kc
  clear hcap hwb HKC hub hb0 hu0 hz0
  go_enter Try.func12, Try.ntmps12
  go_wp2_with fail
  clear kc
  go_loopw [9] (fun i wr => ∃ (k : Nat) (v : Value), k ≤ s.size ∧ i = .int .i64 k ∧ Bld wr w.heap.size w.heap.size v (encL (s.data.toList.take k)) ∧ (∀ q, v.ownBlock = some q → w.heap.size + 2 ≤ q) ∧ Byt wr (w.heap.size + 1) s.data.toList ∧ Upd w wr Nope) (fun i _ => s.size - (intOf i).toNat)
  case atStart => exact ⟨0, _, Nat.zero_le _, rfl, hb1, by simp [Value.ownBlock], hby, hu1⟩
  case round =>
    clear hby hb1 hu1 hs1
    obtain ⟨k, v, hk, rfl, hb, hv, hby, hu⟩ := hrel
    have hbd := (encL_len (s.data.toList.take k)).2
    have htl : (s.data.toList.take k).length = k := by rw [List.length_take, data_len]; omega
    rw [htl] at hbd
    clear htl
    have hw2 := hby.lt
    by_cases hlt : k < s.size
    · have hcell := hby.cell k (by rw [data_len]; exact hlt)
      have hsn := take_snoc s.data.toList k (by rw [data_len]; exact hlt)
      have hc := encL_snoc (s.data.toList.take k) (s.data.toList.getD k 0)
      rw [← hsn] at hc
      have hbb := (s.data.toList.getD k 0).toNat_lt
      clear hsn
      generalize s.data.toList.getD k 0 = c at hcell hc hbb
      generalize encL (s.data.toList.take k) = out at hb hc hbd
      have hpl := fun w => plain_any c.toNat w (by omega)
      have he : encB c = if plainN c.toNat then [c] else [43, UInt8.ofNat (digN (c.toNat / 16)), UInt8.ofNat (digN (c.toNat % 16))] := rfl
      rw [he] at hc
      clear he
      generalize plainN c.toNat = p at hc hpl
      have HC := Lib.hid hc
      clear hc
      go_wp2_with fail
      refine (hpl wr).mono ?_
      rintro e w2 ⟨rfl, hww⟩
      obtain rfl : wr = w2 := hww.symm
      cases p
      · have hd1 := digits_dig (c.toNat / 16) (by omega)
        have hd2 := digits_dig (c.toNat % 16) (by omega)
        go_wp2_with fail
        refine (bld_writeByte wr _ _ v out hb 43 43 rfl (by omega) (by omega)).mono ?_
        rintro e w3 ⟨rfl, v3, hb3, hu3, hl3⟩
        have hby3 := hby.upd hu3 (fun h => by
          rcases h with h | h
          · omega
          · have := hv _ h; omega)
        have hu3' := bld_step hu (Nat.le_refl _) (fun k h => by have := hv k h; omega) hu3
        have hv3 := own_step hv (by omega) hl3
        have hw3 := hby3.lt
        clear hb hby hu hv hu3 hl3
        have hdl1 : c.toNat / 16 < 16 := by omega
        go_wp2_with fail
        rw [dig_get]
        refine (bld_writeByte w3 _ _ v3 _ hb3 (UInt8.ofNat (digN (c.toNat / 16))) _ hd1.symm (by rw [List.length_append]; simp; omega) (by omega)).mono ?_
        rintro e w4 ⟨rfl, v4, hb4, hu4, hl4⟩
        have hby4 := hby3.upd hu4 (fun h => by
          rcases h with h | h
          · omega
          · have := hv3 _ h; omega)
        have hu4' := bld_step hu3' (Nat.le_refl _) (fun k h => by have := hv3 k h; omega) hu4
        have hv4 := own_step hv3 (by omega) hl4
        have hw4 := hby4.lt
        clear hb3 hby3 hu3' hv3 hu4 hl4
        have hdl2 : c.toNat % 16 < 16 := by omega
        go_wp2_with fail
        rw [dig_get]
        refine (bld_writeByte w4 _ _ v4 _ hb4 (UInt8.ofNat (digN (c.toNat % 16))) _ hd2.symm (by rw [List.length_append, List.length_append]; simp; omega) (by omega)).mono ?_
        rintro e w5 ⟨rfl, v5, hb5, hu5, hl5⟩
        have hby5 := hby4.upd hu5 (fun h => by
          rcases h with h | h
          · omega
          · have := hv4 _ h; omega)
        have hu5' := bld_step hu4' (Nat.le_refl _) (fun k h => by have := hv4 k h; omega) hu5
        have hv5 := own_step hv4 (by omega) hl5
        go_wp2
        go_roundw
        case rel => exact ⟨k + 1, v5, by omega, by go_num, by rw [HC.out]; simpa using hb5, hv5, hby5, hu5'⟩
        case measure => simp [intOf]; omega
      · go_wp2_with fail
        refine (bld_writeByte wr _ _ v out hb c _ rfl (by omega) (by omega)).mono ?_
        rintro e w3 ⟨rfl, v3, hb3, hu3, hl3⟩
        have hby3 := hby.upd hu3 (fun h => by
          rcases h with h | h
          · omega
          · have := hv _ h; omega)
        have hu3' := bld_step hu (Nat.le_refl _) (fun k h => by have := hv k h; omega) hu3
        have hv3 := own_step hv (by omega) hl3
        go_wp2
        go_roundw
        case rel => exact ⟨k + 1, v3, by omega, by go_num, by rw [HC.out]; exact hb3, hv3, hby3, hu3'⟩
        case measure => simp [intOf]; omega
    · obtain rfl : k = s.size := by omega
      have e : s.data.toList.take s.size = s.data.toList := List.take_of_length_le (by rw [data_len]; omega)
      rw [e] at hb
      go_wp2_with fail
      refine (bld_string wr _ _ v _ hb (by omega)).mono ?_
      rintro e w2 ⟨rfl, hd2⟩
      go_wp2
      go_ret
      exact ⟨rfl, Upd.of_below ((hu.below (fun _ h => h.elim)).trans hd2) Nope⟩
end Go.Proofs.Ytpcfigijjhoffaa
