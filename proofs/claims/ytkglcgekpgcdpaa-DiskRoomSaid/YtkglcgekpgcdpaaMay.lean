/- Which names a call may have. -/
import Derived.Test.YtkglcgekpgcdpaaDk
import Derived.Test.YtkglcgekpgcdpaaByt
set_option linter.unusedVariables false
set_option linter.unusedSimpArgs false
namespace Go.Proofs.Ytkglcgekpgcdpaa
open Go.RowKit

def badN (n : Nat) : Bool := decide (n < 33) || decide (126 < n)
def badB (b : UInt8) : Bool := badN b.toNat
theorem bad_any (n : Nat) (w : World) (hn : n < 256) : Calls Try.prog 38 #[.int .u8 (n : Int)] w fun e w' => e = .returned (.bool (badN n)) ∧ w' = w := by
  by_cases h1 : n < 33
  · have e : badN n = true := by simp [badN, h1]
    have h2 : decide ((n : Int) < 33) = true := by simp; omega
    rw [e]
    clear e h1
    go_enter Try.func38, Try.ntmps38
    go_wp2
    go_ret
    exact ⟨rfl, rfl⟩
  · have e : badN n = decide (126 < n) := by simp [badN, h1]
    have h2 : decide ((n : Int) < 33) = false := by simp; omega
    have h3 : decide (126 < (n : Int)) = decide (126 < n) := by
      by_cases h : 126 < n
      · simp [h]; omega
      · simp [h]; omega
    rw [e]
    clear e h1
    go_enter Try.func38, Try.ntmps38
    go_wp2
    go_ret
    exact ⟨by simp, rfl⟩

theorem take_snoc8 (l : List UInt8) (k : Nat) (h : k < l.length) : l.take (k + 1) = l.take k ++ [l.getD k 0] := by
  rw [List.take_add_one, List.getElem?_eq_getElem h]
  simp [List.getD, h]
set_option maxHeartbeats 1000000 in
theorem index_any (l : List UInt8) (g cap : Nat) (w : World) (hb : Byt w g l) (hl : l.length ≤ 1000000) : Calls Try.prog 42 #[.slice (some ⟨g, 0, none⟩) l.length cap, .func (.func 38) #[] #[]] w fun e w' =>
    (∃ r : Int, e = .returned (.int .i64 r) ∧ (decide (0 ≤ r)) = l.any badB) ∧ w' = w := by
  have HB := Lib.hid hb
  clear hb
  go_enter Try.func42, Try.ntmps42
  go_wp2_with fail
  go_loopw [8] (fun i wr => ∃ k : Nat, k ≤ l.length ∧ i = .int .i64 k ∧ (l.take k).any badB = false ∧ wr = w) (fun i _ => l.length - (intOf i).toNat)
  case atStart => exact ⟨0, Nat.zero_le _, rfl, by simp, rfl⟩
  case round =>
    obtain ⟨k, hk, rfl, hnone, hwr⟩ := hrel
    obtain rfl : wr = w := hwr
    by_cases hlt : k < l.length
    · have hcell := HB.out.cell k hlt
      have hsn := take_snoc8 l k hlt
      have hb := (l.getD k 0).toNat_lt
      have hpl := fun w => bad_any (l.getD k 0).toNat w (by omega)
      have hany : l.getD k 0 ∈ l := by simp [List.getD, hlt]
      have hbb : badB (l.getD k 0) = badN (l.getD k 0).toNat := rfl
      generalize hx : l.getD k 0 = x at hcell hsn hb hpl hany hbb
      rw [← hbb] at hpl
      have HS := Lib.hid hsn
      have HN := Lib.hid hnone
      have HA := Lib.hid hany
      clear hsn hnone hany hx hbb
      generalize hbx : badB x = bx at hpl
      have HX := Lib.hid hbx
      clear hbx
      generalize x.toNat = xn at hcell hb hpl
      go_wp2_with fail
      refine (hpl wr).mono ?_
      rintro e w2 ⟨rfl, hw2⟩
      obtain rfl : wr = w2 := hw2.symm
      cases bx
      · go_wp2
        go_roundw
        case rel => exact ⟨k + 1, by omega, by go_num, by rw [HS.out, List.any_append, HN.out]; simp [HX.out], trivial⟩
        case measure => simp [intOf]; omega
      · go_wp2
        go_returns
        exact ⟨⟨(k : Int), rfl, by rw [List.any_eq_true.2 ⟨x, HA.out, HX.out⟩]; simp⟩, rfl⟩
    · obtain rfl : k = l.length := by omega
      rw [List.take_length] at hnone
      have HN := Lib.hid hnone
      clear hnone
      go_wp2
      go_ret
      exact ⟨⟨(-1 : Int), rfl, by rw [HN.out]; rfl⟩, rfl⟩

theorem contains_any (l : List UInt8) (g cap : Nat) (w : World) (hb : Byt w g l) (hl : l.length ≤ 1000000) : Calls Try.prog 37 #[.slice (some ⟨g, 0, none⟩) l.length cap, .func (.func 38) #[] #[]] w fun e w' =>
    e = .returned (.bool (l.any badB)) ∧ w' = w := by
  have hi := index_any l g cap w hb hl
  clear hb
  go_enter Try.func37, Try.ntmps37
  go_wp2_with fail
  refine hi.mono ?_
  rintro e w2 ⟨⟨r, rfl, hr⟩, hw2⟩
  obtain rfl : w = w2 := hw2.symm
  have HR := Lib.hid hr
  clear hr
  go_wp2
  go_ret
  exact ⟨by rw [← HR.out]; rfl, rfl⟩

def nameOk (s : ByteArray) : Bool := decide (1 ≤ s.size) && decide (s.size ≤ 32) && !s.data.toList.any badB
def mayE (off : Bool) (l : List ByteArray) : Int := if off then 7 else if l.all nameOk then 0 else 2

set_option maxHeartbeats 2000000 in
theorem may_any {w : World} {g b : Nat} {d : Dk} (h : DK w g b d) (A : Option Addr) (cap : Nat) (l : List ByteArray) (hr : Rd1 .string w A l) (hl : l.length ≤ 1000) :
    Calls Try.prog 27 #[.pointer (some ⟨g, 0, none⟩), .slice A l.length cap] w fun e w' => e = .returned (.int .i64 (mayE d.off l)) ∧ Upd w w' Nope := by
  have c2 := h.c2
  clear h
  cases hoff : d.off with
  | true =>
    rw [hoff] at c2
    clear hr
    go_enter Try.func27, Try.ntmps27
    go_wp2
    go_ret
    exact ⟨rfl, Upd.refl _ _⟩
  | false =>
    rw [hoff] at c2
    have e1 : l.all nameOk = true → mayE false l = 0 := fun h => by simp [mayE, h]
    have e2 : l.all nameOk = false → mayE false l = 2 := fun h => by simp [mayE, h]
    generalize mayE false l = E at e1 e2 ⊢
    have E1 := Lib.hid e1
    have E2 := Lib.hid e2
    have HR := Lib.hid hr
    clear hr e1 e2
    go_enter Try.func27, Try.ntmps27
    go_wp2_with fail
    go_loopw [13] (fun i wr => ∃ k : Nat, k ≤ l.length ∧ i = .int .i64 k ∧ (l.take k).all nameOk = true ∧ Upd w wr Nope) (fun i _ => l.length - (intOf i).toNat)
    case atStart => exact ⟨0, Nat.zero_le _, rfl, by simp, Upd.refl _ _⟩
    case round =>
      obtain ⟨k, hk, rfl, hall, hu⟩ := hrel
      by_cases hlt : k < l.length
      · obtain ⟨ad, rfl, hcell⟩ := HR.out k hlt
        have hcell := hu.cell hcell id
        have hsn : l.take (k + 1) = l.take k ++ [l[k]] := by rw [List.take_add_one, List.getElem?_eq_getElem hlt]; rfl
        have hmem : l[k] ∈ l := List.getElem_mem _
        generalize l[k] = s at hcell hsn hmem
        have HS := Lib.hid hsn
        have HN := Lib.hid hall
        have HA := Lib.hid hmem
        clear hsn hall hmem
        have hbad : nameOk s = false → l.all nameOk = false := fun h => by
          rw [List.all_eq_false]
          exact ⟨s, HA.out, by simpa using h⟩
        have HBAD := Lib.hid hbad
        clear hbad
        by_cases h0 : s.toList = []
        · have hs0 : s = ByteArray.empty := by
            apply ByteArray.ext
            have : s.data.toList = [] := by simpa [ByteArray.toList_eq] using h0
            simpa using this
          subst hs0
          have hno : nameOk ByteArray.empty = false := by decide
          go_wp2
          go_returns
          exact ⟨by rw [E2.out (HBAD.out hno)]; rfl, hu⟩
        · by_cases h32 : 32 < s.size
          · have hno : nameOk s = false := by simp [nameOk]; omega
            have hd : decide (32 < (s.size : Int)) = true := by simp; omega
            have he : (s.toList == []) = false := by simpa using h0
            go_wp2
            go_returns
            exact ⟨by rw [E2.out (HBAD.out hno)]; rfl, hu⟩
          · have hd : decide (32 < (s.size : Int)) = false := by simp; omega
            have he : (s.toList == []) = false := by simpa using h0
            have hs1 : 1 ≤ s.size := by
              rcases Nat.eq_zero_or_pos s.size with h | h
              · exfalso
                apply h0
                have : s.data.toList = [] := List.eq_nil_of_length_eq_zero (by simpa using h)
                simpa [ByteArray.toList_eq] using this
              · exact h
            have hno : nameOk s = !s.data.toList.any badB := by simp [nameOk, hs1, show s.size ≤ 32 by omega]
            have kc := Lib.run_convert_string_bytes (P := Try.prog) wr 9 65 5 s Try.underlying9 Try.underlying65 Try.underlying5
            have hby := Byt.new wr s
            have hub := Byt.newUpd wr s Nope
            have hlen : s.data.toList.length = s.size := by simp
            have hc := fun cap => contains_any s.data.toList wr.heap.size cap (Lib.bytesWorld wr 5 s) hby (by omega)
            rw [hlen] at hc
            rw [hno] at HBAD
            generalize s.data.toList.any badB = x at hc hno HBAD
            have HNO := Lib.hid hno
            have HC := Lib.hid hc
            clear hno hby hlen h0 hc
            generalize Lib.bytesWorld wr 5 s = w1 at kc hub HC
            go_wp2_with fail
            refine (HC.out _).mono ?_
            rintro e w2 ⟨rfl, hw2⟩
            obtain rfl : w1 = w2 := hw2.symm
            cases x
            · go_wp2
              go_roundw
              case rel => exact ⟨k + 1, by omega, by go_num, by rw [HS.out, List.all_append, HN.out]; simp [HNO.out], hu.nn hub⟩
              case measure => simp [intOf]; omega
            · go_wp2
              go_returns
              exact ⟨by rw [E2.out (HBAD.out rfl)]; rfl, hu.nn hub⟩
      · obtain rfl : k = l.length := by omega
        rw [List.take_length] at hall
        have HN := Lib.hid hall
        clear hall
        go_wp2
        go_ret
        exact ⟨by rw [E1.out HN.out]; rfl, hu⟩
end Go.Proofs.Ytkglcgekpgcdpaa
