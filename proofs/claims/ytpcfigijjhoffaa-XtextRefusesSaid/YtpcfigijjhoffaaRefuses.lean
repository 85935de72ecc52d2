/- XtextRefuses: its walk. -/
import Derived.Test.YtpcfigijjhoffaaJoins
set_option linter.unusedVariables false
set_option linter.unusedSimpArgs false
namespace Go.Proofs.Ytpcfigijjhoffaa
open Go.RowKit

theorem decL_behind (a t : List UInt8) (h : decL t = none) : decL (encL a ++ t) = none := by rw [decL_enc, h]; rfl
theorem d1 : decL [43] = none := decL_short _ (by decide)
theorem d2 : decL [43, 52] = none := decL_short _ (by decide)
theorem d3 (t : List UInt8) : decL (43 :: 52 :: 97 :: t) = none := by rw [decL_plus]; rfl
theorem d4 (t : List UInt8) : decL (43 :: 71 :: 48 :: t) = none := by rw [decL_plus]; rfl
theorem dbad (c : UInt8) (t : List UInt8) (h : c.toNat < 33 ∨ 126 < c.toNat ∨ c.toNat = 61) : decL (c :: t) = none := by
  refine decL_bad t ?_ ?_
  · unfold plainB plainN
    by_cases h1 : 32 < c.toNat <;> by_cases h2 : c.toNat < 127 <;> by_cases h3 : c.toNat = 61 <;> simp [h1, h2, h3] <;> omega
  · rintro rfl
    revert h
    decide
theorem u8_of (x : Int) (h : 0 ≤ x) (h' : x ≤ 255) : ∃ t : UInt8, x = (t.toNat : Int) := ⟨UInt8.ofNat x.toNat, by simp; omega⟩

/-- Decode answers that they are none. -/
def NoneOf (s : ByteArray) : Prop := ∀ w, Calls Try.prog 8 #[.string s] w fun e w' => e = .returned (.tuple #[.string ⟨#[]⟩, .int .i64 2]) ∧ Upd w w' Nope
theorem noneOf (s : ByteArray) (hs : s.size ≤ 1000000) (h : decL s.data.toList = none) : NoneOf s := by
  intro w
  have := decode_any s w hs
  rw [decRet_none h] at this
  exact this

set_option maxHeartbeats 4000000 in
set_option maxRecDepth 100000 in
theorem refuses_walk (w : World) (a : ByteArray) (ha : a.size ≤ 140737488351232) (b : ByteArray) (hb : b.size ≤ 140737488351232) (bad : Int) (wb : (Lit.int .u8 bad).wf = true) :
    Calls Try.prog 6 #[.string a, .string b, .int .u8 bad] w fun e w' => e = .returned (.bool true) ∧ Below w.heap.size w w' := by
  obtain ⟨wb1, wb2⟩ := wf_u8 wb
  obtain ⟨c, rfl⟩ := u8_of bad wb1 wb2
  by_cases c1 : 5000 < a.size ∨ 5000 < b.size
  · rcases (show 5000 < a.size ∨ (a.size ≤ 5000 ∧ 5000 < b.size) by omega) with h | ⟨h, h'⟩
    all_goals
      go_enter Try.func6, Try.ntmps6
      go_wp2_with fail
      refine (awake_any w).mono ?_
      rintro e w1 ⟨rfl, hu1⟩
      go_wp2
      go_ret
      exact ⟨rfl, hu1.below (fun _ h => h.elim)⟩
  · have k1 : a.size ≤ 5000 := by omega
    have k2 : b.size ≤ 5000 := by omega
    have h1 := fun w => encode_any a w (by omega)
    have h2 := fun w => encode_any b w (by omega)
    have l1 := encL_len a.data.toList
    have l2 := encL_len b.data.toList
    rw [data_len] at l1 l2
    have z1 := ba_len (encL a.data.toList)
    have z2 := ba_len (encL b.data.toList)
    have hE : (⟨(encL a.data.toList).toArray⟩ : ByteArray).data.toList = encL a.data.toList := by simp
    have hpre : ∀ t : ByteArray, decL t.data.toList = none → t.size ≤ 500000 → NoneOf ((⟨(encL a.data.toList).toArray⟩ : ByteArray) ++ t) := fun t h hz =>
      noneOf _ (by rw [ByteArray.size_append]; omega) (by rw [ba_list, hE]; exact decL_behind _ _ h)
    generalize (⟨(encL a.data.toList).toArray⟩ : ByteArray) = x at h1 z1 hpre
    generalize (⟨(encL b.data.toList).toArray⟩ : ByteArray) = y at h2 z2
    have e1 : x.size ≤ 15000 := by omega
    have e2 : y.size ≤ 15000 := by omega
    clear c1 l1 l2 z1 z2 hE
    have p1 := hpre ⟨#[43]⟩ d1 (by decide)
    have p2 := hpre ⟨#[43, 52]⟩ d2 (by decide)
    have p3 := hpre (⟨#[43, 52, 97]⟩ ++ y) (by rw [ba_list]; exact d3 _) (by rw [ByteArray.size_append]; show 3 + y.size ≤ 500000; omega)
    have p4 := hpre (⟨#[43, 71, 48]⟩ ++ y) (by rw [ba_list]; exact d4 _) (by rw [ByteArray.size_append]; show 3 + y.size ≤ 500000; omega)
    rw [← ByteArray.append_assoc] at p3 p4
    have p0 : (c.toNat < 33 ∨ 126 < c.toNat ∨ c.toNat = 61) → NoneOf (x ++ ⟨#[c]⟩ ++ y) := fun h => by
      rw [ByteArray.append_assoc]
      exact hpre _ (by rw [ba_list]; exact dbad c _ h) (by rw [ByteArray.size_append]; show 1 + y.size ≤ 500000; omega)
    unfold NoneOf at p0 p1 p2 p3 p4
    have H1 := Lib.hid h1
    have H2 := Lib.hid h2
    have P0 := Lib.hid p0
    have P1 := Lib.hid p1
    have P2 := Lib.hid p2
    have P3 := Lib.hid p3
    have P4 := Lib.hid p4
    have hcl := c.toNat_lt
    have hcv : ∀ W : World, (convert 31 9 (.slice (some ⟨W.heap.size, 0, none⟩) 1 1)).run Try.prog (W.alloc (.cells #[.int .u8 (c.toNat : Int)] 5)) = .ok (.string ⟨#[c]⟩) (W.alloc (.cells #[.int .u8 (c.toNat : Int)] 5)) := by
      intro W
      have h : Byt (W.alloc (.cells #[.int .u8 (c.toNat : Int)] 5)) W.heap.size [c] := by
        have hb := Blk.new W #[.int .u8 (c.toNat : Int)] 5
        refine ⟨hb.lt, fun i hi => ?_, fun i hi => hb.frozen i⟩
        obtain rfl : i = 0 := by simp at hi; omega
        rw [hb.cell 0]
        rfl
      exact h.str 1
    clear h1 h2 p0 p1 p2 p3 p4 hpre
    have t1 : decide ((c.toNat : Int) < 33) = decide (c.toNat < 33) := by simp; try omega
    have t2 : decide ((126 : Int) < c.toNat) = decide (126 < c.toNat) := by simp; try omega
    have t3 : ((c.toNat : Int) == 61) = decide (c.toNat = 61) := by by_cases h : c.toNat = 61 <;> simp [h]; omega
    have hx : (decide (c.toNat < 33) || decide (126 < c.toNat) || decide (c.toNat = 61)) = true → ∀ w, Calls Try.prog 8 #[.string (x ++ ⟨#[c]⟩ ++ y)] w fun e w' => e = .returned (.tuple #[.string ⟨#[]⟩, .int .i64 2]) ∧ Upd w w' Nope := by
      intro h
      refine P0.out ?_
      simp at h
      omega
    clear P0
    have PX := Lib.hid hx
    clear hx
    generalize decide (c.toNat < 33) = b1 at t1 PX
    generalize decide (126 < c.toNat) = b2 at t2 PX
    generalize decide (c.toNat = 61) = b3 at t3 PX
    have hb : (b1 = true ∨ (b1 = false ∧ b2 = true) ∨ (b1 = false ∧ b2 = false ∧ b3 = true)) ∨ (b1 = false ∧ b2 = false ∧ b3 = false) := by
      cases b1 <;> cases b2 <;> cases b3 <;> simp
    rcases hb with hb | ⟨rfl, rfl, rfl⟩
    · rcases hb with rfl | ⟨rfl, rfl⟩ | ⟨rfl, rfl, rfl⟩
      all_goals
        have hx := PX.out (by simp)
        have HX := Lib.hid hx
        clear hx PX
        go_enter Try.func6, Try.ntmps6
        go_wp2_with fail
        refine (awake_any w).mono ?_
        rintro e w1 ⟨rfl, u1⟩
        go_wp2_with fail
        refine (H1.out _).mono ?_
        rintro e w2 ⟨rfl, u2⟩
        go_wp2_with fail
        refine (H2.out _).mono ?_
        rintro e w3 ⟨rfl, u3⟩
        go_wp2_with fail
        refine (HX.out _).mono ?_
        rintro e w3' ⟨rfl, u3'⟩
        go_wp2_with fail
        refine (P1.out _).mono ?_
        rintro e w4 ⟨rfl, u4⟩
        go_wp2_with fail
        refine (P2.out _).mono ?_
        rintro e w5 ⟨rfl, u5⟩
        go_wp2_with fail
        refine (P3.out _).mono ?_
        rintro e w6 ⟨rfl, u6⟩
        go_wp2_with fail
        refine (P4.out _).mono ?_
        rintro e w7 ⟨rfl, u7⟩
        go_wp2_with fail
        go_ret
        exact ⟨ret_eq (by rfl), (((((((u1.nn u2).nn u3).alloc _).nn u3').nn u4).nn u5).nn u6).nn u7 |>.below (fun _ h => h.elim)⟩
    · clear PX
      go_enter Try.func6, Try.ntmps6
      go_wp2_with fail
      refine (awake_any w).mono ?_
      rintro e w1 ⟨rfl, u1⟩
      go_wp2_with fail
      refine (H1.out _).mono ?_
      rintro e w2 ⟨rfl, u2⟩
      go_wp2_with fail
      refine (H2.out _).mono ?_
      rintro e w3 ⟨rfl, u3⟩
      go_wp2_with fail
      refine (P1.out _).mono ?_
      rintro e w4 ⟨rfl, u4⟩
      go_wp2_with fail
      refine (P2.out _).mono ?_
      rintro e w5 ⟨rfl, u5⟩
      go_wp2_with fail
      refine (P3.out _).mono ?_
      rintro e w6 ⟨rfl, u6⟩
      go_wp2_with fail
      refine (P4.out _).mono ?_
      rintro e w7 ⟨rfl, u7⟩
      go_wp2_with fail
      go_ret
      exact ⟨ret_eq (by rfl), ((((((u1.nn u2).nn u3).nn u4).nn u5).nn u6).nn u7).below (fun _ h => h.elim)⟩
end Go.Proofs.Ytpcfigijjhoffaa
