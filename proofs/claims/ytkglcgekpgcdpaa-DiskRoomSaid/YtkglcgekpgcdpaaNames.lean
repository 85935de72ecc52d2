/- The law DiskNames. -/
import Derived.Test.YtkglcgekpgcdpaaAwk
set_option linter.unusedVariables false
set_option linter.unusedSimpArgs false
namespace Go.Proofs.Ytkglcgekpgcdpaa
open Go.RowKit

theorem index_str {P : Program} {T : TypeId} (hT : P.underlying T = some .string) (s : ByteArray) (i : Int) (a : Nat) (hi : i = a) (h : a < s.size) (W : World) :
    (Instr.index T (.string s) (.int .i64 i)).run P W = .ok (.int .u8 (s.data.toList.getD a 0).toNat) W := by
  subst hi
  rw [run_index_string (P := P) (w := W) T s .i64 a hT, dif_pos (by omega)]
  simp only [Result.ok.injEq, Value.int.injEq, true_and, and_true]
  have h3 : a < s.data.size := h
  simp [List.getD]
  rw [Array.getElem?_eq_getElem h3]
  rfl

def sx : ByteArray := ⟨#[120]⟩
def n0 : Dk := ⟨100, [], false, 0, 0, 0⟩
def n1 (name : ByteArray) : Dk := ⟨100, [(name, ⟨sx, 0⟩)], false, 0, 0, 1⟩
def n2 (name : ByteArray) : Dk := ⟨100, [(name, ⟨sx, 1⟩)], false, 0, 0, 2⟩
def n3 : Dk := ⟨100, [], false, 0, 0, 3⟩
theorem may_one (name : ByteArray) : mayE false [name] = if nameOk name then 0 else 2 := by simp [mayE]
theorem empty_app (s : ByteArray) : ByteArray.empty ++ s = s := by
  apply ByteArray.ext
  simp
theorem n_append {name : ByteArray} (h : nameOk name = true) : appendR n0 name sx = (n1 name, 0) := by
  have hm : mayE n0.off [name] = 0 := by rw [show n0.off = false from rfl, may_one, h]; rfl
  unfold appendR
  rw [if_pos hm]
  have hf : fullB n0 name sx = false := by
    simp only [fullB, show n0.L = [] from rfl, look]
    decide
  rw [hf]
  simp only [Bool.false_eq_true, if_false]
  unfold changeR
  rw [if_neg (by decide)]
  simp only [fileOf, show n0.L = [] from rfl, look, Option.getD_none, put, Dk.with_, Dk.more, n0, n1]
  rw [empty_app]
  simp
theorem n_read {name : ByteArray} (h : nameOk name = true) : findR (n1 name) [] name = (⟨sx, 0⟩, 0) := by
  have hm : mayE (n1 name).off ([] ++ [name]) = 0 := by rw [List.nil_append, show (n1 name).off = false from rfl, may_one, h]; rfl
  unfold findR
  rw [if_pos hm]
  simp [n1, look]
theorem n_sync {name : ByteArray} (h : nameOk name = true) : syncR (n1 name) name = (n2 name, 0) := by
  unfold syncR
  rw [n_read h]
  simp only [if_true]
  unfold changeR
  rw [if_neg (by simp [n1])]
  simp only [n1, put, Dk.with_, Dk.more, n2, if_true]
  rfl
theorem n_remove {name : ByteArray} (h : nameOk name = true) : removeR (n2 name) name = (n3, 0) := by
  have hm : mayE (n2 name).off ([] ++ [name]) = 0 := by rw [List.nil_append, show (n2 name).off = false from rfl, may_one, h]; rfl
  have hf : findR (n2 name) [] name = (⟨sx, 1⟩, 0) := by
    unfold findR
    rw [if_pos hm]
    simp [n2, look]
  unfold removeR
  rw [hf]
  simp only [if_true]
  unfold changeR
  rw [if_neg (by simp [n2])]
  simp [n2, del, Dk.with_, Dk.more, n3]
theorem may_bad {l : List ByteArray} {name : ByteArray} (hm : name ∈ l) (h : nameOk name = false) : mayE false l = 2 := by
  unfold mayE
  have : l.all nameOk = false := by rw [List.all_eq_false]; exact ⟨name, hm, by simp [h]⟩
  rw [this]
  rfl
theorem b_append {name : ByteArray} (h : nameOk name = false) : appendR n0 name sx = (n0, 2) := by
  have hm : mayE n0.off [name] = 2 := may_bad (by simp) h
  unfold appendR
  rw [hm]
  rfl
theorem b_find {l : List ByteArray} {name x : ByteArray} (hm : name ∈ l ++ [x]) (h : nameOk name = false) : findR n0 l x = (noFile, 2) := by
  have hm : mayE n0.off (l ++ [x]) = 2 := may_bad hm h
  unfold findR
  rw [hm]
  rfl
theorem b_sync {name : ByteArray} (h : nameOk name = false) : syncR n0 name = (n0, 2) := by
  unfold syncR
  rw [b_find (by simp) h]
  rfl
theorem b_remove {name : ByteArray} (h : nameOk name = false) : removeR n0 name = (n0, 2) := by
  unfold removeR
  rw [b_find (by simp) h]
  rfl
theorem b_rename1 {name : ByteArray} (h : nameOk name = false) : renameR n0 name sx = (n0, 2) := by
  unfold renameR
  rw [b_find (by simp) h]
  rfl
theorem b_rename2 {name : ByteArray} (h : nameOk name = false) : renameR n0 sx name = (n0, 2) := by
  unfold renameR
  rw [b_find (l := [name]) (x := sx) (by simp) h]
  rfl
theorem n_fits (name : ByteArray) : n0.fit ∧ (n1 name).fit ∧ (n2 name).fit := by
  refine ⟨fit_of (by kernel_rfl), fit_of ?_, fit_of ?_⟩
  · simp [fitB, n1, sumL, sx]
    decide
  · simp [fitB, n2, sumL, sx]
    decide
/-- What the law's loop has reckoned behind k bytes. -/
def rightB (name : ByteArray) (k : Nat) : Bool := decide (1 ≤ name.size) && decide (name.size ≤ 32) && !(name.data.toList.take k).any badB
theorem rightB_end (name : ByteArray) : rightB name name.size = nameOk name := by
  unfold rightB nameOk
  rw [List.take_of_length_le (by simp)]
theorem rightB_succ (name : ByteArray) (k : Nat) (h : k < name.size) : rightB name (k + 1) = (rightB name k && !badB (name.data.toList.getD k 0)) := by
  unfold rightB
  rw [take_snoc8 _ _ (by simpa using h), List.any_append]
  simp [Bool.and_assoc]

set_option maxHeartbeats 4000000 in
theorem names_walk (w : World) (name : ByteArray) (hname : name.size ≤ 140737488351232) : Calls Try.prog 6 #[.string name] w fun e w' => e = .returned (.bool true) ∧ Below w.heap.size w w' := by
  suffices h : Calls Try.prog 6 #[.string name] w fun e w' => e = .returned (.bool true) ∧ Upd w w' Nope from h.mono fun e w' ⟨h1, h2⟩ => ⟨h1, h2.below (fun _ h => h.elim)⟩
  by_cases h200 : 200 < name.size
  · have hd : decide (200 < (name.size : Int)) = true := by simp; omega
    go_enter Try.func6, Try.ntmps6
    go_wp2_with fail
    refine (awake_any w).mono ?_
    rintro e w1 ⟨rfl, u1⟩
    go_wp2
    go_returns
    exact ⟨rfl, u1⟩
  · have hd : decide (200 < (name.size : Int)) = false := by simp; omega
    go_enter Try.func6, Try.ntmps6
    go_wp2_with fail
    refine (awake_any w).mono ?_
    rintro e w1 ⟨rfl, u1⟩
    go_wp2_with fail
    refine (new_any 100 w1).mono ?_
    rintro e w2 ⟨_, hn, u2⟩
    obtain ⟨g, b, rfl, h2, lg, lb⟩ := hn (by decide)
    have H2 := Lib.hid h2
    clear h2 hn
    have V2 := u1.nn u2
    have lg : w.heap.size ≤ g := Nat.le_trans u1.size lg
    have lb : w.heap.size ≤ b := Nat.le_trans u1.size lb
    clear u1 u2
    have hrb : rightB name 0 = (decide (1 ≤ name.size) && decide (name.size ≤ 32)) := by simp [rightB]
    have d1 : decide (1 ≤ (name.size : Int)) = decide (1 ≤ name.size) := by simp; omega
    have d2 : decide ((name.size : Int) ≤ 32) = decide (name.size ≤ 32) := by simp; omega
    by_cases h1 : 1 ≤ name.size
    · have e1 : decide (1 ≤ (name.size : Int)) = true := by simp; omega
      have hs0 : Value.bool (decide ((name.size : Int) ≤ 32)) = .bool (rightB name 0) := by rw [hrb, d2]; simp [h1]
      have HS := Lib.hid hs0
      clear hs0 hrb d1 d2
      go_wp2_with fail
      go_loopw [5, 6] (fun s5 i wr => ∃ k : Nat, k ≤ name.size ∧ i = .int .i64 k ∧ s5 = .bool (rightB name k) ∧ Drew w2 wr) (fun _ i _ => name.size - (intOf i).toNat)
      case atStart => exact ⟨0, Nat.zero_le _, rfl, HS.out, Drew.refl _⟩
      case round =>
        obtain ⟨k, hk, rfl, rfl, hdr⟩ := hrel
        by_cases hlt : k < name.size
        · have hsu := rightB_succ name k hlt
          have hx := fun W => index_str (P := Try.prog) Try.underlying9 name (k : Int) k rfl hlt W
          have hcl := (name.data.toList.getD k 0).toNat_lt
          have hbb : badB (name.data.toList.getD k 0) = badN (name.data.toList.getD k 0).toNat := rfl
          rw [hbb] at hsu
          generalize (name.data.toList.getD k 0).toNat = c at hx hsu hcl
          generalize rightB name k = R at hsu ⊢
          have SU := Lib.hid hsu
          clear hsu hbb
          cases R
          · go_wp2
            go_roundw
            case rel => exact ⟨k + 1, by omega, by go_num, by rw [SU.out]; rfl, hdr⟩
            case measure => simp [intOf]; omega
          · by_cases c1 : c < 33
            · have e1 : decide (33 ≤ (c : Int)) = false := by simp; omega
              have e3 : badN c = true := by simp [badN]; omega
              have E3 := Lib.hid e3
              clear e3
              go_wp2
              go_roundw
              case rel => exact ⟨k + 1, by omega, by go_num, by rw [SU.out, E3.out]; rfl, hdr⟩
              case measure => simp [intOf]; omega
            · have e1 : decide (33 ≤ (c : Int)) = true := by simp; omega
              by_cases c2 : 126 < c
              · have e2 : decide ((c : Int) ≤ 126) = false := by simp; omega
                have e3 : badN c = true := by simp [badN]; omega
                have E3 := Lib.hid e3
                clear e3
                go_wp2
                go_roundw
                case rel => exact ⟨k + 1, by omega, by go_num, by rw [SU.out, E3.out]; rfl, hdr⟩
                case measure => simp [intOf]; omega
              · have e2 : decide ((c : Int) ≤ 126) = true := by simp; omega
                have e3 : badN c = false := by simp [badN]; omega
                have E3 := Lib.hid e3
                clear e3
                go_wp2
                go_roundw
                case rel => exact ⟨k + 1, by omega, by go_num, by rw [SU.out, E3.out]; rfl, hdr⟩
                case measure => simp [intOf]; omega
        · obtain rfl : k = name.size := by omega
          rw [rightB_end]
          have HW := Lib.hid (H2.out.upd (hdr.upd Nope) id id)
          have VW := V2.dr hdr
          clear H2 V2 hdr hlt hk
          cases hno : nameOk name with
          | false =>
            have hN := Lib.hid hno
            have hA := append_any (d := n0) HW.out (n_fits name).1 name sx (by decide)
            rw [b_append hno] at hA
            have HA := Lib.hid hA
            clear hA
            go_wp2_with fail
            refine HA.out.mono ?_
            rintro e w3 ⟨rfl, h, u⟩
            have W1 := Lib.hid h
            have V1 := VW.trans u (fun _ _ h => h) (fun i hi h => by omega)
            have hR := read_any h name
            rw [b_find (by simp) hno] at hR
            have HR := Lib.hid hR
            clear h u hR HA
            go_wp2_with fail
            refine HR.out.mono ?_
            rintro e w4 ⟨rfl, u⟩
            have W2 := Lib.hid (W1.out.nn u)
            have V2 := V1.nn u
            clear u HR
            have hC := sync_any W2.out (n_fits name).1.ok name
            rw [b_sync hN.out] at hC
            have HC := Lib.hid hC
            clear hC
            go_wp2_with fail
            refine HC.out.mono ?_
            rintro e w5 ⟨rfl, h, u⟩
            have W3 := Lib.hid h
            have V3 := V2.trans u (fun _ _ h => h) (fun i hi h => by omega)
            clear HC h u
            have hC := remove_any W3.out (n_fits name).1.ok name
            rw [b_remove hN.out] at hC
            have HC := Lib.hid hC
            clear hC
            go_wp2_with fail
            refine HC.out.mono ?_
            rintro e w6 ⟨rfl, h, u⟩
            have W4 := Lib.hid h
            have V4 := V3.trans u (fun _ _ h => h) (fun i hi h => by omega)
            clear HC h u
            have hC := rename_any W4.out (n_fits name).1.ok name sx
            rw [b_rename1 hN.out] at hC
            have HC := Lib.hid hC
            clear hC
            go_wp2_with fail
            refine HC.out.mono ?_
            rintro e w7 ⟨rfl, h, u⟩
            have W5 := Lib.hid h
            have V5 := V4.trans u (fun _ _ h => h) (fun i hi h => by omega)
            clear HC h u
            have hC := rename_any W5.out (n_fits name).1.ok sx name
            rw [b_rename2 hN.out] at hC
            have HC := Lib.hid hC
            clear hC
            go_wp2_with fail
            refine HC.out.mono ?_
            rintro e w8 ⟨rfl, h, u⟩
            have W7 := Lib.hid h
            have V7 := V5.trans u (fun _ _ h => h) (fun i hi h => by omega)
            clear HC h u
            have hU := used_any W7.out (by decide)
            have hX : sumL n0.L = 0 := by kernel_rfl
            rw [hX] at hU
            have HU := Lib.hid hU
            clear hU hX
            go_wp2_with fail
            refine HU.out.mono ?_
            rintro e w10 ⟨rfl, u⟩
            have V8 := V7.nn u
            clear u
            go_wp2
            go_returns
            exact ⟨rfl, V8⟩
          | true =>
            have hN := Lib.hid hno
            have hA := append_any (d := n0) HW.out (n_fits name).1 name sx (by decide)
            rw [n_append hno] at hA
            have HA := Lib.hid hA
            clear hA
            go_wp2_with fail
            refine HA.out.mono ?_
            rintro e w3 ⟨rfl, h, u⟩
            have W1 := Lib.hid h
            have V1 := VW.trans u (fun _ _ h => h) (fun i hi h => by omega)
            have hR := read_any h name
            rw [n_read hno] at hR
            have HR := Lib.hid hR
            clear h u hR HA
            go_wp2_with fail
            refine HR.out.mono ?_
            rintro e w4 ⟨rfl, u⟩
            have W2 := Lib.hid (W1.out.nn u)
            have V2 := V1.nn u
            clear u HR
            have hC := sync_any W2.out (n_fits name).2.1.ok name
            rw [n_sync hN.out] at hC
            have HC := Lib.hid hC
            clear hC
            go_wp2_with fail
            refine HC.out.mono ?_
            rintro e w5 ⟨rfl, h, u⟩
            have W3 := Lib.hid h
            have V3 := V2.trans u (fun _ _ h => h) (fun i hi h => by omega)
            clear HC h u
            have hC := remove_any W3.out (n_fits name).2.2.ok name
            rw [n_remove hN.out] at hC
            have HC := Lib.hid hC
            clear hC
            go_wp2_with fail
            refine HC.out.mono ?_
            rintro e w6 ⟨rfl, h, u⟩
            have W4 := Lib.hid h
            have V4 := V3.trans u (fun _ _ h => h) (fun i hi h => by omega)
            clear HC h u
            have hU := list_any W4.out (by decide)
            have HU := Lib.hid hU
            clear hU
            go_wp2_with fail
            refine HU.out.mono ?_
            rintro e w10 ⟨A, cap, l, rfl, _, hp, u, _⟩
            have hl : l = [] := by simpa [n3] using hp
            subst hl
            have V8 := V4.nn u
            clear u hp
            go_wp2
            go_returns
            exact ⟨rfl, V8⟩
    · have e1 : decide (1 ≤ (name.size : Int)) = false := by simp; omega
      have hs0 : Value.bool false = .bool (rightB name 0) := by rw [hrb]; simp [h1]
      have HS := Lib.hid hs0
      clear hs0 hrb d1 d2
      go_wp2_with fail
      go_loopw [5, 6] (fun s5 i wr => ∃ k : Nat, k ≤ name.size ∧ i = .int .i64 k ∧ s5 = .bool (rightB name k) ∧ Drew w2 wr) (fun _ i _ => name.size - (intOf i).toNat)
      case atStart => exact ⟨0, Nat.zero_le _, rfl, HS.out, Drew.refl _⟩
      case round =>
        obtain ⟨k, hk, rfl, rfl, hdr⟩ := hrel
        by_cases hlt : k < name.size
        · have hsu := rightB_succ name k hlt
          have hx := fun W => index_str (P := Try.prog) Try.underlying9 name (k : Int) k rfl hlt W
          have hcl := (name.data.toList.getD k 0).toNat_lt
          have hbb : badB (name.data.toList.getD k 0) = badN (name.data.toList.getD k 0).toNat := rfl
          rw [hbb] at hsu
          generalize (name.data.toList.getD k 0).toNat = c at hx hsu hcl
          generalize rightB name k = R at hsu ⊢
          have SU := Lib.hid hsu
          clear hsu hbb
          cases R
          · go_wp2
            go_roundw
            case rel => exact ⟨k + 1, by omega, by go_num, by rw [SU.out]; rfl, hdr⟩
            case measure => simp [intOf]; omega
          · by_cases c1 : c < 33
            · have e1 : decide (33 ≤ (c : Int)) = false := by simp; omega
              have e3 : badN c = true := by simp [badN]; omega
              have E3 := Lib.hid e3
              clear e3
              go_wp2
              go_roundw
              case rel => exact ⟨k + 1, by omega, by go_num, by rw [SU.out, E3.out]; rfl, hdr⟩
              case measure => simp [intOf]; omega
            · have e1 : decide (33 ≤ (c : Int)) = true := by simp; omega
              by_cases c2 : 126 < c
              · have e2 : decide ((c : Int) ≤ 126) = false := by simp; omega
                have e3 : badN c = true := by simp [badN]; omega
                have E3 := Lib.hid e3
                clear e3
                go_wp2
                go_roundw
                case rel => exact ⟨k + 1, by omega, by go_num, by rw [SU.out, E3.out]; rfl, hdr⟩
                case measure => simp [intOf]; omega
              · have e2 : decide ((c : Int) ≤ 126) = true := by simp; omega
                have e3 : badN c = false := by simp [badN]; omega
                have E3 := Lib.hid e3
                clear e3
                go_wp2
                go_roundw
                case rel => exact ⟨k + 1, by omega, by go_num, by rw [SU.out, E3.out]; rfl, hdr⟩
                case measure => simp [intOf]; omega
        · obtain rfl : k = name.size := by omega
          rw [rightB_end]
          have HW := Lib.hid (H2.out.upd (hdr.upd Nope) id id)
          have VW := V2.dr hdr
          clear H2 V2 hdr hlt hk
          cases hno : nameOk name with
          | false =>
            have hN := Lib.hid hno
            have hA := append_any (d := n0) HW.out (n_fits name).1 name sx (by decide)
            rw [b_append hno] at hA
            have HA := Lib.hid hA
            clear hA
            go_wp2_with fail
            refine HA.out.mono ?_
            rintro e w3 ⟨rfl, h, u⟩
            have W1 := Lib.hid h
            have V1 := VW.trans u (fun _ _ h => h) (fun i hi h => by omega)
            have hR := read_any h name
            rw [b_find (by simp) hno] at hR
            have HR := Lib.hid hR
            clear h u hR HA
            go_wp2_with fail
            refine HR.out.mono ?_
            rintro e w4 ⟨rfl, u⟩
            have W2 := Lib.hid (W1.out.nn u)
            have V2 := V1.nn u
            clear u HR
            have hC := sync_any W2.out (n_fits name).1.ok name
            rw [b_sync hN.out] at hC
            have HC := Lib.hid hC
            clear hC
            go_wp2_with fail
            refine HC.out.mono ?_
            rintro e w5 ⟨rfl, h, u⟩
            have W3 := Lib.hid h
            have V3 := V2.trans u (fun _ _ h => h) (fun i hi h => by omega)
            clear HC h u
            have hC := remove_any W3.out (n_fits name).1.ok name
            rw [b_remove hN.out] at hC
            have HC := Lib.hid hC
            clear hC
            go_wp2_with fail
            refine HC.out.mono ?_
            rintro e w6 ⟨rfl, h, u⟩
            have W4 := Lib.hid h
            have V4 := V3.trans u (fun _ _ h => h) (fun i hi h => by omega)
            clear HC h u
            have hC := rename_any W4.out (n_fits name).1.ok name sx
            rw [b_rename1 hN.out] at hC
            have HC := Lib.hid hC
            clear hC
            go_wp2_with fail
            refine HC.out.mono ?_
            rintro e w7 ⟨rfl, h, u⟩
            have W5 := Lib.hid h
            have V5 := V4.trans u (fun _ _ h => h) (fun i hi h => by omega)
            clear HC h u
            have hC := rename_any W5.out (n_fits name).1.ok sx name
            rw [b_rename2 hN.out] at hC
            have HC := Lib.hid hC
            clear hC
            go_wp2_with fail
            refine HC.out.mono ?_
            rintro e w8 ⟨rfl, h, u⟩
            have W7 := Lib.hid h
            have V7 := V5.trans u (fun _ _ h => h) (fun i hi h => by omega)
            clear HC h u
            have hU := used_any W7.out (by decide)
            have hX : sumL n0.L = 0 := by kernel_rfl
            rw [hX] at hU
            have HU := Lib.hid hU
            clear hU hX
            go_wp2_with fail
            refine HU.out.mono ?_
            rintro e w10 ⟨rfl, u⟩
            have V8 := V7.nn u
            clear u
            go_wp2
            go_returns
            exact ⟨rfl, V8⟩
          | true =>
            have hN := Lib.hid hno
            have hA := append_any (d := n0) HW.out (n_fits name).1 name sx (by decide)
            rw [n_append hno] at hA
            have HA := Lib.hid hA
            clear hA
            go_wp2_with fail
            refine HA.out.mono ?_
            rintro e w3 ⟨rfl, h, u⟩
            have W1 := Lib.hid h
            have V1 := VW.trans u (fun _ _ h => h) (fun i hi h => by omega)
            have hR := read_any h name
            rw [n_read hno] at hR
            have HR := Lib.hid hR
            clear h u hR HA
            go_wp2_with fail
            refine HR.out.mono ?_
            rintro e w4 ⟨rfl, u⟩
            have W2 := Lib.hid (W1.out.nn u)
            have V2 := V1.nn u
            clear u HR
            have hC := sync_any W2.out (n_fits name).2.1.ok name
            rw [n_sync hN.out] at hC
            have HC := Lib.hid hC
            clear hC
            go_wp2_with fail
            refine HC.out.mono ?_
            rintro e w5 ⟨rfl, h, u⟩
            have W3 := Lib.hid h
            have V3 := V2.trans u (fun _ _ h => h) (fun i hi h => by omega)
            clear HC h u
            have hC := remove_any W3.out (n_fits name).2.2.ok name
            rw [n_remove hN.out] at hC
            have HC := Lib.hid hC
            clear hC
            go_wp2_with fail
            refine HC.out.mono ?_
            rintro e w6 ⟨rfl, h, u⟩
            have W4 := Lib.hid h
            have V4 := V3.trans u (fun _ _ h => h) (fun i hi h => by omega)
            clear HC h u
            have hU := list_any W4.out (by decide)
            have HU := Lib.hid hU
            clear hU
            go_wp2_with fail
            refine HU.out.mono ?_
            rintro e w10 ⟨A, cap, l, rfl, _, hp, u, _⟩
            have hl : l = [] := by simpa [n3] using hp
            subst hl
            have V8 := V4.nn u
            clear u hp
            go_wp2
            go_returns
            exact ⟨rfl, V8⟩
end Go.Proofs.Ytkglcgekpgcdpaa
