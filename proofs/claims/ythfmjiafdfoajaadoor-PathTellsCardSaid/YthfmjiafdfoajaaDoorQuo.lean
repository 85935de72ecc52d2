/- path.quoted. -/
import Derived.Test.YthfmjiafdfoajaaDoorPln
import Derived.Deep.RegionWith
import Derived.Deep.Cut
import Derived.IntWalk
set_option linter.unusedVariables false
set_option linter.unusedSimpArgs false
namespace Go.Proofs.YthfmjiafdfoajaaDoor
open Go.RowKit Go.Shelf

theorem index_str {P : Program} {T : TypeId} (hT : P.underlying T = some .string) (s : ByteArray) (i : Int) (a : Nat) (hi : i = a) (h : a < s.size) (W : World) :
    (Instr.index T (.string s) (.int .i64 i)).run P W = .ok (.int .u8 (s.data.toList.getD a 0).toNat) W := by
  subst hi
  rw [run_index_string (P := P) (w := W) T s .i64 a hT, dif_pos (by omega)]
  simp only [Result.ok.injEq, Value.int.injEq, true_and, and_true]
  have h3 : a < s.data.size := h
  simp [List.getD]
  rw [Array.getElem?_eq_getElem h3]
  rfl
theorem gd_eq (s : ByteArray) (k : Nat) (h : k < s.size) : s.data.toList.getD k 0 = s[k] := by
  rw [List.getD, idx_eq s k h]
  rfl
theorem ext_drop (s : ByteArray) (k : Nat) : s.extract k s.size = ⟨(s.data.toList.drop k).toArray⟩ := by
  apply bytes_eq
  rw [ext_list]
  show (s.data.toList.drop k).take (s.data.toList.length - k) = _
  rw [← List.length_drop, List.take_length]
def qtV : Option (List UInt8 × List UInt8) → Value
  | some x => .tuple #[.string ⟨x.1.toArray⟩, .string ⟨x.2.toArray⟩, .bool true]
  | none => .tuple #[.string ⟨#[]⟩, .string ⟨#[]⟩, .bool false]
theorem drop_cons {l : List UInt8} {k : Nat} (h : k < l.length) : l.drop k = l.getD k 0 :: l.drop (k + 1) := by
  rw [List.drop_eq_getElem_cons h]
  simp [List.getD, h]
/-- What the loop has still to answer. -/
def qtA (acc : List UInt8) (r : Option (List UInt8 × List UInt8)) : Option (List UInt8 × List UInt8) := r.map fun x => (acc ++ x.1, x.2)
theorem qtA_nil (r : Option (List UInt8 × List UInt8)) : qtA [] r = r := by cases r <;> rfl
theorem qtA_one (acc : List UInt8) (c : UInt8) (r : Option (List UInt8 × List UInt8)) : qtA acc (r.map fun x => (c :: x.1, x.2)) = qtA (acc ++ [c]) r := by cases r <;> simp [qtA]

theorem qt_34 (r : List UInt8) : qtL (34 :: r) = some ([], r) := by unfold qtL; rw [if_pos rfl]
theorem qt_92n : qtL [92] = none := rfl
theorem qt_92 (c : UInt8) (r : List UInt8) : qtL (92 :: c :: r) = if outP c then none else (qtL r).map fun x => (c :: x.1, x.2) := by
  conv => { lhs; unfold qtL }
  rw [if_neg (by decide), if_pos rfl]
theorem qt_o {b : UInt8} (r : List UInt8) (h1 : ¬ b = 34) (h2 : ¬ b = 92) : qtL (b :: r) = if outP b then none else (qtL r).map fun x => (b :: x.1, x.2) := by
  conv => { lhs; unfold qtL }
  rw [if_neg h1, if_neg h2]

set_option maxRecDepth 100000 in
set_option maxHeartbeats 8000000 in
theorem quoted_any (s : ByteArray) (w : World) (hs : s.size < 4294967281) : Calls Tryd.prog 26 #[.string s] w fun e w' =>
    e = .returned (qtV (qtL (s.data.toList.drop 1))) ∧ Below w.heap.size w w' := by
  have hlen : s.data.toList.length = s.size := rfl
  obtain ⟨R, hR⟩ : ∃ R, qtL (s.data.toList.drop 1) = R := ⟨_, rfl⟩
  rw [hR]
  go_enter Tryd.func26, Tryd.ntmps26
  go_wp2_with fail
  have hb0 := Bld.new w w.heap.size (Nat.le_refl _)
  have hu0 : Upd w (w.alloc (.cells #[.pointer none, .slice none 0 0] 50)) Nope := (Upd.refl w _).alloc _
  have hs0 : (w.alloc (.cells #[.pointer none, .slice none 0 0] 50)).heap.size = w.heap.size + 1 := by simp
  generalize w.alloc (.cells #[.pointer none, .slice none 0 0] 50) = W0 at hb0 hu0 hs0 ⊢
  have HR := Lib.hid hR
  clear hR
  go_loopw [6] (fun i wr => ∃ (k : Nat) (v : Value) (acc : List UInt8), 1 ≤ k ∧ k ≤ s.size + 1 ∧ i = .int .i64 k ∧ acc.length + 1 ≤ k ∧ Bld wr w.heap.size w.heap.size v acc ∧ (∀ q, v.ownBlock = some q → w.heap.size + 1 ≤ q) ∧ Upd w wr Nope ∧ qtA acc (qtL (s.data.toList.drop k)) = R) (fun i wr => s.size + 1 - (intOf i).toNat)
  case atStart => exact ⟨1, _, [], Nat.le_refl _, by omega, rfl, by simp, hb0, by simp [Value.ownBlock], hu0, by rw [qtA_nil]; exact HR.out⟩
  case round =>
    clear hb0 hu0 HR
    obtain ⟨k, v, acc, hk1, hk2, rfl, hacc, hb, hv, hu, hq⟩ := hrel
    have hlt0 := hb.lt
    by_cases hlt : k < s.size
    · have hdr := drop_cons (l := s.data.toList) (k := k) (by omega)
      rw [gd_eq s k hlt] at hdr
      rw [hdr] at hq
      by_cases h34 : s[k] = 34
      · rw [h34, qt_34] at hq
        have e34 : ((s[k].toNat : Int) == 34) = true := by rw [h34]; decide
        have hRs : R = some (acc, s.data.toList.drop (k + 1)) := by rw [← hq]; simp [qtA]
        have HRs := Lib.hid hRs
        clear hq hRs hdr
        have hbd : Bld wr.drew w.heap.size w.heap.size v acc := hb.nope (Upd.refl _ _).drew
        have hud := (hu.drew).below (fun _ h => h.elim)
        have hzz : w.heap.size ≤ wr.drew.heap.size := hu.size
        clear hb hv
        go_upto_region 6 with (fail)
        have q1 : IntKind.i64.wrap ((k : Int) + 1) = (k : Int) + 1 := IntWalk.i64_in _ (by omega)
        have q2 : (0 : Int) ≤ (k : Int) + 1 := by omega
        have q3 : (k : Int) + 1 ≤ (s.size : Int) := by omega
        have q4 : ((k : Int) + 1).toNat = k + 1 := by omega
        go_region_with (go_at_call 22; refine (bld_string wr.drew _ _ v acc hbd hzz).mono ?_; rintro e w3 ⟨rfl, hd3⟩)
        all_goals
          clear q1 q2 q3 q4
          go_wp2_with fail
          refine bodyPost_ret (v := .tuple #[.string ⟨acc.toArray⟩, .string (s.extract (k + 1) s.size), .bool true]) (by simp [results, Tryd.results26, go_sem]) rfl ⟨?_, hud.trans hd3⟩
          rw [HRs.out, ext_drop]
          rfl
      · have e34 : ((s[k].toNat : Int) == 34) = false := by
          rw [beq_eq_false_iff_ne]; exact fun h => h34 (u8_of (n := 34) (by decide) h)
        by_cases h92 : s[k] = 92
        · rw [h92] at hdr hq
          have e92 : ((s[k].toNat : Int) == 92) = true := by rw [h92]; decide
          by_cases hlt2 : k + 1 < s.size
          · have hdr2 := drop_cons (l := s.data.toList) (k := k + 1) (by omega)
            rw [gd_eq s (k + 1) hlt2] at hdr2
            rw [hdr2, qt_92] at hq
            have hlt2' : (k : Int) + 1 < s.size := by omega
            by_cases hod : (s[k + 1].toNat < 32 ∨ 126 < s[k + 1].toNat)
            · have ho : outP s[k + 1] = true := by simpa [outP] using hod
              rw [ho] at hq
              have hRn : R = none := by rw [← hq]; rfl
              have HRn := Lib.hid hRn
              clear hq hRn hdr hdr2 ho
              go_wp2_with fail
              all_goals
                exact bodyPost_ret (v := .tuple #[.string ⟨#[]⟩, .string ⟨#[]⟩, .bool false]) (by simp [results, Tryd.results26, go_sem]) rfl ⟨by rw [HRn.out]; rfl, hu.below (fun _ h => h.elim)⟩
            · have ho : outP s[k + 1] = false := by simp [outP]; omega
              rw [ho] at hq
              have hq2 : qtA (acc ++ [s[k + 1]]) (qtL (s.data.toList.drop (k + 2))) = R := by rw [← hq, ← qtA_one]; rfl
              have HQ2 := Lib.hid hq2
              clear hq hq2 hdr hdr2 ho
              go_wp2_with fail
              refine (bld_writeByte wr _ _ v acc hb s[k + 1] _ rfl (by omega) (by have := hu.size; omega)).mono ?_
              rintro e w3 ⟨rfl, v3, hb3, hu3, hl3⟩
              have hu3' := bld_step hu (Nat.le_refl _) (fun q h => by have := hv q h; omega) hu3
              have hv3 : ∀ q, v3.ownBlock = some q → w.heap.size + 1 ≤ q := by
                intro q hq
                rcases hl3 with e | ⟨q', e, hq'⟩
                · exact hv q (by rw [← e]; exact hq)
                · rw [e] at hq; injection hq with hq; omega
              clear hb hu hv hu3 hl3
              go_wp2
              go_roundw
              case rel => exact ⟨k + 2, v3, acc ++ [s[k + 1]], by omega, by omega, by go_num, by rw [List.length_append]; simp; omega, hb3, hv3, hu3', HQ2.out⟩
              case measure => simp [intOf]; omega
          · have hdr2 : s.data.toList.drop (k + 1) = [] := List.drop_of_length_le (by omega)
            rw [hdr2, qt_92n] at hq
            have hRn : R = none := by rw [← hq]; rfl
            have HRn := Lib.hid hRn
            clear hq hRn hdr hdr2
            go_wp2_with fail
            all_goals
              exact bodyPost_ret (v := .tuple #[.string ⟨#[]⟩, .string ⟨#[]⟩, .bool false]) (by simp [results, Tryd.results26, go_sem]) rfl ⟨by rw [HRn.out]; rfl, hu.below (fun _ h => h.elim)⟩
        · have e92 : ((s[k].toNat : Int) == 92) = false := by
            rw [beq_eq_false_iff_ne]; exact fun h => h92 (u8_of (n := 92) (by decide) h)
          rw [qt_o _ h34 h92] at hq
          by_cases hod : (s[k].toNat < 32 ∨ 126 < s[k].toNat)
          · have ho : outP s[k] = true := by simpa [outP] using hod
            rw [ho] at hq
            have hRn : R = none := by rw [← hq]; rfl
            have HRn := Lib.hid hRn
            clear hq hRn hdr ho
            go_wp2_with fail
            all_goals
              exact bodyPost_ret (v := .tuple #[.string ⟨#[]⟩, .string ⟨#[]⟩, .bool false]) (by simp [results, Tryd.results26, go_sem]) rfl ⟨by rw [HRn.out]; rfl, hu.below (fun _ h => h.elim)⟩
          · have ho : outP s[k] = false := by simp [outP]; omega
            rw [ho] at hq
            have hq2 : qtA (acc ++ [s[k]]) (qtL (s.data.toList.drop (k + 1))) = R := by rw [← hq, ← qtA_one]; rfl
            have HQ2 := Lib.hid hq2
            clear hq hq2 hdr ho h34 h92
            go_wp2_with fail
            refine (bld_writeByte wr _ _ v acc hb s[k] _ rfl (by omega) (by have := hu.size; omega)).mono ?_
            rintro e w3 ⟨rfl, v3, hb3, hu3, hl3⟩
            have hu3' := bld_step hu (Nat.le_refl _) (fun q h => by have := hv q h; omega) hu3
            have hv3 : ∀ q, v3.ownBlock = some q → w.heap.size + 1 ≤ q := by
              intro q hq
              rcases hl3 with e | ⟨q', e, hq'⟩
              · exact hv q (by rw [← e]; exact hq)
              · rw [e] at hq; injection hq with hq; omega
            clear hb hu hv hu3 hl3
            go_wp2
            go_roundw
            case rel => exact ⟨k + 1, v3, acc ++ [s[k]], by omega, by omega, by go_num, by rw [List.length_append]; simp; omega, hb3, hv3, hu3', HQ2.out⟩
            case measure => simp [intOf]; omega
    · have hdr : s.data.toList.drop k = [] := List.drop_of_length_le (by omega)
      rw [hdr] at hq
      have hRn : R = none := by rw [← hq]; rfl
      have HRn := Lib.hid hRn
      clear hq hRn hdr
      go_wp2_with fail
      all_goals
        exact bodyPost_ret (v := .tuple #[.string ⟨#[]⟩, .string ⟨#[]⟩, .bool false]) (by simp [results, Tryd.results26, go_sem]) rfl ⟨by rw [HRn.out]; rfl, hu.below (fun _ h => h.elim)⟩
end Go.Proofs.YthfmjiafdfoajaaDoor
