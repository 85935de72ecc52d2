/- How many fly somewhere. -/
import Derived.Test.YthpilbooolgkiaaDel
import Derived.Test.YthpilbooolgkiaaMapL
set_option linter.unusedVariables false
set_option linter.unusedSimpArgs false
namespace Go.Proofs.Ythpilbooolgkiaa
open Go.RowKit
open Go.Maps (int_keyed keyOf_int_mk)

def okI (x : Int) : Prop := (Lit.int .i64 x).wf = true
/-- The map of those that fly. -/
def MS : MK Try.prog 3 Int ByteArray where
  kv := .int .i64
  ok := okI
  vv := .string
  K := int_keyed Try.underlying3
  key a h := ⟨_, keyOf_int_mk Try.underlying3 h⟩
  inj a b h := by injection h
  vinj a b h := by injection h
  tT := 65
  eT := 9
  under := Try.underlying65
  zero := ByteArray.empty
  zrun w := by kernel_rfl
def cntD (d : ByteArray) (l : List (Int × ByteArray)) : Nat := (l.filter fun p => p.2.toList == d.toList).length
theorem cntD_le (d : ByteArray) (l : List (Int × ByteArray)) : cntD d l ≤ l.length := List.length_filter_le _ _
theorem cntD_mid (d : ByteArray) (l1 l2 : List (Int × ByteArray)) (p : Int × ByteArray) : cntD d (l1 ++ p :: l2) = cntD d (l1 ++ l2) + if (p.2.toList == d.toList) = true then 1 else 0 := by
  unfold cntD
  rw [List.filter_append, List.filter_append, List.filter_cons]
  split <;> simp <;> omega
section
variable {w : World} {b r : Nat} {L rest : List (Int × ByteArray)} {ops : Array Oper} {tail : List Oper} {o : Oper} {a : Act} {Q : Exit → Act → World → Prop}
/-- One more came out of the map. -/
def NS (w w' : World) (b r : Nat) (L rest : List (Int × ByteArray)) (x : Int) (u : ByteArray) : Prop :=
  ∃ l1 l2, rest = l1 ++ (x, u) :: l2 ∧ Rng MS w' b r L (l1 ++ l2) ∧ Upd w w' (· = r) ∧ (Instr.entry (.pointer (some ⟨r, 0, none⟩))).run Try.prog w' = .ok (.tuple #[.int .i64 x, .string u]) w'
theorem nextS (h : Rng MS w b r L rest) (hg : o.guard = none) (it : Operand) (hop : o.op = Op.next it false) (hit : a.eval it = .pointer (some ⟨r, 0, none⟩))
    (hDone : rest = [] → wpList Try.prog ops Q tail (a.put o.dst (.tuple #[.bool false])) w)
    (hMore : ∀ x u w', NS w w' b r L rest x u → wpList Try.prog ops Q tail (a.put o.dst (.tuple #[.bool true, .int .i64 x, .string u])) w') : wpList Try.prog ops Q (o :: tail) a w :=
  wp_nextM h hg it hop hit hDone (fun l1 p l2 w' h1 h2 h3 h4 h5 h6 h7 => by obtain ⟨k, u⟩ := p; exact hMore k u w' ⟨l1, l2, h1, h2, h5, h7⟩)
end
set_option maxHeartbeats 1000000 in
theorem flying_any (w : World) (g b : Nat) (fly : List (Int × ByteArray)) (d : ByteArray) (c4 : w.cell? ⟨g, 4, none⟩ = some (.map (some b))) (hm : Mp MS w b fly) (hl : fly.length ≤ 5000) :
    Calls Try.prog 24 #[.pointer (some ⟨g, 0, none⟩), .string d] w fun r w' => r = .returned (.int .i64 (cntD d fly)) ∧ Upd w w' Nope := by
  have hcl := cntD_le d fly
  have HB := Lib.hid hm.lt
  go_enter Try.func24, Try.ntmps24
  go_wp2_with (first | (at_range; refine wp_rangeM hm rfl _ rfl rfl ?_; intro w1 hr1 hu1 hz1) | fail)
  have HR1 := Lib.hid hr1
  have HU1 := Lib.hid (hu1)
  clear hr1 hu1 hz1 hm c4
  go_frame
  generalize hr : w.heap.size = r at *
  have HRW := Lib.hid hr
  clear hr
  go_loopw [5] (fun i wr => ∃ (k : Nat) (rest : List (Int × ByteArray)), i = .int .i64 k ∧ Rng MS wr b r fly rest ∧ k + cntD d rest = cntD d fly ∧ Upd w wr Nope) (fun _ wr => wr.rangeLeft b r)
  case atStart => exact ⟨0, fly, rfl, HR1.out, by omega, HU1.out⟩
  case round =>
    obtain ⟨k, rest, rfl, hrg, hcnt, hU⟩ := hrel
    have HU := Lib.hid hU
    have HCN := Lib.hid hcnt
    have HLE := Lib.hid hrg.left_eq
    clear hU hcnt
    go_wp2_with (first | (at_next; refine nextS hrg rfl _ rfl rfl ?_ ?_) | fail)
    · rintro rfl
      have HF := Lib.hid (show (k : Int) = (cntD d fly : Int) by have := HCN.out; simp [cntD] at this ⊢; omega)
      clear hrg
      go_wp2
      go_ret
      refine ⟨?_, HU.out⟩
      rw [← HF.out]
      rfl
    · intro x u w2 hNS
      obtain ⟨l1, l2, hre, hr2, hu2, hen⟩ := hNS
      have hU2 : Upd w w2 Nope := HU.out.on hu2 (by rw [HRW.out]; exact Nat.le_refl _)
      have hlen : rest.length = (l1 ++ l2).length + 1 := by rw [hre]; simp; omega
      have hmid := cntD_mid d l1 l2 (x, u)
      rw [← hre] at hmid
      simp only at hmid
      have HMS := Lib.hid (show w2.rangeLeft b r < (wr : World).rangeLeft b r by rw [hr2.left_eq, HLE.out]; omega)
      have HR2 := Lib.hid hr2
      have HU2 := Lib.hid hU2
      have hkb : k ≤ 5000 := by have := HCN.out; omega
      by_cases he : (u.toList == d.toList) = true
      · have HC2 := Lib.hid (show k + 1 + cntD d (l1 ++ l2) = cntD d fly by have := HCN.out; rw [if_pos he] at hmid; omega)
        clear hrg hre hr2 hu2 hU2 hlen hmid
        go_wp2
        go_roundw
        case rel => exact ⟨k + 1, _, by go_num, HR2.out, HC2.out, HU2.out⟩
        case measure => exact HMS.out
      · have he' : (u.toList == d.toList) = false := by simpa using he
        have HC2 := Lib.hid (show k + cntD d (l1 ++ l2) = cntD d fly by have := HCN.out; rw [if_neg he] at hmid; omega)
        clear hrg hre hr2 hu2 hU2 hlen hmid he
        go_wp2
        go_roundw
        case rel => exact ⟨k, _, rfl, HR2.out, HC2.out, HU2.out⟩
        case measure => exact HMS.out
end Go.Proofs.Ythpilbooolgkiaa
