/- The reference: best. -/
import Derived.Test.YthpilbooolgkiaaRfc
set_option linter.unusedVariables false
set_option linter.unusedSimpArgs false
namespace Go.Proofs.Ythpilbooolgkiaa
open Go.RowKit

/-- May it be, by the reference's count? -/
def freeF (limit : Int) (Fl : List En) (e : En) : Bool := decide ((cntF e.dest Fl : Int) < limit)
/-- The place of the first of the greatest ranks of those that may be, among the first n; -1: none. -/
def Bst (p : En → Bool) (rk : En → Int) (L : List En) (n : Nat) (r : Int) : Prop :=
  (r = -1 ∧ ∀ j (h : j < L.length), j < n → p L[j] = false) ∨ ∃ m : Nat, ∃ hm : m < L.length, r = (m : Int) ∧ m < n ∧ p L[m] = true ∧ (∀ j (h : j < L.length), j < m → p L[j] = true → rk L[j] < rk L[m]) ∧ ∀ j (h : j < L.length), m < j → j < n → p L[j] = true → rk L[j] ≤ rk L[m]
theorem Bst.zero {p : En → Bool} {rk : En → Int} {L : List En} : Bst p rk L 0 (-1) := .inl ⟨rfl, fun j _ h => by omega⟩
theorem Bst.skip {p : En → Bool} {rk : En → Int} {L : List En} {n : Nat} {r : Int} (h : Bst p rk L n r) (hn : n < L.length) (hp : p L[n] = false) : Bst p rk L (n + 1) r := by
  rcases h with ⟨h1, h2⟩ | ⟨m, hm, h1, h2, h3, h4, h5⟩
  · refine .inl ⟨h1, fun j hj hjn => ?_⟩
    by_cases e : j = n
    · subst e; exact hp
    · exact h2 j hj (by omega)
  · refine .inr ⟨m, hm, h1, by omega, h3, h4, fun j hj hmj hjn hf => ?_⟩
    by_cases e : j = n
    · subst e; rw [hp] at hf; cases hf
    · exact h5 j hj hmj (by omega) hf
theorem Bst.first {p : En → Bool} {rk : En → Int} {L : List En} {n : Nat} (h : Bst p rk L n (-1)) (hn : n < L.length) (hp : p L[n] = true) : Bst p rk L (n + 1) n := by
  rcases h with ⟨_, h2⟩ | ⟨m, hm, h1, _⟩
  · refine .inr ⟨n, hn, rfl, by omega, hp, fun j hj hjn hf => ?_, fun j hj h1 h2 _ => by omega⟩
    rw [h2 j hj hjn] at hf
    cases hf
  · omega
theorem Bst.more {p : En → Bool} {rk : En → Int} {L : List En} {n m : Nat} (h : Bst p rk L n (m : Int)) (hm : m < L.length) (hn : n < L.length) (hp : p L[n] = true) (hr : rk L[m] < rk L[n]) : Bst p rk L (n + 1) n := by
  rcases h with ⟨h1, _⟩ | ⟨m', hm', h1, h2, h3, h4, h5⟩
  · omega
  · obtain rfl : m = m' := by omega
    refine .inr ⟨n, hn, rfl, by omega, hp, fun j hj hjn hf => ?_, fun j hj h1 h2 _ => by omega⟩
    rcases Nat.lt_trichotomy j m with e | e | e
    · have := h4 j hj e hf; omega
    · subst e; exact hr
    · have := h5 j hj e hjn hf; omega
theorem Bst.less {p : En → Bool} {rk : En → Int} {L : List En} {n m : Nat} (h : Bst p rk L n (m : Int)) (hm : m < L.length) (hn : n < L.length) (hr : ¬ rk L[m] < rk L[n]) : Bst p rk L (n + 1) m := by
  rcases h with ⟨h1, _⟩ | ⟨m', hm', h1, h2, h3, h4, h5⟩
  · omega
  · obtain rfl : m = m' := by omega
    refine .inr ⟨m, hm, rfl, by omega, h3, h4, fun j hj hmj hjn hf => ?_⟩
    by_cases e : j = n
    · subst e; omega
    · exact h5 j hj hmj (by omega) hf
theorem RE.uw {w : World} {A : Option Addr} {cap : Nat} {L : List En} (h : RE w A cap L) {i : Nat} (hi : i < L.length) : ∃ ad, A = some ad ∧ (∀ z : UW w, z.val.cell? (ad.add (i * 4)) = some (.int .i64 L[i].id)) ∧ (∀ z : UW w, z.val.cell? ⟨(ad.add (i * 4)).block, (ad.add (i * 4)).off + 1, none⟩ = some (.string L[i].dest)) ∧
    (∀ z : UW w, z.val.cell? ⟨(ad.add (i * 4)).block, (ad.add (i * 4)).off + 2, none⟩ = some (.int .i64 L[i].pri)) ∧ (∀ z : UW w, z.val.cell? ⟨(ad.add (i * 4)).block, (ad.add (i * 4)).off + 3, none⟩ = some (.int .i64 L[i].at_)) := by
  obtain ⟨ad, e, x0, x1, x2, x3⟩ := h.at_ hi
  exact ⟨ad, e, fun z => z.cell x0, fun z => z.cell x1, fun z => z.cell x2, fun z => z.cell x3⟩
def mayB (capped : Bool) (limit : Int) (Fl : List En) (e : En) : Bool := !capped || freeF limit Fl e
def BestP (w : World) (p : En → Bool) (rk : En → Int) (L : List En) (e : Ending) (w' : World) : Prop := ∃ r, e = .returned (.int .i64 r) ∧ Bst p rk L L.length r ∧ Upd w w' Nope
set_option maxHeartbeats 4000000 in
theorem bestF_any (w : World) (age limit room : Int) (A B : Option Addr) (cap capB : Nat) (L Fl : List En) (hr : RE w A cap L) (hb : RE w B capB Fl) (hl : L.length ≤ 5000) (hfl : Fl.length ≤ 5000) (hok : ∀ e ∈ L, e.ok) (now : Int) (n0 : -2199023255552 ≤ now) (n1 : now ≤ 2199023255552) (a0 : 1 ≤ age) (a1 : age ≤ 1048576) (capped : Bool) :
    Calls Try.prog 29 #[.agg #[.int .i64 age, .int .i64 limit, .int .i64 room, .slice A L.length cap, .slice B Fl.length capB], .int .i64 now, .bool capped] w (BestP w (mayB capped limit Fl) (fun e => e.rank now age) L) := by
  have HR := Lib.hid hr
  have HB := Lib.hid hb
  have HOK := Lib.hid hok
  clear hr hb hok
  go_enter Try.func29, Try.ntmps29
  go_wp2
  have hB := Blk.new w #[.int .i64 age, .int .i64 limit, .int .i64 room, .slice A L.length cap, .slice B Fl.length capB] 32
  have hU : Upd w (w.alloc (.cells #[.int .i64 age, .int .i64 limit, .int .i64 room, .slice A L.length cap, .slice B Fl.length capB] 32)) Nope := (Upd.refl w _).alloc _
  generalize w.alloc (.cells #[.int .i64 age, .int .i64 limit, .int .i64 room, .slice A L.length cap, .slice B Fl.length capB] 32) = w2 at *
  have HBk := Lib.hid hB
  have HU := Lib.hid hU
  have x3 : w2.cell? ⟨w.heap.size, 3, none⟩ = some (.slice A L.length cap) := (hB.cell 3).trans rfl
  clear hB hU
  clear x3
  go_loopw [7, 8] (fun c i wr => ∃ (k : Nat) (r : Int), i = .int .i64 k ∧ c = .int .i64 r ∧ k ≤ L.length ∧ Bst (mayB capped limit Fl) (fun e => e.rank now age) L k r ∧ Upd w2 wr Nope) (fun _ i _ => L.length - (intOf i).toNat)
  case atStart => exact ⟨0, -1, rfl, rfl, by omega, Bst.zero, Upd.refl _ _⟩
  case round =>
    obtain ⟨k, r, rfl, rfl, hk, hbst, hU⟩ := hrel
    have HV := Lib.hid hU
    have HBS := Lib.hid hbst
    have hBk := HBk.out.upd hU (fun h => h)
    have x3 : wr.cell? ⟨w.heap.size, 3, none⟩ = some (.slice A L.length cap) := (hBk.cell 3).trans rfl
    have HBr := Lib.hid hBk
    clear hU hbst hBk
    by_cases hlt : k < L.length
    · have hRE := (HR.out.nn (HU.out.nn HV.out))
      obtain ⟨ad, rfl, y0, y1, y2, y3⟩ := hRE.uw hlt
      have X0 := fun z : UW wr => z.cell ((HBr.out.cell 0).trans rfl : wr.cell? ⟨w.heap.size, 0, none⟩ = some (.int .i64 age))
      have X1 := fun z : UW wr => z.cell ((HBr.out.cell 1).trans rfl : wr.cell? ⟨w.heap.size, 1, none⟩ = some (.int .i64 limit))
      have X2 := fun z : UW wr => z.cell ((HBr.out.cell 2).trans rfl : wr.cell? ⟨w.heap.size, 2, none⟩ = some (.int .i64 room))
      have X3 := fun z : UW wr => z.cell ((HBr.out.cell 3).trans rfl : wr.cell? ⟨w.heap.size, 3, none⟩ = some (.slice (some ad) L.length cap))
      have X4 := fun z : UW wr => z.cell ((HBr.out.cell 4).trans rfl : wr.cell? ⟨w.heap.size, 4, none⟩ = some (.slice B Fl.length capB))
      have HFY := Lib.hid (fun z : UW wr => flyF_any z.val age limit room (some ad) B L.length cap capB Fl (((HB.out.nn (HU.out.nn HV.out))).nn z.ok) hfl L[k].dest)
      clear hRE
      go_upto_region 5 with (fail)
      cases capped with
      | true =>
        by_cases hf : freeF limit Fl L[k] = true
        · have HMAY := Lib.hid (show mayB true limit Fl L[k] = true by simp [mayB, hf])
          have hcd : decide (limit ≤ (cntF L[k].dest Fl : Int)) = false := by
            unfold freeF at hf
            exact decide_eq_false (by have := of_decide_eq_true hf; omega)
          clear hf
          refine region_uw (by kernel_rfl) (by kernel_rfl) ?_
          repeat (first
            | go_big_quiet_skip
            | (go_big_quiet_want; go_big_quiet_op; first | go_big_quiet_on | go_big_quiet_call ((go_at_call 25; with_reducible exact UW.call (HFY.out _)))))
          refine wpQuiet_nil ?_
          rintro _ ⟨z, rfl⟩
          have HV2 := Lib.hid (HV.out.nn z.ok)
          have y0 := y0 z
          have y1 := y1 z
          have y2 := y2 z
          have y3 := y3 z
          have HB2 := Lib.hid (HBr.out.upd z.ok (fun h => h))
          clear X0 X1 X2 X3 X4 HFY x3 HBr
          generalize z.val = w5 at *
          have HY := Lib.hid (And.intro y0 (And.intro y1 (And.intro y2 y3)))
          have HR5 := Lib.hid (HR.out.nn (HU.out.nn HV2.out))
          have x3 : w5.cell? ⟨w.heap.size, 3, none⟩ = some (.slice (some ad) L.length cap) := (HB2.out.cell 3).trans rfl
          clear y0 y1 y2 y3 x3
          go_upto_region 6 with (fail)
          have hrc : r = -1 ∨ ∃ m : Nat, ∃ hm : m < L.length, r = (m : Int) := by
            rcases HBS.out with ⟨h, _⟩ | ⟨m, hm, h, _⟩
            · exact .inl h
            · exact .inr ⟨m, hm, h⟩
          have X0 := fun z : UW w5 => z.cell ((HB2.out.cell 0).trans rfl : w5.cell? ⟨w.heap.size, 0, none⟩ = some (.int .i64 age))
          have X3 := fun z : UW w5 => z.cell ((HB2.out.cell 3).trans rfl : w5.cell? ⟨w.heap.size, 3, none⟩ = some (.slice (some ad) L.length cap))
          rcases hrc with rfl | ⟨m, hm, rfl⟩
          · refine region_uw (by kernel_rfl) (by kernel_rfl) ?_
            repeat (first | go_big_quiet_skip | (go_big_quiet_want; go_big_quiet_op; go_big_quiet_on))
            refine wpQuiet_nil ?_
            rintro _ ⟨z, rfl⟩
            have HV3 := Lib.hid (HV2.out.nn z.ok)
            clear X0 X3
            generalize z.val = w6 at *
            go_wp2_with fail
            go_roundw
            case rel => exact ⟨k + 1, (k : Int), by go_num, rfl, by omega, HBS.out.first hlt HMAY.out, HV3.out⟩
            case measure => simp [intOf]; omega
          · obtain ⟨ad2, e2, z0, z1, z2, z3⟩ := HR5.out.uw hm
            cases e2
            obtain ⟨ad3, e3, y0, y1, y2, y3⟩ := HR5.out.uw hlt
            cases e3
            have HR1 := Lib.hid (fun z : UW w5 => rankF_any L[k] (HOK.out _ (List.getElem_mem hlt)) now age n0 n1 a0 a1 z.val)
            have HR2 := Lib.hid (fun z : UW w5 => rankF_any L[m] (HOK.out _ (List.getElem_mem hm)) now age n0 n1 a0 a1 z.val)
            have hl1 := HBS.out.more hm hlt HMAY.out
            have hl2 := HBS.out.less hm hlt
            have HLT := Lib.hid (And.intro hl1 hl2)
            clear hl1 hl2
            have hmn : decide ((m : Int) < 0) = false := decide_eq_false (by omega)
            generalize L[k].rank now age = ry at *
            generalize L[m].rank now age = rx at *
            generalize L[m] = x at *
            have hcs : decide (rx < ry) = true ∨ decide (rx < ry) = false := by cases decide (rx < ry) <;> simp
            rcases hcs with t1 | t1
            · refine region_uw (by kernel_rfl) (by kernel_rfl) ?_
              repeat (first
                | go_big_quiet_skip
                | (go_big_quiet_want; go_big_quiet_op; first | go_big_quiet_on | go_big_quiet_call (first | (go_at_call 36; with_reducible exact UW.call (HR1.out _)) | (go_at_call 36; with_reducible exact UW.call (HR2.out _)))))
              refine wpQuiet_nil ?_
              rintro _ ⟨z, rfl⟩
              have HV3 := Lib.hid (HV2.out.nn z.ok)
              clear X0 X3 y0 y1 y2 y3 z0 z1 z2 z3 HR1 HR2
              generalize z.val = w6 at *
              go_wp2_with fail
              go_roundw
              case rel => exact ⟨k + 1, (k : Int), by go_num, rfl, by omega, HLT.out.1 (of_decide_eq_true t1), HV3.out⟩
              case measure => simp [intOf]; omega
            · refine region_uw (by kernel_rfl) (by kernel_rfl) ?_
              repeat (first
                | go_big_quiet_skip
                | (go_big_quiet_want; go_big_quiet_op; first | go_big_quiet_on | go_big_quiet_call (first | (go_at_call 36; with_reducible exact UW.call (HR1.out _)) | (go_at_call 36; with_reducible exact UW.call (HR2.out _)))))
              refine wpQuiet_nil ?_
              rintro _ ⟨z, rfl⟩
              have HV3 := Lib.hid (HV2.out.nn z.ok)
              clear X0 X3 y0 y1 y2 y3 z0 z1 z2 z3 HR1 HR2
              generalize z.val = w6 at *
              go_wp2_with fail
              go_roundw
              case rel => exact ⟨k + 1, (m : Int), by go_num, rfl, by omega, HLT.out.2 (of_decide_eq_false t1), HV3.out⟩
              case measure => simp [intOf]; omega
        · have HMAY := Lib.hid (show mayB true limit Fl L[k] = false by simp [mayB, hf])
          have hcd : decide (limit ≤ (cntF L[k].dest Fl : Int)) = true := by
            unfold freeF at hf
            exact decide_eq_true (by have := mt decide_eq_true hf; omega)
          clear hf
          refine region_uw (by kernel_rfl) (by kernel_rfl) ?_
          repeat (first
            | go_big_quiet_skip
            | (go_big_quiet_want; go_big_quiet_op; first | go_big_quiet_on | go_big_quiet_call ((go_at_call 25; with_reducible exact UW.call (HFY.out _)))))
          refine wpQuiet_nil ?_
          rintro _ ⟨z, rfl⟩
          have HV2 := Lib.hid (HV.out.nn z.ok)
          have y0 := y0 z
          have y1 := y1 z
          have y2 := y2 z
          have y3 := y3 z
          have HB2 := Lib.hid (HBr.out.upd z.ok (fun h => h))
          clear X0 X1 X2 X3 X4 HFY x3 HBr
          generalize z.val = w5 at *
          go_wp2_with fail
          go_roundw
          case rel => exact ⟨k + 1, r, by go_num, rfl, by omega, HBS.out.skip hlt HMAY.out, HV2.out⟩
          case measure => simp [intOf]; omega
      | false =>
        have HMAY := Lib.hid (show mayB false limit Fl L[k] = true by simp [mayB])
        refine region_uw (by kernel_rfl) (by kernel_rfl) ?_
        repeat (first
          | go_big_quiet_skip
          | (go_big_quiet_want; go_big_quiet_op; first | go_big_quiet_on | go_big_quiet_call ((go_at_call 25; with_reducible exact UW.call (HFY.out _)))))
        refine wpQuiet_nil ?_
        rintro _ ⟨z, rfl⟩
        have HV2 := Lib.hid (HV.out.nn z.ok)
        have y0 := y0 z
        have y1 := y1 z
        have y2 := y2 z
        have y3 := y3 z
        have HB2 := Lib.hid (HBr.out.upd z.ok (fun h => h))
        clear X0 X1 X2 X3 X4 HFY x3 HBr
        generalize z.val = w5 at *
        have HY := Lib.hid (And.intro y0 (And.intro y1 (And.intro y2 y3)))
        have HR5 := Lib.hid (HR.out.nn (HU.out.nn HV2.out))
        have x3 : w5.cell? ⟨w.heap.size, 3, none⟩ = some (.slice (some ad) L.length cap) := (HB2.out.cell 3).trans rfl
        clear y0 y1 y2 y3 x3
        go_upto_region 6 with (fail)
        have hrc : r = -1 ∨ ∃ m : Nat, ∃ hm : m < L.length, r = (m : Int) := by
          rcases HBS.out with ⟨h, _⟩ | ⟨m, hm, h, _⟩
          · exact .inl h
          · exact .inr ⟨m, hm, h⟩
        have X0 := fun z : UW w5 => z.cell ((HB2.out.cell 0).trans rfl : w5.cell? ⟨w.heap.size, 0, none⟩ = some (.int .i64 age))
        have X3 := fun z : UW w5 => z.cell ((HB2.out.cell 3).trans rfl : w5.cell? ⟨w.heap.size, 3, none⟩ = some (.slice (some ad) L.length cap))
        rcases hrc with rfl | ⟨m, hm, rfl⟩
        · refine region_uw (by kernel_rfl) (by kernel_rfl) ?_
          repeat (first | go_big_quiet_skip | (go_big_quiet_want; go_big_quiet_op; go_big_quiet_on))
          refine wpQuiet_nil ?_
          rintro _ ⟨z, rfl⟩
          have HV3 := Lib.hid (HV2.out.nn z.ok)
          clear X0 X3
          generalize z.val = w6 at *
          go_wp2_with fail
          go_roundw
          case rel => exact ⟨k + 1, (k : Int), by go_num, rfl, by omega, HBS.out.first hlt HMAY.out, HV3.out⟩
          case measure => simp [intOf]; omega
        · obtain ⟨ad2, e2, z0, z1, z2, z3⟩ := HR5.out.uw hm
          cases e2
          obtain ⟨ad3, e3, y0, y1, y2, y3⟩ := HR5.out.uw hlt
          cases e3
          have HR1 := Lib.hid (fun z : UW w5 => rankF_any L[k] (HOK.out _ (List.getElem_mem hlt)) now age n0 n1 a0 a1 z.val)
          have HR2 := Lib.hid (fun z : UW w5 => rankF_any L[m] (HOK.out _ (List.getElem_mem hm)) now age n0 n1 a0 a1 z.val)
          have hl1 := HBS.out.more hm hlt HMAY.out
          have hl2 := HBS.out.less hm hlt
          have HLT := Lib.hid (And.intro hl1 hl2)
          clear hl1 hl2
          have hmn : decide ((m : Int) < 0) = false := decide_eq_false (by omega)
          generalize L[k].rank now age = ry at *
          generalize L[m].rank now age = rx at *
          generalize L[m] = x at *
          have hcs : decide (rx < ry) = true ∨ decide (rx < ry) = false := by cases decide (rx < ry) <;> simp
          rcases hcs with t1 | t1
          · refine region_uw (by kernel_rfl) (by kernel_rfl) ?_
            repeat (first
              | go_big_quiet_skip
              | (go_big_quiet_want; go_big_quiet_op; first | go_big_quiet_on | go_big_quiet_call (first | (go_at_call 36; with_reducible exact UW.call (HR1.out _)) | (go_at_call 36; with_reducible exact UW.call (HR2.out _)))))
            refine wpQuiet_nil ?_
            rintro _ ⟨z, rfl⟩
            have HV3 := Lib.hid (HV2.out.nn z.ok)
            clear X0 X3 y0 y1 y2 y3 z0 z1 z2 z3 HR1 HR2
            generalize z.val = w6 at *
            go_wp2_with fail
            go_roundw
            case rel => exact ⟨k + 1, (k : Int), by go_num, rfl, by omega, HLT.out.1 (of_decide_eq_true t1), HV3.out⟩
            case measure => simp [intOf]; omega
          · refine region_uw (by kernel_rfl) (by kernel_rfl) ?_
            repeat (first
              | go_big_quiet_skip
              | (go_big_quiet_want; go_big_quiet_op; first | go_big_quiet_on | go_big_quiet_call (first | (go_at_call 36; with_reducible exact UW.call (HR1.out _)) | (go_at_call 36; with_reducible exact UW.call (HR2.out _)))))
            refine wpQuiet_nil ?_
            rintro _ ⟨z, rfl⟩
            have HV3 := Lib.hid (HV2.out.nn z.ok)
            clear X0 X3 y0 y1 y2 y3 z0 z1 z2 z3 HR1 HR2
            generalize z.val = w6 at *
            go_wp2_with fail
            go_roundw
            case rel => exact ⟨k + 1, (m : Int), by go_num, rfl, by omega, HLT.out.2 (of_decide_eq_false t1), HV3.out⟩
            case measure => simp [intOf]; omega
    · obtain rfl : k = L.length := by omega
      go_wp2_with fail
      go_ret
      exact ⟨r, rfl, HBS.out, HU.out.nn HV.out⟩
end Go.Proofs.Ythpilbooolgkiaa
