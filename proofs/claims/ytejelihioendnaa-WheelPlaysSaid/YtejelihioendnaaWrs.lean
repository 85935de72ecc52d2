/- The reference: Set. -/
import Derived.Test.YtejelihioendnaaWrc
import Derived.Test.YtejelihioendnaaWlr
import Derived.Test.YtejelihioendnaaSeqt

set_option linter.unusedVariables false
set_option linter.unusedSimpArgs false
namespace Go.Proofs.Ytejelihioendnaa
open Go.RowKit
def SetF (w : World) (now id due : Int) (A : Option Addr) (L : List (Int × Int)) (e : Ending) (w' : World) : Prop :=
  ∃ A' cap', e = .returned (.tuple #[.agg #[.int .i64 now, .slice A' (setT now L id due).length cap'], .int .i64 (setC id due)]) ∧ Rw w' A' cap' (setT now L id due) ∧ Upd w w' Nope ∧ (A' = A ∨ ∀ ad, A' = some ad → w.heap.size ≤ ad.block)
theorem insT_at {p : Int × Int} : ∀ {L : List (Int × Int)} {k : Nat}, (∀ j, ∀ h : j < L.length, j < k → L[j].1 < p.1 ∨ (L[j].1 = p.1 ∧ L[j].2 < p.2)) → k ≤ L.length → (∀ h : k < L.length, ¬ (L[k].1 < p.1 ∨ (L[k].1 = p.1 ∧ L[k].2 < p.2))) → insT p L = L.take k ++ p :: L.drop k
  | [], k, _, hk, _ => by simp [insT]
  | a :: T, 0, _, _, h => by
    unfold insT
    have h' : ¬ (a.1 < p.1 ∨ (a.1 = p.1 ∧ a.2 < p.2)) := h (by simp)
    rw [if_neg h']
    rfl
  | a :: T, k + 1, h1, hk, h2 => by
    unfold insT
    have h' : a.1 < p.1 ∨ (a.1 = p.1 ∧ a.2 < p.2) := h1 0 (by simp) (by omega)
    rw [if_pos h']
    rw [insT_at (k := k) (fun j hj hjk => h1 (j + 1) (by simpa using hj) (by omega)) (by simpa using hk) (fun h => h2 (by simpa using h))]
    rfl
set_option maxRecDepth 100000 in
set_option maxHeartbeats 4000000 in
theorem setF_any (w : World) (now id due : Int) (A : Option Addr) (cap : Nat) (L : List (Int × Int)) (hr : Rw w A cap L) (hL : L.length ≤ 1000) (hid : (L.map (·.2)).Nodup) (hn0 : 0 ≤ now) (hn1 : now ≤ 1099511627776) :
    Calls Try.prog 10 #[.agg #[.int .i64 now, .slice A L.length cap], .int .i64 id, .int .i64 due] w (SetF w now id due A L) := by
  have HR := Lib.hid hr
  have HID := Lib.hid hid
  clear hr hid
  by_cases hg : id < 0 ∨ due < 0 ∨ 2199023255552 < due
  · have hs : setT now L id due = L ∧ setC id due = 1 := by unfold setT setC; rw [if_pos hg, if_pos hg]; exact ⟨rfl, rfl⟩
    have HS := Lib.hid hs
    have h1 : decide (id < 0) = true ∨ (decide (id < 0) = false ∧ decide (due < 0) = true) ∨ (decide (id < 0) = false ∧ decide (due < 0) = false ∧ decide (2199023255552 < due) = true) := by
      simp only [decide_eq_true_eq, decide_eq_false_iff_not]; omega
    clear hg hs
    rcases h1 with h1 | ⟨h1, h2⟩ | ⟨h1, h2, h3⟩
    all_goals
      go_enter Try.func10, Try.ntmps10
      go_wp2
      refine bodyPost_ret (v := .tuple #[.agg #[.int .i64 now, .slice A L.length cap], .int .i64 1]) (by simp [results, Try.results10, go_sem]) rfl ?_
      unfold SetF
      rw [HS.out.1, HS.out.2]
      have hU := ((Upd.refl w Nope).alloc (.cells #[.int .i64 now, .slice A L.length cap] 30)).alloc (.cells #[.int .i64 now, .slice A L.length cap] 30)
      exact ⟨A, cap, rfl, HR.out.nn hU, hU, .inl rfl⟩
  · have hs : setT now L id due = insT (max due (now + 1), id) (delT id L) ∧ setC id due = 0 := by unfold setT setC; rw [if_neg hg, if_neg hg]; exact ⟨rfl, rfl⟩
    have HS := Lib.hid hs
    have h1 : decide (id < 0) = false := by simp; omega
    have h2 : decide (due < 0) = false := by simp; omega
    have h3 : decide (2199023255552 < due) = false := by simp; omega
    obtain ⟨d, hdd⟩ : ∃ d, d = max due (now + 1) := ⟨_, rfl⟩
    rw [← hdd] at HS
    have hcase : (decide (due ≤ now) = true ∧ now + 1 = d) ∨ (decide (due ≤ now) = false ∧ due = d) := by simp only [decide_eq_true_eq, decide_eq_false_iff_not]; omega
    clear hg hs
    have hok : d ≤ 2199023255552 := by simp at h3; omega
    have hdl : (delT id L).length ≤ L.length := delT_le
    have HDL := Lib.hid hdl
    clear hdl hdd
    rcases hcase with ⟨c1, c2⟩ | ⟨c1, c2⟩
    rotate_left
    have c3 := c2.symm
    subst c3
    clear c2
    have c2 : True := trivial
    all_goals
      go_enter Try.func10, Try.ntmps10
      go_upto_region 5 with (fail)
      have hB := (Blk.new w #[.int .i64 now, .slice A L.length cap] 30).alloc (.cells #[.int .i64 0, .slice none 0 0] 30)
      have hC := Blk.new (w.alloc (.cells #[.int .i64 now, .slice A L.length cap] 30)) #[.int .i64 0, .slice none 0 0] 30
      have hU : Upd w ((w.alloc (.cells #[.int .i64 now, .slice A L.length cap] 30)).alloc (.cells #[.int .i64 0, .slice none 0 0] 30)) Nope := ((Upd.refl w _).alloc _).alloc _
      have hz : (w.alloc (.cells #[.int .i64 now, .slice A L.length cap] 30)).heap.size = w.heap.size + 1 := by simp
      rw [hz] at hC
      clear hz
      generalize (w.alloc (.cells #[.int .i64 now, .slice A L.length cap] 30)).alloc (.cells #[.int .i64 0, .slice none 0 0] 30) = w2 at *
      have b0 : w2.cell? ⟨w.heap.size, 0, none⟩ = some (.int .i64 now) := (hB.cell 0).trans rfl
      have b1 : w2.cell? ⟨w.heap.size, 1, none⟩ = some (.slice A L.length cap) := (hB.cell 1).trans rfl
      have HB := Lib.hid hB
      have HC := Lib.hid hC
      have HU := Lib.hid hU
      clear hB hC hU h1 h2 h3 c1 c2
      have HCN := Lib.hid (cancelF_any w2 now id A cap L (HR.out.nn HU.out) hL HID.out)
      go_wp2_with fail
      refine HCN.out.mono ?_
      rintro e w3 ⟨A3, cap3, rfl, hr3, u3, hA3⟩
      have hB3 := HB.out.upd u3 (fun h => h)
      have hC3 := HC.out.upd u3 (fun h => h)
      have b0 : w3.cell? ⟨w.heap.size, 0, none⟩ = some (.int .i64 now) := (hB3.cell 0).trans rfl
      have b1 : w3.cell? ⟨w.heap.size, 1, none⟩ = some (.slice A L.length cap) := (hB3.cell 1).trans rfl
      have bf0 := hB3.frozen 0
      have bf1 := hB3.frozen 1
      have HR3 := Lib.hid hr3
      have HU3 := Lib.hid u3
      have HA3 := Lib.hid hA3
      have HB3 := Lib.hid hB3
      have HC3 := Lib.hid hC3
      clear hr3 u3 hA3 hB3 hC3
      generalize delT id L = M at *
      go_upto_region 6 with (fail)
      have hB4 := (HB3.out.set 0 (.int .i64 now)).set 1 (.slice A3 M.length cap3)
      have hC4 := (HC3.out.far (p := ⟨w.heap.size, 0, none⟩) (by simp) (.int .i64 now)).far (p := ⟨w.heap.size, 1, none⟩) (by simp) (.slice A3 M.length cap3)
      have hU4 : Upd w3 ((w3.setCell ⟨w.heap.size, 0, none⟩ (.int .i64 now)).setCell ⟨w.heap.size, 1, none⟩ (.slice A3 M.length cap3)) (fun i => i = w.heap.size) := ((Upd.refl w3 (fun i => i = w.heap.size)).set ⟨w.heap.size, 0, none⟩ (.int .i64 now) (.inl rfl)).set ⟨w.heap.size, 1, none⟩ (.slice A3 M.length cap3) (.inl rfl)
      have hr4 : Rw ((w3.setCell ⟨w.heap.size, 0, none⟩ (.int .i64 now)).setCell ⟨w.heap.size, 1, none⟩ (.slice A3 M.length cap3)) A3 cap3 M := HR3.out.away hU4 fun ad e h => by
        rcases HA3.out with ha | ha
        · have := HR.out.lt ad (by rw [← ha]; exact e); omega
        · have := ha ad e; have := HB.out.lt; omega
      generalize (w3.setCell ⟨w.heap.size, 0, none⟩ (.int .i64 now)).setCell ⟨w.heap.size, 1, none⟩ (.slice A3 M.length cap3) = w4 at *
      have HU4 := Lib.hid ((HU.out.nn HU3.out).trans hU4 (fun _ _ h => h) (fun i h e => by omega))
      have HR4 := Lib.hid hr4
      have HB4 := Lib.hid hB4
      have HC4 := Lib.hid hC4
      clear hU4 hr4 hB4 hC4 bf0 bf1 b0 b1
      clear b0 b1
      have b0 : w4.cell? ⟨w.heap.size, 0, none⟩ = some (.int .i64 now) := (HB4.out.cell 0).trans rfl
      have b1 : w4.cell? ⟨w.heap.size, 1, none⟩ = some (.slice A3 M.length cap3) := (HB4.out.cell 1).trans rfl
      have hM : M.length ≤ 9223372036854775807 := by have := HDL.out; omega
      go_wp2
      go_loop [8] (fun i => ∃ k : Nat, k ≤ M.length ∧ i = .int .i64 k ∧ ∀ j, ∀ h : j < M.length, j < k → M[j].1 < d ∨ (M[j].1 = d ∧ M[j].2 < id)) (fun i => M.length - (intOf i).toNat)
      case atStart => exact ⟨0, by omega, rfl, fun j _ h => by omega⟩
      case round =>
        obtain ⟨k, hk, rfl, hno⟩ := hrel
        have HN := Lib.hid hno
        clear hno
        have hstop : (k < M.length ∧ ∃ h : k < M.length, M[k].1 < d ∨ (M[k].1 = d ∧ M[k].2 < id)) ∨ (∀ h : k < M.length, ¬ (M[k].1 < d ∨ (M[k].1 = d ∧ M[k].2 < id))) := by
          by_cases hlt : k < M.length
          · by_cases hc : M[k].1 < d ∨ (M[k].1 = d ∧ M[k].2 < id)
            · exact .inl ⟨hlt, hlt, hc⟩
            · exact .inr fun _ => hc
          · exact .inr fun h => absurd h hlt
        rcases hstop with ⟨hlt, _, hc⟩ | hst
        · obtain ⟨ad, rfl, hcell⟩ := HR4.out.rd k hlt
          have g0 := hcell 0 (.int .i64 M[k].2) rfl
          have g1 := (HR4.out.rd).fs hlt 0 (v := .int .i64 M[k].1) rfl
          simp only [Nat.add_zero, Nat.zero_add] at g0 g1
          have HN1 := Lib.hid (show ∀ j, ∀ h : j < M.length, j < k + 1 → M[j].1 < d ∨ (M[j].1 = d ∧ M[j].2 < id) from fun j hj hjk => by
            by_cases e : j = k
            · subst e; exact hc
            · exact HN.out j hj (by omega))
          have hcs : decide (M[k].1 < d) = true ∨ (decide (M[k].1 < d) = false ∧ (M[k].1 == d) = true ∧ decide (M[k].2 < id) = true) := by
            simp only [decide_eq_true_eq, decide_eq_false_iff_not, beq_iff_eq]; omega
          clear hcell hc
          generalize M[k] = q at *
          rcases hcs with t1 | ⟨t1, t2, t3⟩
          all_goals
            go_wp2
            go_round
            case rel => exact ⟨k + 1, by omega, by go_num, HN1.out⟩
            case measure => simp [intOf]; omega
        · have HI := Lib.hid (insT_at (p := (d, id)) HN.out hk hst)
          have hcs : (k = M.length) ∨ ∃ h : k < M.length, (decide (M[k].1 < d) = false ∧ (M[k].1 == d) = false) ∨ (decide (M[k].1 < d) = false ∧ (M[k].1 == d) = true ∧ decide (M[k].2 < id) = false) := by
            by_cases e : k = M.length
            · exact .inl e
            · have hlt : k < M.length := by omega
              refine .inr ⟨hlt, ?_⟩
              have := hst hlt
              simp only [decide_eq_true_eq, decide_eq_false_iff_not, beq_iff_eq, beq_eq_false_iff_ne]
              omega
          obtain ⟨i0, hi, hz0, hz1, hz2⟩ := info_parts infoT
          have hs1 := cut_hi Try.underlying28 hi A3 M.length cap3 k k rfl (by have := HR4.out.le; omega)
          have hs2 := cut_lo Try.underlying28 hi hz1 A3 M.length cap3 k k rfl hk
          have HS1 := Lib.hid hs1
          have HS2 := Lib.hid hs2
          clear hi hz0 hz1 hz2 hs1 hs2
          have hcs2 : decide (k < M.length) = false ∨ ∃ h : k < M.length, (decide (M[k].1 < d) = false ∧ (M[k].1 == d) = false) ∨ (decide (M[k].1 < d) = false ∧ (M[k].1 == d) = true ∧ decide (M[k].2 < id) = false) := by
            rcases hcs with e | h
            · exact .inl (by simp; omega)
            · exact .inr h
          clear hcs
          rcases hcs2 with t1 | ⟨hlt, ⟨t1, t2⟩ | ⟨t1, t2, t3⟩⟩
          · go_upto_region 9 with (fail)
            clear t1
            have hM9 : M.length ≤ 1000 := Nat.le_trans HDL.out hL
            have hBd := HB4.out.upd ((Upd.refl w4 Nope).drew) (fun h => h)
            have hCd := HC4.out.upd ((Upd.refl w4 Nope).drew) (fun h => h)
            have hrd := HR4.out.nn ((Upd.refl w4 Nope).drew)
            have hUd := HU4.out.nn ((Upd.refl w4 Nope).drew)
            have y1 : w4.drew.cell? ⟨w.heap.size, 1, none⟩ = some (.slice A3 M.length cap3) := (hBd.cell 1).trans rfl
            have yf := hBd.frozen 1
            have XC := fun (x : US w.heap.size (.slice A3 M.length cap3)) => x.h1
            haveI : Nonempty (US w.heap.size (.slice A3 M.length cap3)) := ⟨⟨w4.drew, y1, yf⟩⟩
            refine region_tree 17 [16, 15, 14, 10, 13, 12, 11, 9, 8, 7, 6, 5, 4, 3, 2, 1, 0] (by kernel_rfl) (fun w' => ∃ x : US w.heap.size (.slice A3 M.length cap3), w' = x.val) (by kernel_rfl) (fun _ _ d _ _ h => by cases d <;> exact h) ⟨⟨w4.drew, y1, yf⟩, rfl⟩ ?_
            intro hR
            have HRG := Lib.hid hR
            have HBD := Lib.hid hBd
            have HCD := Lib.hid hCd
            have HRD := Lib.hid hrd
            have HUD := Lib.hid hUd
            clear hR hBd hCd hrd hUd b0 b1
            generalize w4.drew = wd at *
            refine WA.seg HRG.out 7 [1, 2, 3, 4, 6, 7, 8, 11, 12, 13, 14] rfl (by kernel_rfl) ?_
            simp only [opsAt_cons, opsAt_nil, List.getElem?_toArray, List.getElem?_cons_zero, List.getElem?_cons_succ, consO_some]
            have hs1 := HS1.out
            have hs2 := HS2.out
            repeat (first | go_big_quiet_skip | (go_big_quiet_want; go_big_quiet_op; go_big_quiet_on))
            refine wpQuiet_nil ?_
            clear hs1 hs2
            refine WA.two HRG.out 6 0 9 rfl (by kernel_rfl) ?_ ?_
            all_goals simp only [opsAt_cons, opsAt_nil, List.getElem?_toArray, List.getElem?_cons_zero, List.getElem?_cons_succ, consO_some]
            · go_wp2_with fail
              have hra := Row2.first wd
              generalize wd.alloc (.cells #[] 50) = wa at *
              have HRA := Lib.hid hra
              clear hra
              have hB' := HBD.out.upd (HRA.out.upd) (fun h => h)
              have hc' : World.cell? (wa) ⟨w.heap.size, 1, none⟩ = some (.slice A3 M.length cap3) := (hB'.cell 1).trans rfl
              have hf' := hB'.frozen 1
              refine ⟨⟨⟨wa, hc', hf'⟩, rfl⟩, ?_⟩
              clear hc' hf' hB'
              refine WA.two HRG.out 5 5 9 rfl (by kernel_rfl) ?_ ?_
              all_goals simp only [opsAt_cons, opsAt_nil, List.getElem?_toArray, List.getElem?_cons_zero, List.getElem?_cons_succ, consO_some]
              · obtain ⟨v4, wb, h1, h5⟩ := HRA.out.app (l := M.take k) (c := cap3) ((HRD.out.rd.nn HRA.out.upd).take k) HRD.out.nil (by simp; omega)
                rw [List.length_take, Nat.min_eq_left hk] at h1
                rw [List.nil_append] at h5
                have HRB := Lib.hid h5
                clear h5
                go_wp2_with (at_builtin; refine wpList_append_eq _ _ rfl rfl h1 rfl rfl rfl ?_)
                clear h1
                have hB' := HBD.out.upd (HRB.out.upd) (fun h => h)
                have hc' : World.cell? (wb) ⟨w.heap.size, 1, none⟩ = some (.slice A3 M.length cap3) := (hB'.cell 1).trans rfl
                have hf' := hB'.frozen 1
                refine ⟨⟨⟨wb, hc', hf'⟩, rfl⟩, ?_⟩
                clear hc' hf' hB'
                refine WA.one HRG.out 4 9 rfl (by kernel_rfl) ?_
                simp only [opsAt_cons, opsAt_nil, List.getElem?_toArray, List.getElem?_cons_zero, List.getElem?_cons_succ, consO_some]
                go_wp2_with fail
                have hw3 := HRB.out.with_ (d, id)
                simp only at hw3
                generalize wb.alloc (.cells #[.int .i64 id, .int .i64 d] 50) = w5 at *
                have HW3 := Lib.hid hw3
                clear hw3
                generalize wb.heap.size = B at *
                have hB' := HBD.out.upd (HW3.out.row.upd) (fun h => h)
                have hc' : World.cell? (w5) ⟨w.heap.size, 1, none⟩ = some (.slice A3 M.length cap3) := (hB'.cell 1).trans rfl
                have hf' := hB'.frozen 1
                refine ⟨⟨⟨w5, hc', hf'⟩, rfl⟩, ?_⟩
                clear hc' hf' hB'
                obtain ⟨v6, w6, h1, hr6⟩ := HW3.out.row.app (l := [(d, id)]) (c := 1) HW3.out.one (by intro h; cases h) (by simp; omega)
                have HR6 := Lib.hid hr6
                clear hr6
                refine WA.one HRG.out 3 10 rfl (by kernel_rfl) ?_
                simp only [opsAt_cons, opsAt_nil, List.getElem?_toArray, List.getElem?_cons_zero, List.getElem?_cons_succ, consO_some]
                go_wp2_with (at_builtin; refine wpList_append_eq _ _ rfl rfl h1 rfl rfl rfl ?_)
                clear h1
                have hB' := HBD.out.upd (HR6.out.upd) (fun h => h)
                have hc' : World.cell? (w6) ⟨w.heap.size, 1, none⟩ = some (.slice A3 M.length cap3) := (hB'.cell 1).trans rfl
                have hf' := hB'.frozen 1
                refine ⟨⟨⟨w6, hc', hf'⟩, rfl⟩, ?_⟩
                clear hc' hf' hB'
                obtain ⟨v8, w8, h1, hr8⟩ := HR6.out.app (l := M.drop k) (c := cap3 - k) ((HRD.out.rd.nn HR6.out.upd).dropA k cap3 HRD.out.le) (dropA_nil HRD.out.nil) (by simp; omega)
                rw [List.length_drop] at h1
                obtain ⟨A8, cap8, rfl, hrw8, hA8⟩ := hr8.rw_
                rw [show M.take k ++ [(d, id)] ++ M.drop k = insT (d, id) M by rw [HI.out]; simp] at hrw8 hr8 h1
                have HR8 := Lib.hid hr8
                have HRW := Lib.hid hrw8
                have HA8 := Lib.hid hA8
                clear hr8 hrw8 hA8
                refine WA.one HRG.out 2 15 rfl (by kernel_rfl) ?_
                simp only [opsAt_cons, opsAt_nil, List.getElem?_toArray, List.getElem?_cons_zero, List.getElem?_cons_succ, consO_some]
                go_wp2_with (at_builtin; refine wpList_append_eq _ _ rfl rfl h1 rfl rfl rfl ?_)
                clear h1
                have hB' := HBD.out.upd (HR8.out.upd) (fun h => h)
                have hc' : World.cell? (w8) ⟨w.heap.size, 1, none⟩ = some (.slice A3 M.length cap3) := (hB'.cell 1).trans rfl
                have hf' := hB'.frozen 1
                refine ⟨⟨⟨w8, hc', hf'⟩, rfl⟩, ?_⟩
                clear hc' hf' hB'
                refine WA.seg HRG.out 1 [16] rfl (by kernel_rfl) ?_
                simp only [opsAt_cons, opsAt_nil, List.getElem?_toArray, List.getElem?_cons_zero, List.getElem?_cons_succ, consO_some]
                repeat (first | go_big_quiet_skip | (go_big_quiet_want; go_big_quiet_op; go_big_quiet_on))
                refine wpQuiet_nil ?_
                refine WA.fin (by kernel_rfl) ?_
                simp only [opsAt_cons, opsAt_nil, List.getElem?_toArray, List.getElem?_cons_zero, List.getElem?_cons_succ, consO_some]
                have hB8 := HBD.out.upd HR8.out.upd (fun h => h)
                have hC8 := HCD.out.upd HR8.out.upd (fun h => h)
                have x0 : w8.cell? ⟨w.heap.size, 0, none⟩ = some (.int .i64 now) := (hB8.cell 0).trans rfl
                have x1 : w8.cell? ⟨w.heap.size, 1, none⟩ = some (.slice A3 M.length cap3) := (hB8.cell 1).trans rfl
                have xf1 := hB8.frozen 1
                have z0 : w8.cell? ⟨w.heap.size + 1, 0, none⟩ = some (.int .i64 0) := (hC8.cell 0).trans rfl
                have z1 : w8.cell? ⟨w.heap.size + 1, 1, none⟩ = some (.slice none 0 0) := (hC8.cell 1).trans rfl
                have zf0 := hC8.frozen 0
                have zf1 := hC8.frozen 1
                have HC8 := Lib.hid hC8
                clear hC8 hB8 XC y1 yf
                generalize insT (d, id) M = N at *
                go_wp2
                have hW7 := HRW.out.away (F := fun i => w.heap.size ≤ i ∧ i < wd.heap.size) ((((Upd.refl w8 _).set ⟨w.heap.size, 1, none⟩ (.slice A8 N.length cap8) (.inl ⟨Nat.le_refl _, Nat.lt_of_succ_lt HCD.out.lt⟩)).set ⟨w.heap.size + 1, 0, none⟩ (.int .i64 now) (.inl ⟨by simp, HCD.out.lt⟩)).set ⟨w.heap.size + 1, 1, none⟩ (.slice A8 N.length cap8) (.inl ⟨by simp, HCD.out.lt⟩)) (fun ad e h => by have := HA8.out ad e; omega)
                have hU7 : Upd wd (((w8.setCell ⟨w.heap.size, 1, none⟩ (.slice A8 N.length cap8)).setCell ⟨w.heap.size + 1, 0, none⟩ (.int .i64 now)).setCell ⟨w.heap.size + 1, 1, none⟩ (.slice A8 N.length cap8)) (fun i => w.heap.size ≤ i ∧ i < wd.heap.size) := by
                  have hlt2 := HCD.out.lt
                  exact (((HR8.out.upd.mono (fun _ _ h => h.elim)).set _ _ (.inl ⟨Nat.le_refl _, by simp; omega⟩)).set _ _ (.inl ⟨by simp, hlt2⟩)).set _ _ (.inl ⟨by simp, hlt2⟩)
                have hC7 := ((HC8.out.far (p := ⟨w.heap.size, 1, none⟩) (by simp) (.slice A8 N.length cap8)).set 0 (.int .i64 now)).set 1 (.slice A8 N.length cap8)
                generalize ((w8.setCell ⟨w.heap.size, 1, none⟩ (.slice A8 N.length cap8)).setCell ⟨w.heap.size + 1, 0, none⟩ (.int .i64 now)).setCell ⟨w.heap.size + 1, 1, none⟩ (.slice A8 N.length cap8) = w7 at *
                have r0 : w7.cell? ⟨w.heap.size + 1, 0, none⟩ = some (.int .i64 now) := (hC7.cell 0).trans rfl
                have r1 : w7.cell? ⟨w.heap.size + 1, 1, none⟩ = some (.slice A8 N.length cap8) := (hC7.cell 1).trans rfl
                refine bodyPost_ret (v := .tuple #[.agg #[.int .i64 now, .slice A8 N.length cap8], .int .i64 0]) (by simp [results, Try.results10, go_sem, r0, r1]) rfl ?_
                unfold SetF
                rw [HS.out.1, HS.out.2]
                exact ⟨A8, cap8, rfl, hW7, HUD.out.trans hU7 (fun _ _ h => h) (fun i h h2 => by omega), .inr fun ad e => by have := HA8.out ad e; have := HUD.out.size; omega⟩
              · go_wp2_with fail
                have hw3 := HRA.out.with_ (d, id)
                simp only at hw3
                generalize wa.alloc (.cells #[.int .i64 id, .int .i64 d] 50) = wb at *
                have HWB := Lib.hid hw3
                clear hw3
                generalize wa.heap.size = B at *
                have hB' := HBD.out.upd (HWB.out.row.upd) (fun h => h)
                have hc' : World.cell? (wb) ⟨w.heap.size, 1, none⟩ = some (.slice A3 M.length cap3) := (hB'.cell 1).trans rfl
                have hf' := hB'.frozen 1
                refine ⟨⟨⟨wb, hc', hf'⟩, rfl⟩, ?_⟩
                clear hc' hf' hB'
                obtain ⟨v5, w5, h1, h5⟩ := HWB.out.app (l := M.take k) (c := cap3) ((HRD.out.rd.nn HWB.out.row.upd).take k) HRD.out.nil (by simp; omega)
                rw [List.length_take, Nat.min_eq_left hk, List.nil_append] at *
                have HW3 := Lib.hid h5
                clear h5
                refine WA.one HRG.out 4 5 rfl (by kernel_rfl) ?_
                simp only [opsAt_cons, opsAt_nil, List.getElem?_toArray, List.getElem?_cons_zero, List.getElem?_cons_succ, consO_some]
                go_wp2_with (at_builtin; refine wpList_append_eq _ _ rfl rfl h1 rfl rfl rfl ?_)
                clear h1
                have hB' := HBD.out.upd (HW3.out.row.upd) (fun h => h)
                have hc' : World.cell? (w5) ⟨w.heap.size, 1, none⟩ = some (.slice A3 M.length cap3) := (hB'.cell 1).trans rfl
                have hf' := hB'.frozen 1
                refine ⟨⟨⟨w5, hc', hf'⟩, rfl⟩, ?_⟩
                clear hc' hf' hB'
                obtain ⟨v6, w6, h1, hr6⟩ := HW3.out.row.app (l := [(d, id)]) (c := 1) HW3.out.one (by intro h; cases h) (by simp; omega)
                have HR6 := Lib.hid hr6
                clear hr6
                refine WA.one HRG.out 3 10 rfl (by kernel_rfl) ?_
                simp only [opsAt_cons, opsAt_nil, List.getElem?_toArray, List.getElem?_cons_zero, List.getElem?_cons_succ, consO_some]
                go_wp2_with (at_builtin; refine wpList_append_eq _ _ rfl rfl h1 rfl rfl rfl ?_)
                clear h1
                have hB' := HBD.out.upd (HR6.out.upd) (fun h => h)
                have hc' : World.cell? (w6) ⟨w.heap.size, 1, none⟩ = some (.slice A3 M.length cap3) := (hB'.cell 1).trans rfl
                have hf' := hB'.frozen 1
                refine ⟨⟨⟨w6, hc', hf'⟩, rfl⟩, ?_⟩
                clear hc' hf' hB'
                obtain ⟨v8, w8, h1, hr8⟩ := HR6.out.app (l := M.drop k) (c := cap3 - k) ((HRD.out.rd.nn HR6.out.upd).dropA k cap3 HRD.out.le) (dropA_nil HRD.out.nil) (by simp; omega)
                rw [List.length_drop] at h1
                obtain ⟨A8, cap8, rfl, hrw8, hA8⟩ := hr8.rw_
                rw [show M.take k ++ [(d, id)] ++ M.drop k = insT (d, id) M by rw [HI.out]; simp] at hrw8 hr8 h1
                have HR8 := Lib.hid hr8
                have HRW := Lib.hid hrw8
                have HA8 := Lib.hid hA8
                clear hr8 hrw8 hA8
                refine WA.one HRG.out 2 15 rfl (by kernel_rfl) ?_
                simp only [opsAt_cons, opsAt_nil, List.getElem?_toArray, List.getElem?_cons_zero, List.getElem?_cons_succ, consO_some]
                go_wp2_with (at_builtin; refine wpList_append_eq _ _ rfl rfl h1 rfl rfl rfl ?_)
                clear h1
                have hB' := HBD.out.upd (HR8.out.upd) (fun h => h)
                have hc' : World.cell? (w8) ⟨w.heap.size, 1, none⟩ = some (.slice A3 M.length cap3) := (hB'.cell 1).trans rfl
                have hf' := hB'.frozen 1
                refine ⟨⟨⟨w8, hc', hf'⟩, rfl⟩, ?_⟩
                clear hc' hf' hB'
                refine WA.seg HRG.out 1 [16] rfl (by kernel_rfl) ?_
                simp only [opsAt_cons, opsAt_nil, List.getElem?_toArray, List.getElem?_cons_zero, List.getElem?_cons_succ, consO_some]
                repeat (first | go_big_quiet_skip | (go_big_quiet_want; go_big_quiet_op; go_big_quiet_on))
                refine wpQuiet_nil ?_
                refine WA.fin (by kernel_rfl) ?_
                simp only [opsAt_cons, opsAt_nil, List.getElem?_toArray, List.getElem?_cons_zero, List.getElem?_cons_succ, consO_some]
                have hB8 := HBD.out.upd HR8.out.upd (fun h => h)
                have hC8 := HCD.out.upd HR8.out.upd (fun h => h)
                have x0 : w8.cell? ⟨w.heap.size, 0, none⟩ = some (.int .i64 now) := (hB8.cell 0).trans rfl
                have x1 : w8.cell? ⟨w.heap.size, 1, none⟩ = some (.slice A3 M.length cap3) := (hB8.cell 1).trans rfl
                have xf1 := hB8.frozen 1
                have z0 : w8.cell? ⟨w.heap.size + 1, 0, none⟩ = some (.int .i64 0) := (hC8.cell 0).trans rfl
                have z1 : w8.cell? ⟨w.heap.size + 1, 1, none⟩ = some (.slice none 0 0) := (hC8.cell 1).trans rfl
                have zf0 := hC8.frozen 0
                have zf1 := hC8.frozen 1
                have HC8 := Lib.hid hC8
                clear hC8 hB8 XC y1 yf
                generalize insT (d, id) M = N at *
                go_wp2
                have hW7 := HRW.out.away (F := fun i => w.heap.size ≤ i ∧ i < wd.heap.size) ((((Upd.refl w8 _).set ⟨w.heap.size, 1, none⟩ (.slice A8 N.length cap8) (.inl ⟨Nat.le_refl _, Nat.lt_of_succ_lt HCD.out.lt⟩)).set ⟨w.heap.size + 1, 0, none⟩ (.int .i64 now) (.inl ⟨by simp, HCD.out.lt⟩)).set ⟨w.heap.size + 1, 1, none⟩ (.slice A8 N.length cap8) (.inl ⟨by simp, HCD.out.lt⟩)) (fun ad e h => by have := HA8.out ad e; omega)
                have hU7 : Upd wd (((w8.setCell ⟨w.heap.size, 1, none⟩ (.slice A8 N.length cap8)).setCell ⟨w.heap.size + 1, 0, none⟩ (.int .i64 now)).setCell ⟨w.heap.size + 1, 1, none⟩ (.slice A8 N.length cap8)) (fun i => w.heap.size ≤ i ∧ i < wd.heap.size) := by
                  have hlt2 := HCD.out.lt
                  exact (((HR8.out.upd.mono (fun _ _ h => h.elim)).set _ _ (.inl ⟨Nat.le_refl _, by simp; omega⟩)).set _ _ (.inl ⟨by simp, hlt2⟩)).set _ _ (.inl ⟨by simp, hlt2⟩)
                have hC7 := ((HC8.out.far (p := ⟨w.heap.size, 1, none⟩) (by simp) (.slice A8 N.length cap8)).set 0 (.int .i64 now)).set 1 (.slice A8 N.length cap8)
                generalize ((w8.setCell ⟨w.heap.size, 1, none⟩ (.slice A8 N.length cap8)).setCell ⟨w.heap.size + 1, 0, none⟩ (.int .i64 now)).setCell ⟨w.heap.size + 1, 1, none⟩ (.slice A8 N.length cap8) = w7 at *
                have r0 : w7.cell? ⟨w.heap.size + 1, 0, none⟩ = some (.int .i64 now) := (hC7.cell 0).trans rfl
                have r1 : w7.cell? ⟨w.heap.size + 1, 1, none⟩ = some (.slice A8 N.length cap8) := (hC7.cell 1).trans rfl
                refine bodyPost_ret (v := .tuple #[.agg #[.int .i64 now, .slice A8 N.length cap8], .int .i64 0]) (by simp [results, Try.results10, go_sem, r0, r1]) rfl ?_
                unfold SetF
                rw [HS.out.1, HS.out.2]
                exact ⟨A8, cap8, rfl, hW7, HUD.out.trans hU7 (fun _ _ h => h) (fun i h h2 => by omega), .inr fun ad e => by have := HA8.out ad e; have := HUD.out.size; omega⟩
            · go_wp2_with fail
              have hB' := HBD.out.upd ((Upd.refl wd Nope).alloc (.cells #[.int .i64 id, .int .i64 d] 50)) (fun h => h)
              have hc' : World.cell? (wd.alloc (.cells #[.int .i64 id, .int .i64 d] 50)) ⟨w.heap.size, 1, none⟩ = some (.slice A3 M.length cap3) := (hB'.cell 1).trans rfl
              have hf' := hB'.frozen 1
              refine ⟨⟨⟨wd.alloc (.cells #[.int .i64 id, .int .i64 d] 50), hc', hf'⟩, rfl⟩, ?_⟩
              clear hc' hf' hB'
              refine WA.one HRG.out 5 0 rfl (by kernel_rfl) ?_
              simp only [opsAt_cons, opsAt_nil, List.getElem?_toArray, List.getElem?_cons_zero, List.getElem?_cons_succ, consO_some]
              have hw3 := Row3.first wd (d, id)
              simp only at hw3
              go_wp2_with fail
              generalize (wd.alloc (.cells #[.int .i64 id, .int .i64 d] 50)).alloc (.cells #[] 50) = wb at *
              have HWB := Lib.hid hw3
              clear hw3
              generalize wd.heap.size = B at *
              have hB' := HBD.out.upd (HWB.out.row.upd) (fun h => h)
              have hc' : World.cell? (wb) ⟨w.heap.size, 1, none⟩ = some (.slice A3 M.length cap3) := (hB'.cell 1).trans rfl
              have hf' := hB'.frozen 1
              refine ⟨⟨⟨wb, hc', hf'⟩, rfl⟩, ?_⟩
              clear hc' hf' hB'
              obtain ⟨v5, w5, h1, h5⟩ := HWB.out.app (l := M.take k) (c := cap3) ((HRD.out.rd.nn HWB.out.row.upd).take k) HRD.out.nil (by simp; omega)
              rw [List.length_take, Nat.min_eq_left hk, List.nil_append] at *
              have HW3 := Lib.hid h5
              clear h5
              refine WA.one HRG.out 4 5 rfl (by kernel_rfl) ?_
              simp only [opsAt_cons, opsAt_nil, List.getElem?_toArray, List.getElem?_cons_zero, List.getElem?_cons_succ, consO_some]
              go_wp2_with (at_builtin; refine wpList_append_eq _ _ rfl rfl h1 rfl rfl rfl ?_)
              clear h1
              have hB' := HBD.out.upd (HW3.out.row.upd) (fun h => h)
              have hc' : World.cell? (w5) ⟨w.heap.size, 1, none⟩ = some (.slice A3 M.length cap3) := (hB'.cell 1).trans rfl
              have hf' := hB'.frozen 1
              refine ⟨⟨⟨w5, hc', hf'⟩, rfl⟩, ?_⟩
              clear hc' hf' hB'
              obtain ⟨v6, w6, h1, hr6⟩ := HW3.out.row.app (l := [(d, id)]) (c := 1) HW3.out.one (by intro h; cases h) (by simp; omega)
              have HR6 := Lib.hid hr6
              clear hr6
              refine WA.one HRG.out 3 10 rfl (by kernel_rfl) ?_
              simp only [opsAt_cons, opsAt_nil, List.getElem?_toArray, List.getElem?_cons_zero, List.getElem?_cons_succ, consO_some]
              go_wp2_with (at_builtin; refine wpList_append_eq _ _ rfl rfl h1 rfl rfl rfl ?_)
              clear h1
              have hB' := HBD.out.upd (HR6.out.upd) (fun h => h)
              have hc' : World.cell? (w6) ⟨w.heap.size, 1, none⟩ = some (.slice A3 M.length cap3) := (hB'.cell 1).trans rfl
              have hf' := hB'.frozen 1
              refine ⟨⟨⟨w6, hc', hf'⟩, rfl⟩, ?_⟩
              clear hc' hf' hB'
              obtain ⟨v8, w8, h1, hr8⟩ := HR6.out.app (l := M.drop k) (c := cap3 - k) ((HRD.out.rd.nn HR6.out.upd).dropA k cap3 HRD.out.le) (dropA_nil HRD.out.nil) (by simp; omega)
              rw [List.length_drop] at h1
              obtain ⟨A8, cap8, rfl, hrw8, hA8⟩ := hr8.rw_
              rw [show M.take k ++ [(d, id)] ++ M.drop k = insT (d, id) M by rw [HI.out]; simp] at hrw8 hr8 h1
              have HR8 := Lib.hid hr8
              have HRW := Lib.hid hrw8
              have HA8 := Lib.hid hA8
              clear hr8 hrw8 hA8
              refine WA.one HRG.out 2 15 rfl (by kernel_rfl) ?_
              simp only [opsAt_cons, opsAt_nil, List.getElem?_toArray, List.getElem?_cons_zero, List.getElem?_cons_succ, consO_some]
              go_wp2_with (at_builtin; refine wpList_append_eq _ _ rfl rfl h1 rfl rfl rfl ?_)
              clear h1
              have hB' := HBD.out.upd (HR8.out.upd) (fun h => h)
              have hc' : World.cell? (w8) ⟨w.heap.size, 1, none⟩ = some (.slice A3 M.length cap3) := (hB'.cell 1).trans rfl
              have hf' := hB'.frozen 1
              refine ⟨⟨⟨w8, hc', hf'⟩, rfl⟩, ?_⟩
              clear hc' hf' hB'
              refine WA.seg HRG.out 1 [16] rfl (by kernel_rfl) ?_
              simp only [opsAt_cons, opsAt_nil, List.getElem?_toArray, List.getElem?_cons_zero, List.getElem?_cons_succ, consO_some]
              repeat (first | go_big_quiet_skip | (go_big_quiet_want; go_big_quiet_op; go_big_quiet_on))
              refine wpQuiet_nil ?_
              refine WA.fin (by kernel_rfl) ?_
              simp only [opsAt_cons, opsAt_nil, List.getElem?_toArray, List.getElem?_cons_zero, List.getElem?_cons_succ, consO_some]
              have hB8 := HBD.out.upd HR8.out.upd (fun h => h)
              have hC8 := HCD.out.upd HR8.out.upd (fun h => h)
              have x0 : w8.cell? ⟨w.heap.size, 0, none⟩ = some (.int .i64 now) := (hB8.cell 0).trans rfl
              have x1 : w8.cell? ⟨w.heap.size, 1, none⟩ = some (.slice A3 M.length cap3) := (hB8.cell 1).trans rfl
              have xf1 := hB8.frozen 1
              have z0 : w8.cell? ⟨w.heap.size + 1, 0, none⟩ = some (.int .i64 0) := (hC8.cell 0).trans rfl
              have z1 : w8.cell? ⟨w.heap.size + 1, 1, none⟩ = some (.slice none 0 0) := (hC8.cell 1).trans rfl
              have zf0 := hC8.frozen 0
              have zf1 := hC8.frozen 1
              have HC8 := Lib.hid hC8
              clear hC8 hB8 XC y1 yf
              generalize insT (d, id) M = N at *
              go_wp2
              have hW7 := HRW.out.away (F := fun i => w.heap.size ≤ i ∧ i < wd.heap.size) ((((Upd.refl w8 _).set ⟨w.heap.size, 1, none⟩ (.slice A8 N.length cap8) (.inl ⟨Nat.le_refl _, Nat.lt_of_succ_lt HCD.out.lt⟩)).set ⟨w.heap.size + 1, 0, none⟩ (.int .i64 now) (.inl ⟨by simp, HCD.out.lt⟩)).set ⟨w.heap.size + 1, 1, none⟩ (.slice A8 N.length cap8) (.inl ⟨by simp, HCD.out.lt⟩)) (fun ad e h => by have := HA8.out ad e; omega)
              have hU7 : Upd wd (((w8.setCell ⟨w.heap.size, 1, none⟩ (.slice A8 N.length cap8)).setCell ⟨w.heap.size + 1, 0, none⟩ (.int .i64 now)).setCell ⟨w.heap.size + 1, 1, none⟩ (.slice A8 N.length cap8)) (fun i => w.heap.size ≤ i ∧ i < wd.heap.size) := by
                have hlt2 := HCD.out.lt
                exact (((HR8.out.upd.mono (fun _ _ h => h.elim)).set _ _ (.inl ⟨Nat.le_refl _, by simp; omega⟩)).set _ _ (.inl ⟨by simp, hlt2⟩)).set _ _ (.inl ⟨by simp, hlt2⟩)
              have hC7 := ((HC8.out.far (p := ⟨w.heap.size, 1, none⟩) (by simp) (.slice A8 N.length cap8)).set 0 (.int .i64 now)).set 1 (.slice A8 N.length cap8)
              generalize ((w8.setCell ⟨w.heap.size, 1, none⟩ (.slice A8 N.length cap8)).setCell ⟨w.heap.size + 1, 0, none⟩ (.int .i64 now)).setCell ⟨w.heap.size + 1, 1, none⟩ (.slice A8 N.length cap8) = w7 at *
              have r0 : w7.cell? ⟨w.heap.size + 1, 0, none⟩ = some (.int .i64 now) := (hC7.cell 0).trans rfl
              have r1 : w7.cell? ⟨w.heap.size + 1, 1, none⟩ = some (.slice A8 N.length cap8) := (hC7.cell 1).trans rfl
              refine bodyPost_ret (v := .tuple #[.agg #[.int .i64 now, .slice A8 N.length cap8], .int .i64 0]) (by simp [results, Try.results10, go_sem, r0, r1]) rfl ?_
              unfold SetF
              rw [HS.out.1, HS.out.2]
              exact ⟨A8, cap8, rfl, hW7, HUD.out.trans hU7 (fun _ _ h => h) (fun i h h2 => by omega), .inr fun ad e => by have := HA8.out ad e; have := HUD.out.size; omega⟩
          · obtain ⟨ad, rfl, hcell⟩ := HR4.out.rd k hlt
            have g0 := hcell 0 (.int .i64 M[k].2) rfl
            have g1 := (HR4.out.rd).fs hlt 0 (v := .int .i64 M[k].1) rfl
            simp only [Nat.add_zero, Nat.zero_add] at g0 g1
            clear hst
            clear hcell
            go_upto_region 9 with (fail)
            clear g0 g1 t1 t2
            have hM9 : M.length ≤ 1000 := Nat.le_trans HDL.out hL
            have hBd := HB4.out.upd ((Upd.refl w4 Nope).drew) (fun h => h)
            have hCd := HC4.out.upd ((Upd.refl w4 Nope).drew) (fun h => h)
            have hrd := HR4.out.nn ((Upd.refl w4 Nope).drew)
            have hUd := HU4.out.nn ((Upd.refl w4 Nope).drew)
            have y1 : w4.drew.cell? ⟨w.heap.size, 1, none⟩ = some (.slice (some ad) M.length cap3) := (hBd.cell 1).trans rfl
            have yf := hBd.frozen 1
            have XC := fun (x : US w.heap.size (.slice (some ad) M.length cap3)) => x.h1
            haveI : Nonempty (US w.heap.size (.slice (some ad) M.length cap3)) := ⟨⟨w4.drew, y1, yf⟩⟩
            refine region_tree 17 [16, 15, 14, 10, 13, 12, 11, 9, 8, 7, 6, 5, 4, 3, 2, 1, 0] (by kernel_rfl) (fun w' => ∃ x : US w.heap.size (.slice (some ad) M.length cap3), w' = x.val) (by kernel_rfl) (fun _ _ d _ _ h => by cases d <;> exact h) ⟨⟨w4.drew, y1, yf⟩, rfl⟩ ?_
            intro hR
            have HRG := Lib.hid hR
            have HBD := Lib.hid hBd
            have HCD := Lib.hid hCd
            have HRD := Lib.hid hrd
            have HUD := Lib.hid hUd
            clear hR hBd hCd hrd hUd b0 b1
            generalize w4.drew = wd at *
            refine WA.seg HRG.out 7 [1, 2, 3, 4, 6, 7, 8, 11, 12, 13, 14] rfl (by kernel_rfl) ?_
            simp only [opsAt_cons, opsAt_nil, List.getElem?_toArray, List.getElem?_cons_zero, List.getElem?_cons_succ, consO_some]
            have hs1 := HS1.out
            have hs2 := HS2.out
            repeat (first | go_big_quiet_skip | (go_big_quiet_want; go_big_quiet_op; go_big_quiet_on))
            refine wpQuiet_nil ?_
            clear hs1 hs2
            refine WA.two HRG.out 6 0 9 rfl (by kernel_rfl) ?_ ?_
            all_goals simp only [opsAt_cons, opsAt_nil, List.getElem?_toArray, List.getElem?_cons_zero, List.getElem?_cons_succ, consO_some]
            · go_wp2_with fail
              have hra := Row2.first wd
              generalize wd.alloc (.cells #[] 50) = wa at *
              have HRA := Lib.hid hra
              clear hra
              have hB' := HBD.out.upd (HRA.out.upd) (fun h => h)
              have hc' : World.cell? (wa) ⟨w.heap.size, 1, none⟩ = some (.slice (some ad) M.length cap3) := (hB'.cell 1).trans rfl
              have hf' := hB'.frozen 1
              refine ⟨⟨⟨wa, hc', hf'⟩, rfl⟩, ?_⟩
              clear hc' hf' hB'
              refine WA.two HRG.out 5 5 9 rfl (by kernel_rfl) ?_ ?_
              all_goals simp only [opsAt_cons, opsAt_nil, List.getElem?_toArray, List.getElem?_cons_zero, List.getElem?_cons_succ, consO_some]
              · obtain ⟨v4, wb, h1, h5⟩ := HRA.out.app (l := M.take k) (c := cap3) ((HRD.out.rd.nn HRA.out.upd).take k) HRD.out.nil (by simp; omega)
                rw [List.length_take, Nat.min_eq_left hk] at h1
                rw [List.nil_append] at h5
                have HRB := Lib.hid h5
                clear h5
                go_wp2_with (at_builtin; refine wpList_append_eq _ _ rfl rfl h1 rfl rfl rfl ?_)
                clear h1
                have hB' := HBD.out.upd (HRB.out.upd) (fun h => h)
                have hc' : World.cell? (wb) ⟨w.heap.size, 1, none⟩ = some (.slice (some ad) M.length cap3) := (hB'.cell 1).trans rfl
                have hf' := hB'.frozen 1
                refine ⟨⟨⟨wb, hc', hf'⟩, rfl⟩, ?_⟩
                clear hc' hf' hB'
                refine WA.one HRG.out 4 9 rfl (by kernel_rfl) ?_
                simp only [opsAt_cons, opsAt_nil, List.getElem?_toArray, List.getElem?_cons_zero, List.getElem?_cons_succ, consO_some]
                go_wp2_with fail
                have hw3 := HRB.out.with_ (d, id)
                simp only at hw3
                generalize wb.alloc (.cells #[.int .i64 id, .int .i64 d] 50) = w5 at *
                have HW3 := Lib.hid hw3
                clear hw3
                generalize wb.heap.size = B at *
                have hB' := HBD.out.upd (HW3.out.row.upd) (fun h => h)
                have hc' : World.cell? (w5) ⟨w.heap.size, 1, none⟩ = some (.slice (some ad) M.length cap3) := (hB'.cell 1).trans rfl
                have hf' := hB'.frozen 1
                refine ⟨⟨⟨w5, hc', hf'⟩, rfl⟩, ?_⟩
                clear hc' hf' hB'
                obtain ⟨v6, w6, h1, hr6⟩ := HW3.out.row.app (l := [(d, id)]) (c := 1) HW3.out.one (by intro h; cases h) (by simp; omega)
                have HR6 := Lib.hid hr6
                clear hr6
                refine WA.one HRG.out 3 10 rfl (by kernel_rfl) ?_
                simp only [opsAt_cons, opsAt_nil, List.getElem?_toArray, List.getElem?_cons_zero, List.getElem?_cons_succ, consO_some]
                go_wp2_with (at_builtin; refine wpList_append_eq _ _ rfl rfl h1 rfl rfl rfl ?_)
                clear h1
                have hB' := HBD.out.upd (HR6.out.upd) (fun h => h)
                have hc' : World.cell? (w6) ⟨w.heap.size, 1, none⟩ = some (.slice (some ad) M.length cap3) := (hB'.cell 1).trans rfl
                have hf' := hB'.frozen 1
                refine ⟨⟨⟨w6, hc', hf'⟩, rfl⟩, ?_⟩
                clear hc' hf' hB'
                obtain ⟨v8, w8, h1, hr8⟩ := HR6.out.app (l := M.drop k) (c := cap3 - k) ((HRD.out.rd.nn HR6.out.upd).dropA k cap3 HRD.out.le) (dropA_nil HRD.out.nil) (by simp; omega)
                rw [List.length_drop] at h1
                obtain ⟨A8, cap8, rfl, hrw8, hA8⟩ := hr8.rw_
                rw [show M.take k ++ [(d, id)] ++ M.drop k = insT (d, id) M by rw [HI.out]; simp] at hrw8 hr8 h1
                have HR8 := Lib.hid hr8
                have HRW := Lib.hid hrw8
                have HA8 := Lib.hid hA8
                clear hr8 hrw8 hA8
                refine WA.one HRG.out 2 15 rfl (by kernel_rfl) ?_
                simp only [opsAt_cons, opsAt_nil, List.getElem?_toArray, List.getElem?_cons_zero, List.getElem?_cons_succ, consO_some]
                go_wp2_with (at_builtin; refine wpList_append_eq _ _ rfl rfl h1 rfl rfl rfl ?_)
                clear h1
                have hB' := HBD.out.upd (HR8.out.upd) (fun h => h)
                have hc' : World.cell? (w8) ⟨w.heap.size, 1, none⟩ = some (.slice (some ad) M.length cap3) := (hB'.cell 1).trans rfl
                have hf' := hB'.frozen 1
                refine ⟨⟨⟨w8, hc', hf'⟩, rfl⟩, ?_⟩
                clear hc' hf' hB'
                refine WA.seg HRG.out 1 [16] rfl (by kernel_rfl) ?_
                simp only [opsAt_cons, opsAt_nil, List.getElem?_toArray, List.getElem?_cons_zero, List.getElem?_cons_succ, consO_some]
                repeat (first | go_big_quiet_skip | (go_big_quiet_want; go_big_quiet_op; go_big_quiet_on))
                refine wpQuiet_nil ?_
                refine WA.fin (by kernel_rfl) ?_
                simp only [opsAt_cons, opsAt_nil, List.getElem?_toArray, List.getElem?_cons_zero, List.getElem?_cons_succ, consO_some]
                have hB8 := HBD.out.upd HR8.out.upd (fun h => h)
                have hC8 := HCD.out.upd HR8.out.upd (fun h => h)
                have x0 : w8.cell? ⟨w.heap.size, 0, none⟩ = some (.int .i64 now) := (hB8.cell 0).trans rfl
                have x1 : w8.cell? ⟨w.heap.size, 1, none⟩ = some (.slice (some ad) M.length cap3) := (hB8.cell 1).trans rfl
                have xf1 := hB8.frozen 1
                have z0 : w8.cell? ⟨w.heap.size + 1, 0, none⟩ = some (.int .i64 0) := (hC8.cell 0).trans rfl
                have z1 : w8.cell? ⟨w.heap.size + 1, 1, none⟩ = some (.slice none 0 0) := (hC8.cell 1).trans rfl
                have zf0 := hC8.frozen 0
                have zf1 := hC8.frozen 1
                have HC8 := Lib.hid hC8
                clear hC8 hB8 XC y1 yf
                generalize insT (d, id) M = N at *
                go_wp2
                have hW7 := HRW.out.away (F := fun i => w.heap.size ≤ i ∧ i < wd.heap.size) ((((Upd.refl w8 _).set ⟨w.heap.size, 1, none⟩ (.slice A8 N.length cap8) (.inl ⟨Nat.le_refl _, Nat.lt_of_succ_lt HCD.out.lt⟩)).set ⟨w.heap.size + 1, 0, none⟩ (.int .i64 now) (.inl ⟨by simp, HCD.out.lt⟩)).set ⟨w.heap.size + 1, 1, none⟩ (.slice A8 N.length cap8) (.inl ⟨by simp, HCD.out.lt⟩)) (fun ad e h => by have := HA8.out ad e; omega)
                have hU7 : Upd wd (((w8.setCell ⟨w.heap.size, 1, none⟩ (.slice A8 N.length cap8)).setCell ⟨w.heap.size + 1, 0, none⟩ (.int .i64 now)).setCell ⟨w.heap.size + 1, 1, none⟩ (.slice A8 N.length cap8)) (fun i => w.heap.size ≤ i ∧ i < wd.heap.size) := by
                  have hlt2 := HCD.out.lt
                  exact (((HR8.out.upd.mono (fun _ _ h => h.elim)).set _ _ (.inl ⟨Nat.le_refl _, by simp; omega⟩)).set _ _ (.inl ⟨by simp, hlt2⟩)).set _ _ (.inl ⟨by simp, hlt2⟩)
                have hC7 := ((HC8.out.far (p := ⟨w.heap.size, 1, none⟩) (by simp) (.slice A8 N.length cap8)).set 0 (.int .i64 now)).set 1 (.slice A8 N.length cap8)
                generalize ((w8.setCell ⟨w.heap.size, 1, none⟩ (.slice A8 N.length cap8)).setCell ⟨w.heap.size + 1, 0, none⟩ (.int .i64 now)).setCell ⟨w.heap.size + 1, 1, none⟩ (.slice A8 N.length cap8) = w7 at *
                have r0 : w7.cell? ⟨w.heap.size + 1, 0, none⟩ = some (.int .i64 now) := (hC7.cell 0).trans rfl
                have r1 : w7.cell? ⟨w.heap.size + 1, 1, none⟩ = some (.slice A8 N.length cap8) := (hC7.cell 1).trans rfl
                refine bodyPost_ret (v := .tuple #[.agg #[.int .i64 now, .slice A8 N.length cap8], .int .i64 0]) (by simp [results, Try.results10, go_sem, r0, r1]) rfl ?_
                unfold SetF
                rw [HS.out.1, HS.out.2]
                exact ⟨A8, cap8, rfl, hW7, HUD.out.trans hU7 (fun _ _ h => h) (fun i h h2 => by omega), .inr fun ad e => by have := HA8.out ad e; have := HUD.out.size; omega⟩
              · go_wp2_with fail
                have hw3 := HRA.out.with_ (d, id)
                simp only at hw3
                generalize wa.alloc (.cells #[.int .i64 id, .int .i64 d] 50) = wb at *
                have HWB := Lib.hid hw3
                clear hw3
                generalize wa.heap.size = B at *
                have hB' := HBD.out.upd (HWB.out.row.upd) (fun h => h)
                have hc' : World.cell? (wb) ⟨w.heap.size, 1, none⟩ = some (.slice (some ad) M.length cap3) := (hB'.cell 1).trans rfl
                have hf' := hB'.frozen 1
                refine ⟨⟨⟨wb, hc', hf'⟩, rfl⟩, ?_⟩
                clear hc' hf' hB'
                obtain ⟨v5, w5, h1, h5⟩ := HWB.out.app (l := M.take k) (c := cap3) ((HRD.out.rd.nn HWB.out.row.upd).take k) HRD.out.nil (by simp; omega)
                rw [List.length_take, Nat.min_eq_left hk, List.nil_append] at *
                have HW3 := Lib.hid h5
                clear h5
                refine WA.one HRG.out 4 5 rfl (by kernel_rfl) ?_
                simp only [opsAt_cons, opsAt_nil, List.getElem?_toArray, List.getElem?_cons_zero, List.getElem?_cons_succ, consO_some]
                go_wp2_with (at_builtin; refine wpList_append_eq _ _ rfl rfl h1 rfl rfl rfl ?_)
                clear h1
                have hB' := HBD.out.upd (HW3.out.row.upd) (fun h => h)
                have hc' : World.cell? (w5) ⟨w.heap.size, 1, none⟩ = some (.slice (some ad) M.length cap3) := (hB'.cell 1).trans rfl
                have hf' := hB'.frozen 1
                refine ⟨⟨⟨w5, hc', hf'⟩, rfl⟩, ?_⟩
                clear hc' hf' hB'
                obtain ⟨v6, w6, h1, hr6⟩ := HW3.out.row.app (l := [(d, id)]) (c := 1) HW3.out.one (by intro h; cases h) (by simp; omega)
                have HR6 := Lib.hid hr6
                clear hr6
                refine WA.one HRG.out 3 10 rfl (by kernel_rfl) ?_
                simp only [opsAt_cons, opsAt_nil, List.getElem?_toArray, List.getElem?_cons_zero, List.getElem?_cons_succ, consO_some]
                go_wp2_with (at_builtin; refine wpList_append_eq _ _ rfl rfl h1 rfl rfl rfl ?_)
                clear h1
                have hB' := HBD.out.upd (HR6.out.upd) (fun h => h)
                have hc' : World.cell? (w6) ⟨w.heap.size, 1, none⟩ = some (.slice (some ad) M.length cap3) := (hB'.cell 1).trans rfl
                have hf' := hB'.frozen 1
                refine ⟨⟨⟨w6, hc', hf'⟩, rfl⟩, ?_⟩
                clear hc' hf' hB'
                obtain ⟨v8, w8, h1, hr8⟩ := HR6.out.app (l := M.drop k) (c := cap3 - k) ((HRD.out.rd.nn HR6.out.upd).dropA k cap3 HRD.out.le) (dropA_nil HRD.out.nil) (by simp; omega)
                rw [List.length_drop] at h1
                obtain ⟨A8, cap8, rfl, hrw8, hA8⟩ := hr8.rw_
                rw [show M.take k ++ [(d, id)] ++ M.drop k = insT (d, id) M by rw [HI.out]; simp] at hrw8 hr8 h1
                have HR8 := Lib.hid hr8
                have HRW := Lib.hid hrw8
                have HA8 := Lib.hid hA8
                clear hr8 hrw8 hA8
                refine WA.one HRG.out 2 15 rfl (by kernel_rfl) ?_
                simp only [opsAt_cons, opsAt_nil, List.getElem?_toArray, List.getElem?_cons_zero, List.getElem?_cons_succ, consO_some]
                go_wp2_with (at_builtin; refine wpList_append_eq _ _ rfl rfl h1 rfl rfl rfl ?_)
                clear h1
                have hB' := HBD.out.upd (HR8.out.upd) (fun h => h)
                have hc' : World.cell? (w8) ⟨w.heap.size, 1, none⟩ = some (.slice (some ad) M.length cap3) := (hB'.cell 1).trans rfl
                have hf' := hB'.frozen 1
                refine ⟨⟨⟨w8, hc', hf'⟩, rfl⟩, ?_⟩
                clear hc' hf' hB'
                refine WA.seg HRG.out 1 [16] rfl (by kernel_rfl) ?_
                simp only [opsAt_cons, opsAt_nil, List.getElem?_toArray, List.getElem?_cons_zero, List.getElem?_cons_succ, consO_some]
                repeat (first | go_big_quiet_skip | (go_big_quiet_want; go_big_quiet_op; go_big_quiet_on))
                refine wpQuiet_nil ?_
                refine WA.fin (by kernel_rfl) ?_
                simp only [opsAt_cons, opsAt_nil, List.getElem?_toArray, List.getElem?_cons_zero, List.getElem?_cons_succ, consO_some]
                have hB8 := HBD.out.upd HR8.out.upd (fun h => h)
                have hC8 := HCD.out.upd HR8.out.upd (fun h => h)
                have x0 : w8.cell? ⟨w.heap.size, 0, none⟩ = some (.int .i64 now) := (hB8.cell 0).trans rfl
                have x1 : w8.cell? ⟨w.heap.size, 1, none⟩ = some (.slice (some ad) M.length cap3) := (hB8.cell 1).trans rfl
                have xf1 := hB8.frozen 1
                have z0 : w8.cell? ⟨w.heap.size + 1, 0, none⟩ = some (.int .i64 0) := (hC8.cell 0).trans rfl
                have z1 : w8.cell? ⟨w.heap.size + 1, 1, none⟩ = some (.slice none 0 0) := (hC8.cell 1).trans rfl
                have zf0 := hC8.frozen 0
                have zf1 := hC8.frozen 1
                have HC8 := Lib.hid hC8
                clear hC8 hB8 XC y1 yf
                generalize insT (d, id) M = N at *
                go_wp2
                have hW7 := HRW.out.away (F := fun i => w.heap.size ≤ i ∧ i < wd.heap.size) ((((Upd.refl w8 _).set ⟨w.heap.size, 1, none⟩ (.slice A8 N.length cap8) (.inl ⟨Nat.le_refl _, Nat.lt_of_succ_lt HCD.out.lt⟩)).set ⟨w.heap.size + 1, 0, none⟩ (.int .i64 now) (.inl ⟨by simp, HCD.out.lt⟩)).set ⟨w.heap.size + 1, 1, none⟩ (.slice A8 N.length cap8) (.inl ⟨by simp, HCD.out.lt⟩)) (fun ad e h => by have := HA8.out ad e; omega)
                have hU7 : Upd wd (((w8.setCell ⟨w.heap.size, 1, none⟩ (.slice A8 N.length cap8)).setCell ⟨w.heap.size + 1, 0, none⟩ (.int .i64 now)).setCell ⟨w.heap.size + 1, 1, none⟩ (.slice A8 N.length cap8)) (fun i => w.heap.size ≤ i ∧ i < wd.heap.size) := by
                  have hlt2 := HCD.out.lt
                  exact (((HR8.out.upd.mono (fun _ _ h => h.elim)).set _ _ (.inl ⟨Nat.le_refl _, by simp; omega⟩)).set _ _ (.inl ⟨by simp, hlt2⟩)).set _ _ (.inl ⟨by simp, hlt2⟩)
                have hC7 := ((HC8.out.far (p := ⟨w.heap.size, 1, none⟩) (by simp) (.slice A8 N.length cap8)).set 0 (.int .i64 now)).set 1 (.slice A8 N.length cap8)
                generalize ((w8.setCell ⟨w.heap.size, 1, none⟩ (.slice A8 N.length cap8)).setCell ⟨w.heap.size + 1, 0, none⟩ (.int .i64 now)).setCell ⟨w.heap.size + 1, 1, none⟩ (.slice A8 N.length cap8) = w7 at *
                have r0 : w7.cell? ⟨w.heap.size + 1, 0, none⟩ = some (.int .i64 now) := (hC7.cell 0).trans rfl
                have r1 : w7.cell? ⟨w.heap.size + 1, 1, none⟩ = some (.slice A8 N.length cap8) := (hC7.cell 1).trans rfl
                refine bodyPost_ret (v := .tuple #[.agg #[.int .i64 now, .slice A8 N.length cap8], .int .i64 0]) (by simp [results, Try.results10, go_sem, r0, r1]) rfl ?_
                unfold SetF
                rw [HS.out.1, HS.out.2]
                exact ⟨A8, cap8, rfl, hW7, HUD.out.trans hU7 (fun _ _ h => h) (fun i h h2 => by omega), .inr fun ad e => by have := HA8.out ad e; have := HUD.out.size; omega⟩
            · go_wp2_with fail
              have hB' := HBD.out.upd ((Upd.refl wd Nope).alloc (.cells #[.int .i64 id, .int .i64 d] 50)) (fun h => h)
              have hc' : World.cell? (wd.alloc (.cells #[.int .i64 id, .int .i64 d] 50)) ⟨w.heap.size, 1, none⟩ = some (.slice (some ad) M.length cap3) := (hB'.cell 1).trans rfl
              have hf' := hB'.frozen 1
              refine ⟨⟨⟨wd.alloc (.cells #[.int .i64 id, .int .i64 d] 50), hc', hf'⟩, rfl⟩, ?_⟩
              clear hc' hf' hB'
              refine WA.one HRG.out 5 0 rfl (by kernel_rfl) ?_
              simp only [opsAt_cons, opsAt_nil, List.getElem?_toArray, List.getElem?_cons_zero, List.getElem?_cons_succ, consO_some]
              have hw3 := Row3.first wd (d, id)
              simp only at hw3
              go_wp2_with fail
              generalize (wd.alloc (.cells #[.int .i64 id, .int .i64 d] 50)).alloc (.cells #[] 50) = wb at *
              have HWB := Lib.hid hw3
              clear hw3
              generalize wd.heap.size = B at *
              have hB' := HBD.out.upd (HWB.out.row.upd) (fun h => h)
              have hc' : World.cell? (wb) ⟨w.heap.size, 1, none⟩ = some (.slice (some ad) M.length cap3) := (hB'.cell 1).trans rfl
              have hf' := hB'.frozen 1
              refine ⟨⟨⟨wb, hc', hf'⟩, rfl⟩, ?_⟩
              clear hc' hf' hB'
              obtain ⟨v5, w5, h1, h5⟩ := HWB.out.app (l := M.take k) (c := cap3) ((HRD.out.rd.nn HWB.out.row.upd).take k) HRD.out.nil (by simp; omega)
              rw [List.length_take, Nat.min_eq_left hk, List.nil_append] at *
              have HW3 := Lib.hid h5
              clear h5
              refine WA.one HRG.out 4 5 rfl (by kernel_rfl) ?_
              simp only [opsAt_cons, opsAt_nil, List.getElem?_toArray, List.getElem?_cons_zero, List.getElem?_cons_succ, consO_some]
              go_wp2_with (at_builtin; refine wpList_append_eq _ _ rfl rfl h1 rfl rfl rfl ?_)
              clear h1
              have hB' := HBD.out.upd (HW3.out.row.upd) (fun h => h)
              have hc' : World.cell? (w5) ⟨w.heap.size, 1, none⟩ = some (.slice (some ad) M.length cap3) := (hB'.cell 1).trans rfl
              have hf' := hB'.frozen 1
              refine ⟨⟨⟨w5, hc', hf'⟩, rfl⟩, ?_⟩
              clear hc' hf' hB'
              obtain ⟨v6, w6, h1, hr6⟩ := HW3.out.row.app (l := [(d, id)]) (c := 1) HW3.out.one (by intro h; cases h) (by simp; omega)
              have HR6 := Lib.hid hr6
              clear hr6
              refine WA.one HRG.out 3 10 rfl (by kernel_rfl) ?_
              simp only [opsAt_cons, opsAt_nil, List.getElem?_toArray, List.getElem?_cons_zero, List.getElem?_cons_succ, consO_some]
              go_wp2_with (at_builtin; refine wpList_append_eq _ _ rfl rfl h1 rfl rfl rfl ?_)
              clear h1
              have hB' := HBD.out.upd (HR6.out.upd) (fun h => h)
              have hc' : World.cell? (w6) ⟨w.heap.size, 1, none⟩ = some (.slice (some ad) M.length cap3) := (hB'.cell 1).trans rfl
              have hf' := hB'.frozen 1
              refine ⟨⟨⟨w6, hc', hf'⟩, rfl⟩, ?_⟩
              clear hc' hf' hB'
              obtain ⟨v8, w8, h1, hr8⟩ := HR6.out.app (l := M.drop k) (c := cap3 - k) ((HRD.out.rd.nn HR6.out.upd).dropA k cap3 HRD.out.le) (dropA_nil HRD.out.nil) (by simp; omega)
              rw [List.length_drop] at h1
              obtain ⟨A8, cap8, rfl, hrw8, hA8⟩ := hr8.rw_
              rw [show M.take k ++ [(d, id)] ++ M.drop k = insT (d, id) M by rw [HI.out]; simp] at hrw8 hr8 h1
              have HR8 := Lib.hid hr8
              have HRW := Lib.hid hrw8
              have HA8 := Lib.hid hA8
              clear hr8 hrw8 hA8
              refine WA.one HRG.out 2 15 rfl (by kernel_rfl) ?_
              simp only [opsAt_cons, opsAt_nil, List.getElem?_toArray, List.getElem?_cons_zero, List.getElem?_cons_succ, consO_some]
              go_wp2_with (at_builtin; refine wpList_append_eq _ _ rfl rfl h1 rfl rfl rfl ?_)
              clear h1
              have hB' := HBD.out.upd (HR8.out.upd) (fun h => h)
              have hc' : World.cell? (w8) ⟨w.heap.size, 1, none⟩ = some (.slice (some ad) M.length cap3) := (hB'.cell 1).trans rfl
              have hf' := hB'.frozen 1
              refine ⟨⟨⟨w8, hc', hf'⟩, rfl⟩, ?_⟩
              clear hc' hf' hB'
              refine WA.seg HRG.out 1 [16] rfl (by kernel_rfl) ?_
              simp only [opsAt_cons, opsAt_nil, List.getElem?_toArray, List.getElem?_cons_zero, List.getElem?_cons_succ, consO_some]
              repeat (first | go_big_quiet_skip | (go_big_quiet_want; go_big_quiet_op; go_big_quiet_on))
              refine wpQuiet_nil ?_
              refine WA.fin (by kernel_rfl) ?_
              simp only [opsAt_cons, opsAt_nil, List.getElem?_toArray, List.getElem?_cons_zero, List.getElem?_cons_succ, consO_some]
              have hB8 := HBD.out.upd HR8.out.upd (fun h => h)
              have hC8 := HCD.out.upd HR8.out.upd (fun h => h)
              have x0 : w8.cell? ⟨w.heap.size, 0, none⟩ = some (.int .i64 now) := (hB8.cell 0).trans rfl
              have x1 : w8.cell? ⟨w.heap.size, 1, none⟩ = some (.slice (some ad) M.length cap3) := (hB8.cell 1).trans rfl
              have xf1 := hB8.frozen 1
              have z0 : w8.cell? ⟨w.heap.size + 1, 0, none⟩ = some (.int .i64 0) := (hC8.cell 0).trans rfl
              have z1 : w8.cell? ⟨w.heap.size + 1, 1, none⟩ = some (.slice none 0 0) := (hC8.cell 1).trans rfl
              have zf0 := hC8.frozen 0
              have zf1 := hC8.frozen 1
              have HC8 := Lib.hid hC8
              clear hC8 hB8 XC y1 yf
              generalize insT (d, id) M = N at *
              go_wp2
              have hW7 := HRW.out.away (F := fun i => w.heap.size ≤ i ∧ i < wd.heap.size) ((((Upd.refl w8 _).set ⟨w.heap.size, 1, none⟩ (.slice A8 N.length cap8) (.inl ⟨Nat.le_refl _, Nat.lt_of_succ_lt HCD.out.lt⟩)).set ⟨w.heap.size + 1, 0, none⟩ (.int .i64 now) (.inl ⟨by simp, HCD.out.lt⟩)).set ⟨w.heap.size + 1, 1, none⟩ (.slice A8 N.length cap8) (.inl ⟨by simp, HCD.out.lt⟩)) (fun ad e h => by have := HA8.out ad e; omega)
              have hU7 : Upd wd (((w8.setCell ⟨w.heap.size, 1, none⟩ (.slice A8 N.length cap8)).setCell ⟨w.heap.size + 1, 0, none⟩ (.int .i64 now)).setCell ⟨w.heap.size + 1, 1, none⟩ (.slice A8 N.length cap8)) (fun i => w.heap.size ≤ i ∧ i < wd.heap.size) := by
                have hlt2 := HCD.out.lt
                exact (((HR8.out.upd.mono (fun _ _ h => h.elim)).set _ _ (.inl ⟨Nat.le_refl _, by simp; omega⟩)).set _ _ (.inl ⟨by simp, hlt2⟩)).set _ _ (.inl ⟨by simp, hlt2⟩)
              have hC7 := ((HC8.out.far (p := ⟨w.heap.size, 1, none⟩) (by simp) (.slice A8 N.length cap8)).set 0 (.int .i64 now)).set 1 (.slice A8 N.length cap8)
              generalize ((w8.setCell ⟨w.heap.size, 1, none⟩ (.slice A8 N.length cap8)).setCell ⟨w.heap.size + 1, 0, none⟩ (.int .i64 now)).setCell ⟨w.heap.size + 1, 1, none⟩ (.slice A8 N.length cap8) = w7 at *
              have r0 : w7.cell? ⟨w.heap.size + 1, 0, none⟩ = some (.int .i64 now) := (hC7.cell 0).trans rfl
              have r1 : w7.cell? ⟨w.heap.size + 1, 1, none⟩ = some (.slice A8 N.length cap8) := (hC7.cell 1).trans rfl
              refine bodyPost_ret (v := .tuple #[.agg #[.int .i64 now, .slice A8 N.length cap8], .int .i64 0]) (by simp [results, Try.results10, go_sem, r0, r1]) rfl ?_
              unfold SetF
              rw [HS.out.1, HS.out.2]
              exact ⟨A8, cap8, rfl, hW7, HUD.out.trans hU7 (fun _ _ h => h) (fun i h h2 => by omega), .inr fun ad e => by have := HA8.out ad e; have := HUD.out.size; omega⟩
          · obtain ⟨ad, rfl, hcell⟩ := HR4.out.rd k hlt
            have g0 := hcell 0 (.int .i64 M[k].2) rfl
            have g1 := (HR4.out.rd).fs hlt 0 (v := .int .i64 M[k].1) rfl
            simp only [Nat.add_zero, Nat.zero_add] at g0 g1
            clear hst
            clear hcell
            go_upto_region 9 with (fail)
            clear g0 g1 t1 t2 t3
            have hM9 : M.length ≤ 1000 := Nat.le_trans HDL.out hL
            have hBd := HB4.out.upd ((Upd.refl w4 Nope).drew) (fun h => h)
            have hCd := HC4.out.upd ((Upd.refl w4 Nope).drew) (fun h => h)
            have hrd := HR4.out.nn ((Upd.refl w4 Nope).drew)
            have hUd := HU4.out.nn ((Upd.refl w4 Nope).drew)
            have y1 : w4.drew.cell? ⟨w.heap.size, 1, none⟩ = some (.slice (some ad) M.length cap3) := (hBd.cell 1).trans rfl
            have yf := hBd.frozen 1
            have XC := fun (x : US w.heap.size (.slice (some ad) M.length cap3)) => x.h1
            haveI : Nonempty (US w.heap.size (.slice (some ad) M.length cap3)) := ⟨⟨w4.drew, y1, yf⟩⟩
            refine region_tree 17 [16, 15, 14, 10, 13, 12, 11, 9, 8, 7, 6, 5, 4, 3, 2, 1, 0] (by kernel_rfl) (fun w' => ∃ x : US w.heap.size (.slice (some ad) M.length cap3), w' = x.val) (by kernel_rfl) (fun _ _ d _ _ h => by cases d <;> exact h) ⟨⟨w4.drew, y1, yf⟩, rfl⟩ ?_
            intro hR
            have HRG := Lib.hid hR
            have HBD := Lib.hid hBd
            have HCD := Lib.hid hCd
            have HRD := Lib.hid hrd
            have HUD := Lib.hid hUd
            clear hR hBd hCd hrd hUd b0 b1
            generalize w4.drew = wd at *
            refine WA.seg HRG.out 7 [1, 2, 3, 4, 6, 7, 8, 11, 12, 13, 14] rfl (by kernel_rfl) ?_
            simp only [opsAt_cons, opsAt_nil, List.getElem?_toArray, List.getElem?_cons_zero, List.getElem?_cons_succ, consO_some]
            have hs1 := HS1.out
            have hs2 := HS2.out
            repeat (first | go_big_quiet_skip | (go_big_quiet_want; go_big_quiet_op; go_big_quiet_on))
            refine wpQuiet_nil ?_
            clear hs1 hs2
            refine WA.two HRG.out 6 0 9 rfl (by kernel_rfl) ?_ ?_
            all_goals simp only [opsAt_cons, opsAt_nil, List.getElem?_toArray, List.getElem?_cons_zero, List.getElem?_cons_succ, consO_some]
            · go_wp2_with fail
              have hra := Row2.first wd
              generalize wd.alloc (.cells #[] 50) = wa at *
              have HRA := Lib.hid hra
              clear hra
              have hB' := HBD.out.upd (HRA.out.upd) (fun h => h)
              have hc' : World.cell? (wa) ⟨w.heap.size, 1, none⟩ = some (.slice (some ad) M.length cap3) := (hB'.cell 1).trans rfl
              have hf' := hB'.frozen 1
              refine ⟨⟨⟨wa, hc', hf'⟩, rfl⟩, ?_⟩
              clear hc' hf' hB'
              refine WA.two HRG.out 5 5 9 rfl (by kernel_rfl) ?_ ?_
              all_goals simp only [opsAt_cons, opsAt_nil, List.getElem?_toArray, List.getElem?_cons_zero, List.getElem?_cons_succ, consO_some]
              · obtain ⟨v4, wb, h1, h5⟩ := HRA.out.app (l := M.take k) (c := cap3) ((HRD.out.rd.nn HRA.out.upd).take k) HRD.out.nil (by simp; omega)
                rw [List.length_take, Nat.min_eq_left hk] at h1
                rw [List.nil_append] at h5
                have HRB := Lib.hid h5
                clear h5
                go_wp2_with (at_builtin; refine wpList_append_eq _ _ rfl rfl h1 rfl rfl rfl ?_)
                clear h1
                have hB' := HBD.out.upd (HRB.out.upd) (fun h => h)
                have hc' : World.cell? (wb) ⟨w.heap.size, 1, none⟩ = some (.slice (some ad) M.length cap3) := (hB'.cell 1).trans rfl
                have hf' := hB'.frozen 1
                refine ⟨⟨⟨wb, hc', hf'⟩, rfl⟩, ?_⟩
                clear hc' hf' hB'
                refine WA.one HRG.out 4 9 rfl (by kernel_rfl) ?_
                simp only [opsAt_cons, opsAt_nil, List.getElem?_toArray, List.getElem?_cons_zero, List.getElem?_cons_succ, consO_some]
                go_wp2_with fail
                have hw3 := HRB.out.with_ (d, id)
                simp only at hw3
                generalize wb.alloc (.cells #[.int .i64 id, .int .i64 d] 50) = w5 at *
                have HW3 := Lib.hid hw3
                clear hw3
                generalize wb.heap.size = B at *
                have hB' := HBD.out.upd (HW3.out.row.upd) (fun h => h)
                have hc' : World.cell? (w5) ⟨w.heap.size, 1, none⟩ = some (.slice (some ad) M.length cap3) := (hB'.cell 1).trans rfl
                have hf' := hB'.frozen 1
                refine ⟨⟨⟨w5, hc', hf'⟩, rfl⟩, ?_⟩
                clear hc' hf' hB'
                obtain ⟨v6, w6, h1, hr6⟩ := HW3.out.row.app (l := [(d, id)]) (c := 1) HW3.out.one (by intro h; cases h) (by simp; omega)
                have HR6 := Lib.hid hr6
                clear hr6
                refine WA.one HRG.out 3 10 rfl (by kernel_rfl) ?_
                simp only [opsAt_cons, opsAt_nil, List.getElem?_toArray, List.getElem?_cons_zero, List.getElem?_cons_succ, consO_some]
                go_wp2_with (at_builtin; refine wpList_append_eq _ _ rfl rfl h1 rfl rfl rfl ?_)
                clear h1
                have hB' := HBD.out.upd (HR6.out.upd) (fun h => h)
                have hc' : World.cell? (w6) ⟨w.heap.size, 1, none⟩ = some (.slice (some ad) M.length cap3) := (hB'.cell 1).trans rfl
                have hf' := hB'.frozen 1
                refine ⟨⟨⟨w6, hc', hf'⟩, rfl⟩, ?_⟩
                clear hc' hf' hB'
                obtain ⟨v8, w8, h1, hr8⟩ := HR6.out.app (l := M.drop k) (c := cap3 - k) ((HRD.out.rd.nn HR6.out.upd).dropA k cap3 HRD.out.le) (dropA_nil HRD.out.nil) (by simp; omega)
                rw [List.length_drop] at h1
                obtain ⟨A8, cap8, rfl, hrw8, hA8⟩ := hr8.rw_
                rw [show M.take k ++ [(d, id)] ++ M.drop k = insT (d, id) M by rw [HI.out]; simp] at hrw8 hr8 h1
                have HR8 := Lib.hid hr8
                have HRW := Lib.hid hrw8
                have HA8 := Lib.hid hA8
                clear hr8 hrw8 hA8
                refine WA.one HRG.out 2 15 rfl (by kernel_rfl) ?_
                simp only [opsAt_cons, opsAt_nil, List.getElem?_toArray, List.getElem?_cons_zero, List.getElem?_cons_succ, consO_some]
                go_wp2_with (at_builtin; refine wpList_append_eq _ _ rfl rfl h1 rfl rfl rfl ?_)
                clear h1
                have hB' := HBD.out.upd (HR8.out.upd) (fun h => h)
                have hc' : World.cell? (w8) ⟨w.heap.size, 1, none⟩ = some (.slice (some ad) M.length cap3) := (hB'.cell 1).trans rfl
                have hf' := hB'.frozen 1
                refine ⟨⟨⟨w8, hc', hf'⟩, rfl⟩, ?_⟩
                clear hc' hf' hB'
                refine WA.seg HRG.out 1 [16] rfl (by kernel_rfl) ?_
                simp only [opsAt_cons, opsAt_nil, List.getElem?_toArray, List.getElem?_cons_zero, List.getElem?_cons_succ, consO_some]
                repeat (first | go_big_quiet_skip | (go_big_quiet_want; go_big_quiet_op; go_big_quiet_on))
                refine wpQuiet_nil ?_
                refine WA.fin (by kernel_rfl) ?_
                simp only [opsAt_cons, opsAt_nil, List.getElem?_toArray, List.getElem?_cons_zero, List.getElem?_cons_succ, consO_some]
                have hB8 := HBD.out.upd HR8.out.upd (fun h => h)
                have hC8 := HCD.out.upd HR8.out.upd (fun h => h)
                have x0 : w8.cell? ⟨w.heap.size, 0, none⟩ = some (.int .i64 now) := (hB8.cell 0).trans rfl
                have x1 : w8.cell? ⟨w.heap.size, 1, none⟩ = some (.slice (some ad) M.length cap3) := (hB8.cell 1).trans rfl
                have xf1 := hB8.frozen 1
                have z0 : w8.cell? ⟨w.heap.size + 1, 0, none⟩ = some (.int .i64 0) := (hC8.cell 0).trans rfl
                have z1 : w8.cell? ⟨w.heap.size + 1, 1, none⟩ = some (.slice none 0 0) := (hC8.cell 1).trans rfl
                have zf0 := hC8.frozen 0
                have zf1 := hC8.frozen 1
                have HC8 := Lib.hid hC8
                clear hC8 hB8 XC y1 yf
                generalize insT (d, id) M = N at *
                go_wp2
                have hW7 := HRW.out.away (F := fun i => w.heap.size ≤ i ∧ i < wd.heap.size) ((((Upd.refl w8 _).set ⟨w.heap.size, 1, none⟩ (.slice A8 N.length cap8) (.inl ⟨Nat.le_refl _, Nat.lt_of_succ_lt HCD.out.lt⟩)).set ⟨w.heap.size + 1, 0, none⟩ (.int .i64 now) (.inl ⟨by simp, HCD.out.lt⟩)).set ⟨w.heap.size + 1, 1, none⟩ (.slice A8 N.length cap8) (.inl ⟨by simp, HCD.out.lt⟩)) (fun ad e h => by have := HA8.out ad e; omega)
                have hU7 : Upd wd (((w8.setCell ⟨w.heap.size, 1, none⟩ (.slice A8 N.length cap8)).setCell ⟨w.heap.size + 1, 0, none⟩ (.int .i64 now)).setCell ⟨w.heap.size + 1, 1, none⟩ (.slice A8 N.length cap8)) (fun i => w.heap.size ≤ i ∧ i < wd.heap.size) := by
                  have hlt2 := HCD.out.lt
                  exact (((HR8.out.upd.mono (fun _ _ h => h.elim)).set _ _ (.inl ⟨Nat.le_refl _, by simp; omega⟩)).set _ _ (.inl ⟨by simp, hlt2⟩)).set _ _ (.inl ⟨by simp, hlt2⟩)
                have hC7 := ((HC8.out.far (p := ⟨w.heap.size, 1, none⟩) (by simp) (.slice A8 N.length cap8)).set 0 (.int .i64 now)).set 1 (.slice A8 N.length cap8)
                generalize ((w8.setCell ⟨w.heap.size, 1, none⟩ (.slice A8 N.length cap8)).setCell ⟨w.heap.size + 1, 0, none⟩ (.int .i64 now)).setCell ⟨w.heap.size + 1, 1, none⟩ (.slice A8 N.length cap8) = w7 at *
                have r0 : w7.cell? ⟨w.heap.size + 1, 0, none⟩ = some (.int .i64 now) := (hC7.cell 0).trans rfl
                have r1 : w7.cell? ⟨w.heap.size + 1, 1, none⟩ = some (.slice A8 N.length cap8) := (hC7.cell 1).trans rfl
                refine bodyPost_ret (v := .tuple #[.agg #[.int .i64 now, .slice A8 N.length cap8], .int .i64 0]) (by simp [results, Try.results10, go_sem, r0, r1]) rfl ?_
                unfold SetF
                rw [HS.out.1, HS.out.2]
                exact ⟨A8, cap8, rfl, hW7, HUD.out.trans hU7 (fun _ _ h => h) (fun i h h2 => by omega), .inr fun ad e => by have := HA8.out ad e; have := HUD.out.size; omega⟩
              · go_wp2_with fail
                have hw3 := HRA.out.with_ (d, id)
                simp only at hw3
                generalize wa.alloc (.cells #[.int .i64 id, .int .i64 d] 50) = wb at *
                have HWB := Lib.hid hw3
                clear hw3
                generalize wa.heap.size = B at *
                have hB' := HBD.out.upd (HWB.out.row.upd) (fun h => h)
                have hc' : World.cell? (wb) ⟨w.heap.size, 1, none⟩ = some (.slice (some ad) M.length cap3) := (hB'.cell 1).trans rfl
                have hf' := hB'.frozen 1
                refine ⟨⟨⟨wb, hc', hf'⟩, rfl⟩, ?_⟩
                clear hc' hf' hB'
                obtain ⟨v5, w5, h1, h5⟩ := HWB.out.app (l := M.take k) (c := cap3) ((HRD.out.rd.nn HWB.out.row.upd).take k) HRD.out.nil (by simp; omega)
                rw [List.length_take, Nat.min_eq_left hk, List.nil_append] at *
                have HW3 := Lib.hid h5
                clear h5
                refine WA.one HRG.out 4 5 rfl (by kernel_rfl) ?_
                simp only [opsAt_cons, opsAt_nil, List.getElem?_toArray, List.getElem?_cons_zero, List.getElem?_cons_succ, consO_some]
                go_wp2_with (at_builtin; refine wpList_append_eq _ _ rfl rfl h1 rfl rfl rfl ?_)
                clear h1
                have hB' := HBD.out.upd (HW3.out.row.upd) (fun h => h)
                have hc' : World.cell? (w5) ⟨w.heap.size, 1, none⟩ = some (.slice (some ad) M.length cap3) := (hB'.cell 1).trans rfl
                have hf' := hB'.frozen 1
                refine ⟨⟨⟨w5, hc', hf'⟩, rfl⟩, ?_⟩
                clear hc' hf' hB'
                obtain ⟨v6, w6, h1, hr6⟩ := HW3.out.row.app (l := [(d, id)]) (c := 1) HW3.out.one (by intro h; cases h) (by simp; omega)
                have HR6 := Lib.hid hr6
                clear hr6
                refine WA.one HRG.out 3 10 rfl (by kernel_rfl) ?_
                simp only [opsAt_cons, opsAt_nil, List.getElem?_toArray, List.getElem?_cons_zero, List.getElem?_cons_succ, consO_some]
                go_wp2_with (at_builtin; refine wpList_append_eq _ _ rfl rfl h1 rfl rfl rfl ?_)
                clear h1
                have hB' := HBD.out.upd (HR6.out.upd) (fun h => h)
                have hc' : World.cell? (w6) ⟨w.heap.size, 1, none⟩ = some (.slice (some ad) M.length cap3) := (hB'.cell 1).trans rfl
                have hf' := hB'.frozen 1
                refine ⟨⟨⟨w6, hc', hf'⟩, rfl⟩, ?_⟩
                clear hc' hf' hB'
                obtain ⟨v8, w8, h1, hr8⟩ := HR6.out.app (l := M.drop k) (c := cap3 - k) ((HRD.out.rd.nn HR6.out.upd).dropA k cap3 HRD.out.le) (dropA_nil HRD.out.nil) (by simp; omega)
                rw [List.length_drop] at h1
                obtain ⟨A8, cap8, rfl, hrw8, hA8⟩ := hr8.rw_
                rw [show M.take k ++ [(d, id)] ++ M.drop k = insT (d, id) M by rw [HI.out]; simp] at hrw8 hr8 h1
                have HR8 := Lib.hid hr8
                have HRW := Lib.hid hrw8
                have HA8 := Lib.hid hA8
                clear hr8 hrw8 hA8
                refine WA.one HRG.out 2 15 rfl (by kernel_rfl) ?_
                simp only [opsAt_cons, opsAt_nil, List.getElem?_toArray, List.getElem?_cons_zero, List.getElem?_cons_succ, consO_some]
                go_wp2_with (at_builtin; refine wpList_append_eq _ _ rfl rfl h1 rfl rfl rfl ?_)
                clear h1
                have hB' := HBD.out.upd (HR8.out.upd) (fun h => h)
                have hc' : World.cell? (w8) ⟨w.heap.size, 1, none⟩ = some (.slice (some ad) M.length cap3) := (hB'.cell 1).trans rfl
                have hf' := hB'.frozen 1
                refine ⟨⟨⟨w8, hc', hf'⟩, rfl⟩, ?_⟩
                clear hc' hf' hB'
                refine WA.seg HRG.out 1 [16] rfl (by kernel_rfl) ?_
                simp only [opsAt_cons, opsAt_nil, List.getElem?_toArray, List.getElem?_cons_zero, List.getElem?_cons_succ, consO_some]
                repeat (first | go_big_quiet_skip | (go_big_quiet_want; go_big_quiet_op; go_big_quiet_on))
                refine wpQuiet_nil ?_
                refine WA.fin (by kernel_rfl) ?_
                simp only [opsAt_cons, opsAt_nil, List.getElem?_toArray, List.getElem?_cons_zero, List.getElem?_cons_succ, consO_some]
                have hB8 := HBD.out.upd HR8.out.upd (fun h => h)
                have hC8 := HCD.out.upd HR8.out.upd (fun h => h)
                have x0 : w8.cell? ⟨w.heap.size, 0, none⟩ = some (.int .i64 now) := (hB8.cell 0).trans rfl
                have x1 : w8.cell? ⟨w.heap.size, 1, none⟩ = some (.slice (some ad) M.length cap3) := (hB8.cell 1).trans rfl
                have xf1 := hB8.frozen 1
                have z0 : w8.cell? ⟨w.heap.size + 1, 0, none⟩ = some (.int .i64 0) := (hC8.cell 0).trans rfl
                have z1 : w8.cell? ⟨w.heap.size + 1, 1, none⟩ = some (.slice none 0 0) := (hC8.cell 1).trans rfl
                have zf0 := hC8.frozen 0
                have zf1 := hC8.frozen 1
                have HC8 := Lib.hid hC8
                clear hC8 hB8 XC y1 yf
                generalize insT (d, id) M = N at *
                go_wp2
                have hW7 := HRW.out.away (F := fun i => w.heap.size ≤ i ∧ i < wd.heap.size) ((((Upd.refl w8 _).set ⟨w.heap.size, 1, none⟩ (.slice A8 N.length cap8) (.inl ⟨Nat.le_refl _, Nat.lt_of_succ_lt HCD.out.lt⟩)).set ⟨w.heap.size + 1, 0, none⟩ (.int .i64 now) (.inl ⟨by simp, HCD.out.lt⟩)).set ⟨w.heap.size + 1, 1, none⟩ (.slice A8 N.length cap8) (.inl ⟨by simp, HCD.out.lt⟩)) (fun ad e h => by have := HA8.out ad e; omega)
                have hU7 : Upd wd (((w8.setCell ⟨w.heap.size, 1, none⟩ (.slice A8 N.length cap8)).setCell ⟨w.heap.size + 1, 0, none⟩ (.int .i64 now)).setCell ⟨w.heap.size + 1, 1, none⟩ (.slice A8 N.length cap8)) (fun i => w.heap.size ≤ i ∧ i < wd.heap.size) := by
                  have hlt2 := HCD.out.lt
                  exact (((HR8.out.upd.mono (fun _ _ h => h.elim)).set _ _ (.inl ⟨Nat.le_refl _, by simp; omega⟩)).set _ _ (.inl ⟨by simp, hlt2⟩)).set _ _ (.inl ⟨by simp, hlt2⟩)
                have hC7 := ((HC8.out.far (p := ⟨w.heap.size, 1, none⟩) (by simp) (.slice A8 N.length cap8)).set 0 (.int .i64 now)).set 1 (.slice A8 N.length cap8)
                generalize ((w8.setCell ⟨w.heap.size, 1, none⟩ (.slice A8 N.length cap8)).setCell ⟨w.heap.size + 1, 0, none⟩ (.int .i64 now)).setCell ⟨w.heap.size + 1, 1, none⟩ (.slice A8 N.length cap8) = w7 at *
                have r0 : w7.cell? ⟨w.heap.size + 1, 0, none⟩ = some (.int .i64 now) := (hC7.cell 0).trans rfl
                have r1 : w7.cell? ⟨w.heap.size + 1, 1, none⟩ = some (.slice A8 N.length cap8) := (hC7.cell 1).trans rfl
                refine bodyPost_ret (v := .tuple #[.agg #[.int .i64 now, .slice A8 N.length cap8], .int .i64 0]) (by simp [results, Try.results10, go_sem, r0, r1]) rfl ?_
                unfold SetF
                rw [HS.out.1, HS.out.2]
                exact ⟨A8, cap8, rfl, hW7, HUD.out.trans hU7 (fun _ _ h => h) (fun i h h2 => by omega), .inr fun ad e => by have := HA8.out ad e; have := HUD.out.size; omega⟩
            · go_wp2_with fail
              have hB' := HBD.out.upd ((Upd.refl wd Nope).alloc (.cells #[.int .i64 id, .int .i64 d] 50)) (fun h => h)
              have hc' : World.cell? (wd.alloc (.cells #[.int .i64 id, .int .i64 d] 50)) ⟨w.heap.size, 1, none⟩ = some (.slice (some ad) M.length cap3) := (hB'.cell 1).trans rfl
              have hf' := hB'.frozen 1
              refine ⟨⟨⟨wd.alloc (.cells #[.int .i64 id, .int .i64 d] 50), hc', hf'⟩, rfl⟩, ?_⟩
              clear hc' hf' hB'
              refine WA.one HRG.out 5 0 rfl (by kernel_rfl) ?_
              simp only [opsAt_cons, opsAt_nil, List.getElem?_toArray, List.getElem?_cons_zero, List.getElem?_cons_succ, consO_some]
              have hw3 := Row3.first wd (d, id)
              simp only at hw3
              go_wp2_with fail
              generalize (wd.alloc (.cells #[.int .i64 id, .int .i64 d] 50)).alloc (.cells #[] 50) = wb at *
              have HWB := Lib.hid hw3
              clear hw3
              generalize wd.heap.size = B at *
              have hB' := HBD.out.upd (HWB.out.row.upd) (fun h => h)
              have hc' : World.cell? (wb) ⟨w.heap.size, 1, none⟩ = some (.slice (some ad) M.length cap3) := (hB'.cell 1).trans rfl
              have hf' := hB'.frozen 1
              refine ⟨⟨⟨wb, hc', hf'⟩, rfl⟩, ?_⟩
              clear hc' hf' hB'
              obtain ⟨v5, w5, h1, h5⟩ := HWB.out.app (l := M.take k) (c := cap3) ((HRD.out.rd.nn HWB.out.row.upd).take k) HRD.out.nil (by simp; omega)
              rw [List.length_take, Nat.min_eq_left hk, List.nil_append] at *
              have HW3 := Lib.hid h5
              clear h5
              refine WA.one HRG.out 4 5 rfl (by kernel_rfl) ?_
              simp only [opsAt_cons, opsAt_nil, List.getElem?_toArray, List.getElem?_cons_zero, List.getElem?_cons_succ, consO_some]
              go_wp2_with (at_builtin; refine wpList_append_eq _ _ rfl rfl h1 rfl rfl rfl ?_)
              clear h1
              have hB' := HBD.out.upd (HW3.out.row.upd) (fun h => h)
              have hc' : World.cell? (w5) ⟨w.heap.size, 1, none⟩ = some (.slice (some ad) M.length cap3) := (hB'.cell 1).trans rfl
              have hf' := hB'.frozen 1
              refine ⟨⟨⟨w5, hc', hf'⟩, rfl⟩, ?_⟩
              clear hc' hf' hB'
              obtain ⟨v6, w6, h1, hr6⟩ := HW3.out.row.app (l := [(d, id)]) (c := 1) HW3.out.one (by intro h; cases h) (by simp; omega)
              have HR6 := Lib.hid hr6
              clear hr6
              refine WA.one HRG.out 3 10 rfl (by kernel_rfl) ?_
              simp only [opsAt_cons, opsAt_nil, List.getElem?_toArray, List.getElem?_cons_zero, List.getElem?_cons_succ, consO_some]
              go_wp2_with (at_builtin; refine wpList_append_eq _ _ rfl rfl h1 rfl rfl rfl ?_)
              clear h1
              have hB' := HBD.out.upd (HR6.out.upd) (fun h => h)
              have hc' : World.cell? (w6) ⟨w.heap.size, 1, none⟩ = some (.slice (some ad) M.length cap3) := (hB'.cell 1).trans rfl
              have hf' := hB'.frozen 1
              refine ⟨⟨⟨w6, hc', hf'⟩, rfl⟩, ?_⟩
              clear hc' hf' hB'
              obtain ⟨v8, w8, h1, hr8⟩ := HR6.out.app (l := M.drop k) (c := cap3 - k) ((HRD.out.rd.nn HR6.out.upd).dropA k cap3 HRD.out.le) (dropA_nil HRD.out.nil) (by simp; omega)
              rw [List.length_drop] at h1
              obtain ⟨A8, cap8, rfl, hrw8, hA8⟩ := hr8.rw_
              rw [show M.take k ++ [(d, id)] ++ M.drop k = insT (d, id) M by rw [HI.out]; simp] at hrw8 hr8 h1
              have HR8 := Lib.hid hr8
              have HRW := Lib.hid hrw8
              have HA8 := Lib.hid hA8
              clear hr8 hrw8 hA8
              refine WA.one HRG.out 2 15 rfl (by kernel_rfl) ?_
              simp only [opsAt_cons, opsAt_nil, List.getElem?_toArray, List.getElem?_cons_zero, List.getElem?_cons_succ, consO_some]
              go_wp2_with (at_builtin; refine wpList_append_eq _ _ rfl rfl h1 rfl rfl rfl ?_)
              clear h1
              have hB' := HBD.out.upd (HR8.out.upd) (fun h => h)
              have hc' : World.cell? (w8) ⟨w.heap.size, 1, none⟩ = some (.slice (some ad) M.length cap3) := (hB'.cell 1).trans rfl
              have hf' := hB'.frozen 1
              refine ⟨⟨⟨w8, hc', hf'⟩, rfl⟩, ?_⟩
              clear hc' hf' hB'
              refine WA.seg HRG.out 1 [16] rfl (by kernel_rfl) ?_
              simp only [opsAt_cons, opsAt_nil, List.getElem?_toArray, List.getElem?_cons_zero, List.getElem?_cons_succ, consO_some]
              repeat (first | go_big_quiet_skip | (go_big_quiet_want; go_big_quiet_op; go_big_quiet_on))
              refine wpQuiet_nil ?_
              refine WA.fin (by kernel_rfl) ?_
              simp only [opsAt_cons, opsAt_nil, List.getElem?_toArray, List.getElem?_cons_zero, List.getElem?_cons_succ, consO_some]
              have hB8 := HBD.out.upd HR8.out.upd (fun h => h)
              have hC8 := HCD.out.upd HR8.out.upd (fun h => h)
              have x0 : w8.cell? ⟨w.heap.size, 0, none⟩ = some (.int .i64 now) := (hB8.cell 0).trans rfl
              have x1 : w8.cell? ⟨w.heap.size, 1, none⟩ = some (.slice (some ad) M.length cap3) := (hB8.cell 1).trans rfl
              have xf1 := hB8.frozen 1
              have z0 : w8.cell? ⟨w.heap.size + 1, 0, none⟩ = some (.int .i64 0) := (hC8.cell 0).trans rfl
              have z1 : w8.cell? ⟨w.heap.size + 1, 1, none⟩ = some (.slice none 0 0) := (hC8.cell 1).trans rfl
              have zf0 := hC8.frozen 0
              have zf1 := hC8.frozen 1
              have HC8 := Lib.hid hC8
              clear hC8 hB8 XC y1 yf
              generalize insT (d, id) M = N at *
              go_wp2
              have hW7 := HRW.out.away (F := fun i => w.heap.size ≤ i ∧ i < wd.heap.size) ((((Upd.refl w8 _).set ⟨w.heap.size, 1, none⟩ (.slice A8 N.length cap8) (.inl ⟨Nat.le_refl _, Nat.lt_of_succ_lt HCD.out.lt⟩)).set ⟨w.heap.size + 1, 0, none⟩ (.int .i64 now) (.inl ⟨by simp, HCD.out.lt⟩)).set ⟨w.heap.size + 1, 1, none⟩ (.slice A8 N.length cap8) (.inl ⟨by simp, HCD.out.lt⟩)) (fun ad e h => by have := HA8.out ad e; omega)
              have hU7 : Upd wd (((w8.setCell ⟨w.heap.size, 1, none⟩ (.slice A8 N.length cap8)).setCell ⟨w.heap.size + 1, 0, none⟩ (.int .i64 now)).setCell ⟨w.heap.size + 1, 1, none⟩ (.slice A8 N.length cap8)) (fun i => w.heap.size ≤ i ∧ i < wd.heap.size) := by
                have hlt2 := HCD.out.lt
                exact (((HR8.out.upd.mono (fun _ _ h => h.elim)).set _ _ (.inl ⟨Nat.le_refl _, by simp; omega⟩)).set _ _ (.inl ⟨by simp, hlt2⟩)).set _ _ (.inl ⟨by simp, hlt2⟩)
              have hC7 := ((HC8.out.far (p := ⟨w.heap.size, 1, none⟩) (by simp) (.slice A8 N.length cap8)).set 0 (.int .i64 now)).set 1 (.slice A8 N.length cap8)
              generalize ((w8.setCell ⟨w.heap.size, 1, none⟩ (.slice A8 N.length cap8)).setCell ⟨w.heap.size + 1, 0, none⟩ (.int .i64 now)).setCell ⟨w.heap.size + 1, 1, none⟩ (.slice A8 N.length cap8) = w7 at *
              have r0 : w7.cell? ⟨w.heap.size + 1, 0, none⟩ = some (.int .i64 now) := (hC7.cell 0).trans rfl
              have r1 : w7.cell? ⟨w.heap.size + 1, 1, none⟩ = some (.slice A8 N.length cap8) := (hC7.cell 1).trans rfl
              refine bodyPost_ret (v := .tuple #[.agg #[.int .i64 now, .slice A8 N.length cap8], .int .i64 0]) (by simp [results, Try.results10, go_sem, r0, r1]) rfl ?_
              unfold SetF
              rw [HS.out.1, HS.out.2]
              exact ⟨A8, cap8, rfl, hW7, HUD.out.trans hU7 (fun _ _ h => h) (fun i h h2 => by omega), .inr fun ad e => by have := HA8.out ad e; have := HUD.out.size; omega⟩
end Go.Proofs.Ytejelihioendnaa
