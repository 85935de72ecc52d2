/- WheelNext. -/
import Derived.Test.YtejelihioendnaaWow
set_option linter.unusedVariables false
set_option linter.unusedSimpArgs false
namespace Go.Proofs.Ytejelihioendnaa
open Go.RowKit
attribute [local go_sem] bmin2 bmax2 bmin_two bmax_two

/-- What is left in the wheel is what was set. -/
def Lft (now : Int) (l : List Int) (L : List (Int × Int)) : Prop := ∀ d x, (d, x) ∈ L → ∃ i, ∃ h : i < l.length, x = (i : Int) ∧ d = max l[i] (now + 1)
set_option maxRecDepth 100000 in
set_option maxHeartbeats 8000000 in
theorem wheelNext_any (w : World) (now : Int) (hnow : (Lit.int .i64 now).wf = true) (A : Option Addr) (cap : Nat) (l : List Int) (rd : Rd1 (Value.int .i64) w A l) (hc : l.length ≤ cap) (hm : cap ≤ maxLen) (ok : ∀ y ∈ l, (Lit.int .i64 y).wf = true) :
    Calls Try.prog 7 #[.int .i64 now, .slice A l.length cap] w fun e w' => e = .returned (.bool true) ∧ Below w.heap.size w w' := by
  refine Calls.mono (R := fun e w' => e = .returned (.bool true) ∧ Upd w w' Nope) ?_ (fun e w' ⟨h, u⟩ => ⟨h, u.below (fun _ h => h.elim)⟩)
  have hlm : l.length ≤ 9223372036854775807 := by unfold maxLen at hm; omega
  have hRD := rd
  have HA := Lib.hid (awake_any w)
  have HOK := Lib.hid ok
  have HRD := Lib.hid rd
  clear rd hc hm ok hRD
  go_enter Try.func7, Try.ntmps7
  go_wp2_with fail
  refine HA.out.mono ?_
  rintro e w1 ⟨rfl, u1⟩
  have U1 := Lib.hid u1
  clear HA u1
  by_cases hin : l.length ≤ 60 ∧ 0 ≤ now ∧ now ≤ 549755813888
  · obtain ⟨h1, h2, h3⟩ := hin
    have HNW := Lib.hid (at_new now w1)
    have hok : newOk now = true := by simp [newOk]; omega
    have d1 : decide (60 < (l.length : Int)) = false := by simp; omega
    have d2 : decide (now < 0) = false := by simp; omega
    have d3 : decide (549755813888 < now) = false := by simp; omega
    go_wp2_with fail
    refine HNW.out.mono ?_
    rintro e w2 ⟨_, hx, u2⟩
    obtain ⟨g, F, rfl, hA, hf⟩ := hx hok
    have hO : Own w w2 g F now [] := ⟨hA, fun i hi => by have := hf i hi; have := U1.out.size; omega, U1.out.nn u2⟩
    have HO := Lib.hid hO
    clear hO hA hf u2 hx HNW hok d1 d2 d3
    go_wp2_with fail
    go_loopw [7, 8] (fun c i wr => ∃ (k : Nat) (F' : Nat → Prop) (L : List (Int × Int)), k ≤ l.length ∧ i = .int .i64 k ∧ c = .int .i64 k ∧ Own w wr g F' now L ∧ SetK now l k L) (fun _ i _ => l.length - (intOf i).toNat)
    case atStart => exact ⟨0, F, [], by omega, rfl, rfl, HO.out, SetK.start now l⟩
    case round =>
      obtain ⟨k, F1, L, hk, rfl, rfl, hO, hS⟩ := hrel
      by_cases hkl : k < l.length
      · obtain ⟨ad, rfl, hcell⟩ := (HRD.out.upd hO.upd (fun _ h => h.elim)) k hkl
        have hS1 := hS.next hkl
        by_cases hb : 0 ≤ l[k] ∧ l[k] ≤ 1099511627776
        · have hC := hO.at_.set_ (k : Int) l[k] (okI_of (by omega) (by omega))
          obtain ⟨t1, t2⟩ := setT_of (now := now) (L := L) (id := (k : Int)) (due := l[k]) (by omega) hb.1 (by omega)
          rw [t1, t2] at hC
          have d1 : decide (l[k] < 0) = false := by simp; omega
          have d2 : decide (1099511627776 < l[k]) = false := by simp; omega
          have HC := Lib.hid hC
          have HS := Lib.hid hS1
          have HO1 := Lib.hid hO
          clear hC hS1 hO t1 t2 hS hb
          generalize l[k] = v at *
          go_wp2_with fail
          refine HC.out.mono ?_
          rintro e w3 ⟨rfl, F3, hA3, hg3⟩
          have HO3 := Lib.hid (HO1.out.step hg3 hA3)
          clear hA3 hg3 HC hcell d1 d2
          go_wp2_with fail
          go_roundw
          case rel => exact ⟨k + 1, F3, _, by omega, by go_num, by go_num, HO3.out, HS.out⟩
          case measure => simp [intOf]; omega
        · have hbb : decide (l[k] < 0) = true ∨ (decide (l[k] < 0) = false ∧ decide (1099511627776 < l[k]) = true) := by simp; omega
          have HU := Lib.hid hO.upd
          clear hO hS hS1 hb
          generalize l[k] = v at *
          rcases hbb with d1 | ⟨d1, d2⟩
          all_goals
            go_wp2
            go_returns
            exact ⟨rfl, HU.out⟩
      · obtain rfl : k = l.length := by omega
        have hlf : Lft now l L := fun d x hm => by
          obtain ⟨i, hi, _, h1, h2⟩ := (hS.2 d x).1 hm
          exact ⟨i, hi, h1, h2⟩
        have H0 := Lib.hid (show ∃ (k : Nat) (F' : Nat → Prop) (nw : Int) (L' : List (Int × Int)), (Value.int .i64 (l.length : Int) : Value) = .int .i64 k ∧ Own w wr g F' nw L' ∧ Lft now l L' ∧ L'.length = k ∧ k ≤ l.length from ⟨_, F1, now, L, rfl, hO, hlf, hS.1, Nat.le_refl _⟩)
        clear hO hS hlf
        go_wp2_with fail
        go_loopw [7] (fun c wr => ∃ (k : Nat) (F' : Nat → Prop) (nw : Int) (L' : List (Int × Int)), c = .int .i64 k ∧ Own w wr g F' nw L' ∧ Lft now l L' ∧ L'.length = k ∧ k ≤ l.length) (fun c _ => (intOf c).toNat)
        case atStart => exact H0.out
        case round =>
          clear H0
          obtain ⟨k, F2, nw, L2, rfl, hO2, hlf, hlk, hkl2⟩ := hrel
          cases hL2 : L2 with
          | nil =>
            subst hL2
            obtain rfl : k = 0 := by simpa using hlk.symm
            have HN := Lib.hid hO2.at_.next_
            have HU := Lib.hid hO2.upd
            clear hO2 hlf hlk
            simp only [headO, mv, mf, List.head?_nil, Option.map_none, Option.getD_none, Option.isSome_none] at HN
            go_wp2_with fail
            refine HN.out.mono ?_
            rintro e w4 ⟨rfl, u4⟩
            have HU4 := Lib.hid (HU.out.nn u4)
            clear u4 HN
            go_wp2_with fail
            go_returns
            exact ⟨rfl, HU4.out⟩
          | cons p T =>
            obtain ⟨n, x⟩ := p
            subst hL2
            have hkp : 0 < k := by rw [← hlk]; simp
            have hkd : decide (0 < (k : Int)) = true := by simpa using hkp
            have HN := Lib.hid hO2.at_.next_
            have hgt := hO2.at_.gt (n, x) List.mem_cons_self
            have hn0 := hO2.at_.n0
            have d1 : decide (n ≤ nw) = false := by simp; simpa using hgt
            have HO := Lib.hid hO2
            have HLF := Lib.hid hlf
            have HLK := Lib.hid hlk
            have HGT := Lib.hid hgt
            have HN0 := Lib.hid hn0
            simp only [headO, mv, mf, List.head?_cons, Option.map_some, Option.getD_some, Option.isSome_some] at HN
            clear hO2 hlf hlk hgt hn0
            go_wp2_with fail
            refine HN.out.mono ?_
            rintro e w4 ⟨rfl, u4⟩
            have hO4 := HO.out.nn u4
            have HW := Lib.hid hO4.at_.now_
            have HO4 := Lib.hid hO4
            clear u4 HN HO hO4
            go_wp2_with fail
            refine HW.out.mono ?_
            rintro e w5 ⟨rfl, rfl⟩
            by_cases hbig : n ≤ 1099511627776
            · have d2 : decide (1099511627776 < n) = false := by simp; omega
              have hLl : ((n, x) :: T).length ≤ 60 := by rw [HLK.out]; omega
              have hok1 : advOk nw (n - 1) 1048576 = true := by
                have h1 : nw < n := HGT.out
                have h2 := HN0.out
                simp [advOk]; omega
              have hA1 := HO4.out.at_.adv_ (by omega) (n - 1) 1048576
              rw [advR_quiet hok1 (fun p hp => by have := head_le HO4.out.at_.srt p hp; omega)] at hA1
              have HA1 := Lib.hid hA1
              have hw1 : wrap64 (n - 1) = n - 1 := by have h1 : nw < n := HGT.out; have h2 := HN0.out; go_arith
              have HOK1 := Lib.hid hok1
              have HLL := Lib.hid hLl
              clear hA1 hok1 hLl HW
              go_wp2_with fail
              refine HA1.out.mono ?_
              rintro e w6 ⟨A6, cap6, F6, rfl, hr6, hA6, hg6, hd6⟩
              have hO6 := HO4.out.step hg6 hA6
              have hok2 : advOk (n - 1) n 1048576 = true := by
                have := HO4.out.at_.n0; have := HGT.out
                have h2 := HOK1.out
                simp [advOk] at h2 ⊢; omega
              have hA2 := hA6.adv_ (by have := HLL.out; omega) n 1048576
              rw [advR_one hok2 hA6.srt (by have := HLL.out; omega)] at hA2
              have HA2 := Lib.hid hA2
              have HO6 := Lib.hid hO6
              simp only [List.length_nil] at *
              clear hA2 hO6 hA6 hg6 hd6 hr6 hok2 HA1
              go_wp2_with fail
              refine HA2.out.mono ?_
              rintro e w7 ⟨A7, cap7, F7, rfl, hr7, hA7, hg7, hd7⟩
              have hO7 := HO6.out.step hg7 hA7
              have hgr := grp_rest n ((n, x) :: T)
              have hgp : 0 < (grp n ((n, x) :: T)).length := List.length_pos_of_mem (mem_grp.2 List.mem_cons_self)
              have hsg := srt_grp (n := n) HO6.out.at_.srt
              have hmg : ∀ y ∈ grp n ((n, x) :: T), ∃ i, ∃ h : i < l.length, y = (i : Int) ∧ max l[i] (now + 1) = n := fun y hy => by
                obtain ⟨i, hi, h1, h2⟩ := HLF.out _ _ (mem_grp.1 hy)
                exact ⟨i, hi, h1, h2.symm⟩
              have hlf7 : Lft now l (rest n ((n, x) :: T)) := fun d y hm => HLF.out d y (mem_rest.1 hm).1
              have hge : (grp n ((n, x) :: T)).length ≤ k := by rw [← HLK.out]; omega
              have hre : (rest n ((n, x) :: T)).length = k - (grp n ((n, x) :: T)).length := by rw [← HLK.out]; omega
              generalize grp n ((n, x) :: T) = ks at *
              have HMG := Lib.hid hmg
              have HSG := Lib.hid hsg
              have HR7 := Lib.hid hr7
              have HO7 := Lib.hid hO7
              have HLF7 := Lib.hid hlf7
              have HRE := Lib.hid hre
              have hne : decide ((ks.length : Int) = 0) = false := by simp; intro e; subst e; simp at hgp
              clear hA7 hg7 hd7 hr7 hO7 hlf7 hre hgr hmg hsg HA2 d2
              go_wp2_with fail
              clear hne d1 hkd
              go_loopw [17] (fun i wr => ∃ j : Nat, j ≤ ks.length ∧ i = .int .i64 j ∧ Drew w7 wr) (fun i _ => ks.length - (intOf i).toNat)
              case atStart => exact ⟨0, by omega, rfl, Drew.refl _⟩
              case round =>
                obtain ⟨j, hj, rfl, hdr⟩ := hrel
                by_cases hjl : j < ks.length
                · obtain ⟨q, rfl, hq⟩ := (HR7.out.of_drew hdr) j hjl
                  obtain ⟨i, hi, hki, hmx⟩ := HMG.out ks[j] (List.getElem_mem hjl)
                  obtain ⟨ad, rfl, hd⟩ := (HRD.out.upd (HO7.out.nn (hdr.upd Nope)).upd (fun _ h => h.elim)) i hi
                  have hmx' : imax l[i] (now + 1) = n := by rw [imax_eq]; exact hmx
                  rw [hki] at hq
                  have HDR := Lib.hid hdr
                  by_cases hj0 : 0 < j
                  · have hlt : ks[j - 1] < ks[j] := List.pairwise_iff_getElem.1 HSG.out (j - 1) j (by omega) hjl (by omega)
                    have hq1 := (HR7.out.of_drew hdr).at_ (j - 1) (by omega)
                    have hj0d : decide (0 < (j : Int)) = true := by simpa using hj0
                    have hltd : decide (ks[j] ≤ ks[j - 1]) = false := by simpa using hlt
                    rw [hki] at hltd
                    have hw1 : wrap64 ((j : Int) - 1) = ((j - 1 : Nat) : Int) := by go_arith
                    generalize ks[j - 1] = u at *
                    generalize l[i] = v at *
                    clear hki hmx hlt hdr
                    go_wp2_with fail
                    go_big_region
                    go_wp2_with fail
                    all_goals exact ⟨⟨j + 1, by omega, by go_num, HDR.out.drew⟩, by simp [intOf]; omega⟩
                  · obtain rfl : j = 0 := by omega
                    replace hq : wr.cell? q = some (.int .i64 (i : Int)) := hq
                    generalize l[i] = v at *
                    clear hki hmx hdr hj0
                    go_wp2_with fail
                    go_big_region
                    go_wp2_with fail
                    all_goals exact ⟨⟨0 + 1, by omega, by go_num, HDR.out.drew⟩, by simp [intOf]; omega⟩
                · obtain rfl : j = ks.length := by omega
                  have hO8 := HO7.out.nn (hdr.upd Nope)
                  have HLN := Lib.hid hO8.at_.len_
                  rw [HRE.out] at HLN
                  have HO8 := Lib.hid hO8
                  have hw1 : wrap64 ((k : Int) - (ks.length : Int)) = ((k - ks.length : Nat) : Int) := by go_arith
                  clear hdr hO8
                  go_wp2_with fail
                  refine HLN.out.mono ?_
                  rintro e w9 ⟨rfl, rfl⟩
                  go_wp2_with fail
                  go_roundw
                  case rel => exact ⟨k - ks.length, F7, n, _, by go_num, HO8.out, HLF7.out, HRE.out, by omega⟩
                  case measure => simp [intOf]; omega
            · have d2 : decide (1099511627776 < n) = true := by simp; omega
              have HU := Lib.hid HO4.out.upd
              clear HO4 HLF HLK HGT HN0
              go_wp2_with fail
              go_returns
              exact ⟨rfl, HU.out⟩
  · have hbb : decide (60 < (l.length : Int)) = true ∨ (decide (60 < (l.length : Int)) = false ∧ decide (now < 0) = true) ∨ (decide (60 < (l.length : Int)) = false ∧ decide (now < 0) = false ∧ decide (549755813888 < now) = true) := by simp; omega
    clear hin
    rcases hbb with d1 | ⟨d1, d2⟩ | ⟨d1, d2, d3⟩
    all_goals
      go_wp2
      go_returns
      exact ⟨rfl, U1.out⟩
end Go.Proofs.Ytejelihioendnaa
