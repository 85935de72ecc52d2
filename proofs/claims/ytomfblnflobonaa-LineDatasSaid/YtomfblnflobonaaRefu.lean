/- The reference's Undata. -/
import Derived.Test.YtomfblnflobonaaRefd
set_option linter.unusedVariables false
set_option linter.unusedSimpArgs false
namespace Go.Proofs.Ytomfblnflobonaa
open Go.RowKit

theorem own_base2 {w : World} {B B' e n size : Nat} {v : Value} {xs : List Value} (h : w.ownsRow B e size v n xs) (hb : B' ≤ B) : w.ownsRow B' e size v n xs := by
  refine ⟨h.1, ?_⟩
  rcases h.2 with hn | ⟨q, cap, cur, rfl, hbq, rest⟩
  · exact .inl hn
  · exact .inr ⟨q, cap, cur, rfl, Nat.le_trans hb hbq, rest⟩
theorem ahead_none {ls : List (List UInt8)} (h : ∀ x ∈ ls, body x ≠ [46]) : ahead ls = none := by
  have := ahead_append h []
  rw [List.append_nil] at this
  rw [this]
  rfl
theorem ahead_at {ls : List (List UInt8)} {k : Nat} (hk : k < ls.length) (h : ∀ x ∈ ls.take k, body x ≠ [46]) (hx : body (ls[k]'hk) = [46]) : ahead ls = some (ls.take k) := by
  have e : ls = ls.take k ++ (ls[k]'hk) :: ls.drop (k + 1) := by
    rw [List.getElem_cons_drop, List.take_append_drop]
  conv => lhs; rw [e]
  rw [ahead_append h, ahead, if_pos hx]
  simp
theorem undata_none {s : List UInt8} (h : ahead (cuts [] s).1 = none) : undata s = ([], [], 12) := by unfold undata; rw [h]
theorem undata_some {s : List UInt8} {h : List (List UInt8)} (ha : ahead (cuts [] s).1 = some h) :
    undata s = if wrongs h then ([], [], 2) else if wides h then ([], [], 3) else (h.map fun x => undot (body x), s.drop (h.flatten.length + 3), 0) := by
  unfold undata
  rw [ha]
  simp only [all_wrongs]
  cases wrongs h
  · simp [wides]
  · simp
theorem undot_eq (t : List UInt8) : undot t = if (t.getD 0 0 == 46 && decide (0 < t.length)) then t.drop 1 else t := by
  cases t with
  | nil => rfl
  | cons a t =>
    simp only [undot, List.head?_cons, Option.some.injEq, List.getD_cons_zero, List.length_cons, List.tail_cons]
    by_cases h : a = 46
    · simp [h]
    · simp [h]
theorem used_le {s : List UInt8} {k : Nat} (hk : k < (cuts [] s).1.length) (hx : body ((cuts [] s).1[k]'hk) = [46]) : ((cuts [] s).1.take k).flatten.length + 3 ≤ s.length := by
  have h1 := cuts_flat s []
  have e := cuts_ends s _ (List.getElem_mem hk)
  rw [hx] at e
  have e2 : (cuts [] s).1 = (cuts [] s).1.take k ++ ((cuts [] s).1[k]'hk) :: (cuts [] s).1.drop (k + 1) := by rw [List.getElem_cons_drop, List.take_append_drop]
  have h2 := congrArg List.length h1
  rw [e2] at h2
  rw [e] at h2
  simp only [List.flatten_append, List.flatten_cons, List.length_append, List.length_cons, List.length_nil] at h2
  omega
theorem take_flat {ls : List (List UInt8)} {k : Nat} (hk : k < ls.length) : (ls.take (k + 1)).flatten.length = (ls.take k).flatten.length + (ls[k]'hk).length := by
  rw [List.take_succ_eq_append_getElem hk]
  simp only [List.flatten_append, List.flatten_cons, List.flatten_nil, List.length_append, List.append_nil]

set_option maxHeartbeats 4000000 in
theorem refundata_any (s : ByteArray) (w : World) (hs : s.size ≤ 100000) : Calls Try.prog 19 #[.string s] w (UndPost w s.data.toList) := by
  have hlen : s.data.toList.length = s.size := by simp
  go_enter Try.func19, Try.ntmps19
  go_wp2_with fail
  refine (refcut_any s w hs).mono ?_
  rintro e w1 ⟨vl, rfl, hl1, hu1⟩
  obtain ⟨A, cp, rfl, hle, hrd, -, -⟩ := rd1_of_owns hl1
  have hbe2 : (bodies s.data.toList).length = (cuts [] s.data.toList).1.length := by unfold bodies; rw [List.length_map]
  have hbz : (bodies s.data.toList).length ≤ 100000 := by
    rw [hbe2]
    have := cuts_count s.data.toList []
    omega
  have hget : ∀ k (h : k < (bodies s.data.toList).length), (bodies s.data.toList)[k]'h = ⟨(body ((cuts [] s.data.toList).1[k]'(by omega))).toArray⟩ := by
    intro k h
    simp only [bodies, List.getElem_map]
  clear hl1 hle
  generalize (⟨(cuts [] s.data.toList).2.toArray⟩ : ByteArray) = rb
  go_wp2_with fail
  go_loopg [7] ((bodies s.data.toList).length + 1) (fun gk i wx => ∃ (k : Nat), k ≤ (bodies s.data.toList).length ∧ (bodies s.data.toList).length < k + gk ∧ i = .int .i64 k ∧ (∀ x ∈ (cuts [] s.data.toList).1.take k, body x ≠ [46]) ∧ wx = w1)
  case atStart => exact ⟨0, by omega, by omega, rfl, by simp, rfl⟩
  case round =>
    obtain ⟨k, hk, hkg, rfl, hno, hwr⟩ := hrel
    obtain rfl : w1 = wr := hwr.symm
    by_cases hlt : k < (bodies s.data.toList).length
    · have hlt2 : k < (cuts [] s.data.toList).1.length := by omega
      obtain ⟨ad, rfl, hcell⟩ := hrd k hlt
      have hg := hget k hlt
      rw [hg] at hcell
      by_cases hx : body ((cuts [] s.data.toList).1[k]'hlt2) = [46]
      · have hah := ahead_at hlt2 hno hx
        have hres := Lib.hid (undata_some hah)
        have hul := used_le hlt2 hx
        rw [hlen] at hul
        have hdt : ((⟨(body ((cuts [] s.data.toList).1[k]'hlt2)).toArray⟩ : ByteArray).toList == [46]) = true := by rw [ByteArray.toList_eq]; simpa using hx
        generalize (⟨(body ((cuts [] s.data.toList).1[k]'hlt2)).toArray⟩ : ByteArray) = tb0 at hcell hdt
        clear hno hx hg hah
        have hget := Lib.hid hget
        have hkk : ((k : Int) == ((bodies s.data.toList).length : Int)) = false := by simp; omega
        go_wp2_with fail
        clear hdt hcell
        go_loopg [8, 9, 10, 11] (k + 1) (fun gk out us lg i wx => ∃ j : Nat, j ≤ k ∧ k < j + gk ∧ i = .int .i64 j ∧ us = .int .i64 ((((cuts [] s.data.toList).1.take j).flatten.length + 3 : Nat) : Int) ∧ lg = .bool (wides ((cuts [] s.data.toList).1.take j)) ∧ wrongs ((cuts [] s.data.toList).1.take j) = false ∧
          wx.ownsRow w1.heap.size 9 1 out (reads ((cuts [] s.data.toList).1.take j)).length ((reads ((cuts [] s.data.toList).1.take j)).map Value.string) ∧ Upd w1 wx Nope)
        case atStart => exact ⟨0, by omega, by omega, rfl, by simp, by simp [wides], by simp [wrongs], by simpa [reads] using World.ownsRow_nil _ _ _ _, Upd.refl _ _⟩
        case round =>
          clear hk hkg
          obtain ⟨j, hj, hjg, rfl, rfl, rfl, hwf, hown, hu⟩ := hrel
          have hrz : (reads ((cuts [] s.data.toList).1.take j)).length ≤ 100000 := by
            unfold reads
            rw [List.length_map, List.length_take]
            omega
          by_cases hjk : j < k
          · obtain ⟨gq, rfl⟩ : ∃ gq, gk = gq + 1 := ⟨gk - 1, by omega⟩
            have hj2 : j < (cuts [] s.data.toList).1.length := by omega
            have hjb : j < (bodies s.data.toList).length := by omega
            obtain ⟨ad2, had, hc2⟩ := (hrd.upd hu (fun _ h => h.elim)) j hjb
            cases had
            rw [hget.out j hjb] at hc2
            have htf := take_flat hj2
            have hxe := cuts_ends s.data.toList _ (List.getElem_mem hj2)
            have hts : (cuts [] s.data.toList).1.take (j + 1) = (cuts [] s.data.toList).1.take j ++ [(cuts [] s.data.toList).1[j]'hj2] := List.take_succ_eq_append_getElem hj2
            have hmono : ((cuts [] s.data.toList).1.take (j + 1)).flatten.length ≤ ((cuts [] s.data.toList).1.take k).flatten.length := by
              have e : (cuts [] s.data.toList).1.take k = (cuts [] s.data.toList).1.take (j + 1) ++ ((cuts [] s.data.toList).1.take k).drop (j + 1) := by
                conv => lhs; rw [← List.take_append_drop (j + 1) ((cuts [] s.data.toList).1.take k)]
                rw [List.take_take, Nat.min_eq_left (by omega)]
              rw [e]
              simp only [List.flatten_append, List.length_append]
              omega
            have hwk : plainL (body ((cuts [] s.data.toList).1[j]'hj2)) = false → wrongs ((cuts [] s.data.toList).1.take k) = true := by
              intro hp
              unfold wrongs
              rw [List.any_eq_true]
              exact ⟨_, List.mem_take_iff_getElem.2 ⟨j, by omega, rfl⟩, by rw [hp]; rfl⟩
            generalize (cuts [] s.data.toList).1[j]'hj2 = x at hc2 htf hxe hts hwk
            have hxl : x.length = (body x).length + 2 := by conv => lhs; rw [hxe]; simp
            obtain ⟨tb, htb⟩ : ∃ tb : ByteArray, tb = ⟨(body x).toArray⟩ := ⟨_, rfl⟩
            have htb1 : tb.data.toList = body x := by rw [htb]
            have htbs : tb.size = (body x).length := by rw [htb]; simp [ByteArray.size]
            rw [← htb] at hc2
            have hP := fun w => refplain_any tb w (by omega)
            rw [htb1] at hP
            cases hp : plainL (body x)
            · rw [hp] at hP
              have HP := Lib.hid hP
              have HW := Lib.hid (hwk hp)
              clear hP hp hwk hts htf hxe htb htb1 htbs hxl hmono
              go_wp2_with fail
              refine (HP.out _).mono ?_
              rintro e w2 ⟨rfl, hu2⟩
              go_wp2_with fail
              go_ret3
              have hr2 := hres.out
              rw [HW.out, if_pos rfl] at hr2
              exact ⟨.slice none 0 0, ret_eq (by rw [hr2]; rfl), by rw [hr2]; simpa [strs] using World.ownsRow_nil _ _ _ _, (hu1.nn hu).nn hu2⟩
            · rw [hp] at hP
              have HP := Lib.hid hP
              have hwd := wides_snoc ((cuts [] s.data.toList).1.take j) x
              have hwr := wrongs_snoc ((cuts [] s.data.toList).1.take j) x
              rw [hwf, hp] at hwr
              have hreads := reads_snoc ((cuts [] s.data.toList).1.take j) x
              rw [← hts] at hwd hwr hreads
              have hund := undot_eq (body x)
              obtain ⟨dl, hdl⟩ : ∃ dl, decide ((999 : Int) < (tb.size : Int)) = dl := ⟨_, rfl⟩
              have hdl2 : decide (999 < (body x).length) = dl := by
                rw [← hdl, decide_eq_decide, ← htbs]
                omega
              rw [hdl2] at hwd
              have hix := fun W (h : 0 < tb.size) => index0 tb W h
              rw [htb1] at hix
              rw [← htbs] at hund hxl
              generalize (body x).getD 0 0 = x0 at hix hund
              have e46 : (((x0.toNat : Int)) == 46) = (x0 == 46) := u8_eq' x0 46 (by decide) 46 rfl
              have hway : (tb.size = 0 ∧ (⟨(undot (body x)).toArray⟩ : ByteArray) = tb) ∨ (0 < tb.size ∧ (x0 == 46) = false ∧ (⟨(undot (body x)).toArray⟩ : ByteArray) = tb) ∨ (0 < tb.size ∧ (x0 == 46) = true ∧ (⟨(undot (body x)).toArray⟩ : ByteArray) = tb.extract 1 tb.size) := by
                by_cases h0 : tb.size = 0
                · exact .inl ⟨h0, by rw [hund, if_neg (by simp [h0]), ← htb]⟩
                · have h1 : 0 < tb.size := by omega
                  cases hq : x0 == 46
                  · exact .inr (.inl ⟨h1, rfl, by rw [hund, hq, if_neg (by simp), ← htb]⟩)
                  · refine .inr (.inr ⟨h1, rfl, ?_⟩)
                    rw [hund, hq, if_pos (by simp [h1])]
                    apply ByteArray.ext
                    apply Array.toList_inj.1
                    rw [ext_list, htb1, List.take_of_length_le (by rw [List.length_drop]; omega)]
              have HWD := Lib.hid hwd
              have HWR := Lib.hid (show wrongs ((cuts [] s.data.toList).1.take (j + 1)) = false by rw [hwr]; rfl)
              have HTF := Lib.hid (show ((cuts [] s.data.toList).1.take (j + 1)).flatten.length = ((cuts [] s.data.toList).1.take j).flatten.length + (tb.size + 2) by rw [htf, hxl])
              have hub : ((cuts [] s.data.toList).1.take j).flatten.length + (tb.size + 2) ≤ 100000 := by omega
              generalize wides ((cuts [] s.data.toList).1.take j) = lb at HWD ⊢
              clear hwd hwr hp hP hwk hts htf hxe htb hxl hmono hund hdl2 htb1 htbs hwf
              generalize hfl : ((cuts [] s.data.toList).1.take j).flatten.length = fl at HTF hub ⊢
              clear hfl
              rcases hway with ⟨h0, hdo⟩ | ⟨h0, hq, hdo⟩ | ⟨h0, hq, hdo⟩
              · rw [hdo] at hreads
                have HRD := Lib.hid hreads
                clear hreads hdo hix e46
                obtain rfl : dl = false := by rw [← hdl, h0]; rfl
                cases lb
                all_goals
                  go_wp2_with fail
                  refine (HP.out _).mono ?_
                  rintro e w2 ⟨rfl, hu2⟩
                  have hu2' := hu.nn hu2
                  have hown2 := own_upd hown hu2 (fun _ _ => id)
                  have hc22 := hu2.cell hc2 id
                  have zz := hu2'.size
                  clear hu hu2 hown hc2
                  obtain ⟨v', w3, hap, hown3, hu3, hl3⟩ := app1 hown2 tb (by omega) (by omega)
                  go_wp2_with (first | (at_builtin; refine wpList_append_eq _ _ rfl rfl hap rfl rfl rfl ?_) | fail)
                  go_roundg gq
                  case measure => omega
                  case rel => exact ⟨j + 1, by omega, by omega, by go_num, by rw [HTF.out]; congr 1; omega, by rw [HWD.out]; rfl, HWR.out, by rw [HRD.out, List.length_append]; exact hown3, hu2'.trans hu3 (fun _ _ h => h) (fun i hi h => by have := (hown2.lt i h).1; omega)⟩
              · rw [hq] at e46
                have hix0 := fun W => hix W h0
                clear hix hq
                rw [hdo] at hreads
                have HRD := Lib.hid hreads
                clear hreads hdo
                cases lb <;> cases dl
                all_goals
                  go_wp2_with fail
                  refine (HP.out _).mono ?_
                  rintro e w2 ⟨rfl, hu2⟩
                  have hu2' := hu.nn hu2
                  have hown2 := own_upd hown hu2 (fun _ _ => id)
                  have hc22 := hu2.cell hc2 id
                  have zz := hu2'.size
                  clear hu hu2 hown hc2
                  obtain ⟨v', w3, hap, hown3, hu3, hl3⟩ := app1 hown2 tb (by omega) (by omega)
                  go_wp2_with (first | (at_builtin; refine wpList_append_eq _ _ rfl rfl hap rfl rfl rfl ?_) | fail)
                  go_roundg gq
                  case measure => omega
                  case rel => exact ⟨j + 1, by omega, by omega, by go_num, by rw [HTF.out]; congr 1; omega, by rw [HWD.out]; rfl, HWR.out, by rw [HRD.out, List.length_append]; exact hown3, hu2'.trans hu3 (fun _ _ h => h) (fun i hi h => by have := (hown2.lt i h).1; omega)⟩
              · rw [hq] at e46
                have hix0 := fun W => hix W h0
                clear hix hq
                rw [hdo] at hreads
                have HRD := Lib.hid hreads
                clear hreads hdo
                cases lb <;> cases dl
                all_goals
                  go_wp2_with fail
                  refine (HP.out _).mono ?_
                  rintro e w2 ⟨rfl, hu2⟩
                  have hu2' := hu.nn hu2
                  have hown2 := own_upd hown hu2 (fun _ _ => id)
                  have hc22 := hu2.cell hc2 id
                  have zz := hu2'.size
                  clear hu hu2 hown hc2
                  obtain ⟨v', w3, hap, hown3, hu3, hl3⟩ := app1 hown2 (tb.extract 1 tb.size) (by omega) (by omega)
                  go_wp2_with (first | (at_builtin; refine wpList_append_eq _ _ rfl rfl hap rfl rfl rfl ?_) | fail)
                  go_roundg gq
                  case measure => omega
                  case rel => exact ⟨j + 1, by omega, by omega, by go_num, by rw [HTF.out]; congr 1; omega, by rw [HWD.out]; rfl, HWR.out, by rw [HRD.out, List.length_append]; exact hown3, hu2'.trans hu3 (fun _ _ h => h) (fun i hi h => by have := (hown2.lt i h).1; omega)⟩
          · obtain rfl : j = k := by omega
            have hr2 := hres.out
            rw [hwf] at hr2
            have hsl := from_str (P := Try.prog) Try.underlying9 s ((((cuts [] s.data.toList).1.take j).flatten.length + 3 : Nat) : Int) (((cuts [] s.data.toList).1.take j).flatten.length + 3) rfl hul
            have hex : s.extract (((cuts [] s.data.toList).1.take j).flatten.length + 3) s.size = ⟨(s.data.toList.drop (((cuts [] s.data.toList).1.take j).flatten.length + 3)).toArray⟩ := by
              apply ByteArray.ext
              apply Array.toList_inj.1
              rw [ext_list, List.take_of_length_le (by rw [List.length_drop]; omega)]
            generalize (((cuts [] s.data.toList).1.take j).flatten.length + 3) = us at hul hr2 hsl hex ⊢
            rw [if_neg (by decide)] at hr2
            have HEX := Lib.hid hex
            cases hlo : wides ((cuts [] s.data.toList).1.take j)
            · rw [hlo] at hr2
              have hr2 := Lib.hid hr2
              have HO := Lib.hid (own_base2 hown hu1.size)
              clear hlo hex hown
              go_wp2_with fail
              go_region
              go_wp2_with fail
              go_ret3
              refine ⟨u8, ret_eq (show Value.tuple #[u8, .string (s.extract us s.size), .int .i64 0] = _ by rw [hr2.out, HEX.out]; rfl), ?_, (hu1.nn hu).drew⟩
              rw [hr2.out]
              have hz := own_upd HO.out ((Upd.refl wr Nope).drew) (fun _ _ => id)
              have e1 : (reads ((cuts [] s.data.toList).1.take j)).length = (((cuts [] s.data.toList).1.take j).map fun x => undot (body x)).length := by unfold reads; rw [List.length_map, List.length_map]
              rw [e1, ← strs_reads] at hz
              exact hz
            · rw [hlo] at hr2
              have hr2 := Lib.hid hr2
              clear hlo hex hsl
              go_wp2_with fail
              go_ret3
              exact ⟨.slice none 0 0, ret_eq (by rw [hr2.out]; rfl), by rw [hr2.out]; simpa [strs] using World.ownsRow_nil _ _ _ _, hu1.nn hu⟩
      · obtain ⟨gq, rfl⟩ : ∃ gq, gk = gq + 1 := ⟨gk - 1, by omega⟩
        have hno2 : ∀ x ∈ (cuts [] s.data.toList).1.take (k + 1), body x ≠ [46] := by
          intro y hy
          rw [List.take_succ_eq_append_getElem hlt2] at hy
          rcases List.mem_append.1 hy with hy | hy
          · exact hno y hy
          · simp at hy
            subst hy
            exact hx
        have hdt : ((⟨(body ((cuts [] s.data.toList).1[k]'hlt2)).toArray⟩ : ByteArray).toList == [46]) = false := by rw [ByteArray.toList_eq]; simpa using hx
        generalize (⟨(body ((cuts [] s.data.toList).1[k]'hlt2)).toArray⟩ : ByteArray) = tb at hcell hdt
        have HN := Lib.hid hno2
        clear hno hno2 hx hg
        have hget := Lib.hid hget
        go_wp2_with fail
        go_roundg gq
        case measure => omega
        case rel => exact ⟨k + 1, by omega, by omega, by go_num, HN.out, rfl⟩
    · obtain rfl : k = (bodies s.data.toList).length := by omega
      have et : (cuts [] s.data.toList).1.take (bodies s.data.toList).length = (cuts [] s.data.toList).1 := List.take_of_length_le (by omega)
      rw [et] at hno
      have hres := Lib.hid (undata_none (ahead_none hno))
      clear hno et
      have hget := Lib.hid hget
      go_wp2_with fail
      go_ret3
      exact ⟨.slice none 0 0, ret_eq (by rw [hres.out]; rfl), by rw [hres.out]; simpa [strs] using World.ownsRow_nil _ _ _ _, hu1⟩
end Go.Proofs.Ytomfblnflobonaa
