/- The reference: Advance. -/
import Derived.Test.YtejelihioendnaaWrc
import Derived.Test.YtejelihioendnaaWrp2
set_option linter.unusedVariables false
set_option linter.unusedSimpArgs false
namespace Go.Proofs.Ytejelihioendnaa
open Go.RowKit
def AdvF (w : World) (now tt most : Int) (A : Option Addr) (L : List (Int × Int)) (e : Ending) (w' : World) : Prop :=
  ∃ A' cap' B capb, e = .returned (.tuple #[.agg #[.int .i64 (advR now L tt most).now, .slice A' (advR now L tt most).L.length cap'], .slice B (advR now L tt most).fired.length capb, .int .i64 (advR now L tt most).code]) ∧
    Rw w' A' cap' (advR now L tt most).L ∧ Rd1 (Value.int .i64) w' B (advR now L tt most).fired ∧ Upd w w' Nope ∧ (∀ ad, A' = some ad → ∃ ad0, A = some ad0 ∧ ad.block = ad0.block) ∧ ∀ ad, B = some ad → w.heap.size ≤ ad.block
set_option maxRecDepth 1000000 in
set_option maxHeartbeats 4000000 in
theorem advF_any (w : World) (now tt most : Int) (A : Option Addr) (cap : Nat) (L : List (Int × Int)) (hr : Rw w A cap L) (hL : L.length ≤ 1000) (hs : Srt L) :
    Calls Try.prog 16 #[.agg #[.int .i64 now, .slice A L.length cap], .int .i64 tt, .int .i64 most] w (AdvF w now tt most A L) := by
  have HR := Lib.hid hr
  have HS := Lib.hid hs
  clear hr hs
  cases hok : advOk now tt most with
  | false =>
    have hR : advR now L tt most = ⟨[], 0, 1, now, L⟩ := by unfold advR; rw [hok]; rfl
    have h1 : decide (tt < now) = true ∨ (decide (tt < now) = false ∧ decide (1099511627776 < tt) = true) ∨ (decide (tt < now) = false ∧ decide (1099511627776 < tt) = false ∧ decide (most < 1) = true) ∨ (decide (tt < now) = false ∧ decide (1099511627776 < tt) = false ∧ decide (most < 1) = false ∧ decide (1048576 < most) = true) := by
      simp only [advOk, Bool.and_eq_false_iff, decide_eq_false_iff_not, decide_eq_true_eq] at hok ⊢
      omega
    have HRR := Lib.hid hR
    clear hok hR
    rcases h1 with h1 | ⟨h1, h2⟩ | ⟨h1, h2, h3⟩ | ⟨h1, h2, h3, h4⟩
    all_goals
      go_enter Try.func16, Try.ntmps16
      go_wp2
      refine bodyPost_ret (v := .tuple #[.agg #[.int .i64 now, .slice A L.length cap], .slice none 0 0, .int .i64 1]) (by simp [results, Try.results16, go_sem]) rfl ?_
      unfold AdvF
      rw [HRR.out]
      have hU := ((Upd.refl w Nope).alloc (.cells #[.int .i64 now, .slice A L.length cap] 30)).alloc (.cells #[.int .i64 now, .slice A L.length cap] 30)
      exact ⟨A, cap, none, 0, rfl, HR.out.nn hU, fun i hi => absurd hi (by simp), hU, fun ad e => ⟨ad, e, rfl⟩, fun ad e => by cases e⟩
  | true =>
    have hb : now ≤ tt ∧ tt ≤ 1099511627776 ∧ 1 ≤ most ∧ most ≤ 1048576 := by
      simp only [advOk, Bool.and_eq_true, decide_eq_true_eq] at hok
      omega
    have hR : advR now L tt most = ⟨(refA tt most.toNat L []).2.2, (refA tt most.toNat L []).1, 0, (refA tt most.toNat L []).1, (refA tt most.toNat L []).2.1⟩ := by
      unfold advR
      rw [hok, refA_adv now L [] HS.out (by simp; omega)]
      rfl
    have h1 : decide (tt < now) = false := by simp; omega
    have h2 : decide (1099511627776 < tt) = false := by simp; omega
    have h3 : decide (most < 1) = false := by simp; omega
    have h4 : decide (1048576 < most) = false := by simp; omega
    have HRR := Lib.hid hR
    have HB := Lib.hid hb
    clear hok hR hb
    go_enter Try.func16, Try.ntmps16
    go_wp2
    clear h1 h2 h3 h4
    have hB := (Blk.new w #[.int .i64 now, .slice A L.length cap] 30).alloc (.cells #[.int .i64 0, .slice none 0 0] 30)
    have hC := Blk.new (w.alloc (.cells #[.int .i64 now, .slice A L.length cap] 30)) #[.int .i64 0, .slice none 0 0] 30
    have hU : Upd w ((w.alloc (.cells #[.int .i64 now, .slice A L.length cap] 30)).alloc (.cells #[.int .i64 0, .slice none 0 0] 30)) Nope := ((Upd.refl w _).alloc _).alloc _
    have hz : (w.alloc (.cells #[.int .i64 now, .slice A L.length cap] 30)).heap.size = w.heap.size + 1 := by simp
    rw [hz] at hC
    clear hz
    generalize (w.alloc (.cells #[.int .i64 now, .slice A L.length cap] 30)).alloc (.cells #[.int .i64 0, .slice none 0 0] 30) = w2 at *
    have HBk := Lib.hid hB
    have HCk := Lib.hid hC
    have HU := Lib.hid hU
    clear hB hC hU

    have hm9 : 1 ≤ most ∧ most ≤ 1048576 := ⟨HB.out.2.2.1, HB.out.2.2.2⟩
    have H0 := Lib.hid (show w2.ownsRow w2.heap.size 3 1 (.slice none 0 0) (L.take 0).length ((idsOf (L.take 0)).map (Value.int .i64)) from ⟨by simp [idsOf], .inl ⟨rfl, rfl⟩⟩)
    have HM9 := Lib.hid hm9
    clear hm9
    go_loopw [9, 10] (fun v i wr => ∃ (k : Nat) (B : Option Addr) (capb : Nat), k ≤ L.length ∧ i = .int .i64 k ∧ v = .slice B (L.take k).length capb ∧ wr.ownsRow w2.heap.size 3 1 (.slice B (L.take k).length capb) (L.take k).length ((idsOf (L.take k)).map (Value.int .i64)) ∧ Upd w2 wr Nope ∧
      refA tt most.toNat (L.drop k) (idsOf (L.take k)) = refA tt most.toNat L []) (fun _ i _ => L.length - (intOf i).toNat)
    case atStart => exact ⟨0, none, 0, by omega, rfl, rfl, H0.out, Upd.refl _ _, rfl⟩
    case round =>
      obtain ⟨k, B, capb, hk, rfl, rfl, hown, hu, hre⟩ := hrel
      have hBr := HBk.out.upd hu (fun h => h)
      have b0 : wr.cell? ⟨w.heap.size, 0, none⟩ = some (.int .i64 now) := (hBr.cell 0).trans rfl
      have b1 : wr.cell? ⟨w.heap.size, 1, none⟩ = some (.slice A L.length cap) := (hBr.cell 1).trans rfl
      have hlk : (L.take k).length = k := by rw [List.length_take]; omega
      rw [hlk] at hown ⊢
      have HOW := Lib.hid hown
      have HUR := Lib.hid hu
      have HRE := Lib.hid hre
      have HBR := Lib.hid hBr
      clear hown hu hre hBr
      clear hlk
      by_cases hlt : ∃ h : k < L.length, L[k].1 ≤ tt
      · obtain ⟨hlt, hle⟩ := hlt
        obtain ⟨ad, rfl, hcell⟩ := ((HR.out.rd.nn HU.out).nn HUR.out) k hlt
        have hrd := (HR.out.rd.nn HU.out).nn HUR.out
        have g0 := hcell 0 (.int .i64 L[k].2) rfl
        have g1 := hrd.fs hlt 0 (v := .int .i64 L[k].1) rfl
        simp only [Nat.add_zero, Nat.zero_add] at g0 g1
        have t1 : decide (L[k].1 ≤ tt) = true := by simpa using hle
        clear hcell hrd hle
        go_upto_region 6 with (fail)
        have HTL := Lib.hid (of_decide_eq_true t1)
        clear t1 b0
        have hL1 : k ≤ 1000000 := by omega
        obtain ⟨v8, w8, hap, hown8, hu8, hl8⟩ := app1 (W := wr) HOW.out L[k].2 HUR.out.size hL1
        have htk : idsOf (L.take k) ++ [L[k].2] = idsOf (L.take (k + 1)) := by
          unfold idsOf
          rw [List.take_succ_eq_append_getElem hlt, List.map_append]
          rfl
        rw [htk] at hown8
        obtain ⟨B8, capb8, rfl, hlen8, hrd8, hnil8, hle8⟩ := rd1_of_owns hown8
        clear hlen8
        have hu28 : Upd w2 w8 Nope := HUR.out.trans hu8 (fun _ _ h => h) (fun i hi hf => absurd (own_blk HOW.out hf).1 (by omega))
        have hB8 := HBk.out.upd hu28 (fun h => h)
        have e0 : w8.cell? ⟨w.heap.size, 0, none⟩ = some (.int .i64 now) := (hB8.cell 0).trans rfl
        have e1 : w8.cell? ⟨w.heap.size, 1, none⟩ = some (.slice (some ad) L.length cap) := (hB8.cell 1).trans rfl
        have HOW8 := Lib.hid hown8
        have HRD8 := Lib.hid hrd8
        have HU28 := Lib.hid hu28
        have HB8 := Lib.hid hB8
        have HRW8 := Lib.hid ((HR.out.nn HU.out).nn hu28)
        clear hown8 hrd8 hnil8 hle8 hu28 hB8 hu8 hl8 htk hL1 g1
        go_upto_region 8 with (first | (at_builtin; refine wpList_append_eq _ _ rfl rfl hap rfl rfl rfl ?_; clear hap; go_frame) | fail)
        clear b1 g0
        have k0 := HRW8.out.rd.fs hlt 0 (v := .int .i64 L[k].1) rfl
        simp only [Nat.zero_add] at k0
        have hws : IntKind.i64.wrap ((k : Int) + 1 - 1) = k := by rw [show (k : Int) + 1 - 1 = k by omega]; exact IntWalk.i64_in _ (by omega)
        have HT1 := Lib.hid (show (L.take (k + 1)).length = k + 1 by rw [List.length_take]; omega)
        have hcase : decide (most ≤ (k : Int) + 1) = false ∨ (decide (most ≤ (k : Int) + 1) = true ∧ ((k : Int) + 1 == (L.length : Int)) = true ∧ k + 1 = L.length) ∨ (decide (most ≤ (k : Int) + 1) = true ∧ ((k : Int) + 1 == (L.length : Int)) = false ∧ ∃ h : k + 1 < L.length, decide (L[k].1 < L[k + 1].1) = true ∨ decide (L[k].1 < L[k + 1].1) = false) := by
          by_cases hf : most ≤ (k : Int) + 1
          · by_cases he : k + 1 = L.length
            · exact .inr (.inl ⟨by simpa using hf, by simp; omega, he⟩)
            · refine .inr (.inr ⟨by simpa using hf, by simp; omega, by omega, ?_⟩)
              cases decide (L[k].1 < L[k + 1].1) <;> simp
          · exact .inl (by simpa using hf)
        have hre1 : L.drop k = (L[k].1, L[k].2) :: L.drop (k + 1) := List.drop_eq_getElem_cons hlt
        have hcur := HRE.out
        rw [hre1, refA_cons, if_neg (by have := HTL.out; omega)] at hcur
        have HCUR := Lib.hid hcur
        have HKL := Lib.hid (show (idsOf (L.take k)).length = k by unfold idsOf; rw [List.length_map, List.length_take]; omega)
        have HTK := Lib.hid (show idsOf (L.take k) ++ [L[k].2] = idsOf (L.take (k + 1)) by
          unfold idsOf
          rw [List.take_succ_eq_append_getElem hlt, List.map_append]
          rfl)
        clear hre1 hcur
        rcases hcase with f1 | ⟨f1, f2, f3⟩ | ⟨f1, f2, f3, f4 | f4⟩
        · have HREX := Lib.hid (show refA tt most.toNat (L.drop (k + 1)) (idsOf (L.take (k + 1))) = refA tt most.toNat L [] by
            have h := HCUR.out
            rw [if_neg (by have := of_decide_eq_false f1; have := HKL.out; omega), HTK.out] at h
            exact h)
          clear hws
          go_quiet (fail)
          go_wp2
          go_roundw
          case rel => exact ⟨k + 1, B8, capb8, by omega, by go_num, by rw [HT1.out], by rw [HT1.out]; exact HOW8.out, HU28.out.drewN _, HREX.out⟩
          case measure => simp [intOf]; omega
        · have HF3 := Lib.hid f3
          clear f3
          go_quiet (fail)
          have HRES := Lib.hid (show refA tt most.toNat L [] = (L[k].1, L.drop (k + 1), idsOf (L.take (k + 1))) by
            have h := HCUR.out
            rw [if_pos ⟨by have := of_decide_eq_true f1; have := HKL.out; omega, by rw [List.drop_eq_nil_of_le (by have := HF3.out; omega)]; simp⟩, HTK.out] at h
            exact h.symm)
          generalize hwd : w8.drewN nq = w9 at *
          have hB9 : Blk w9 w.heap.size #[.int .i64 now, .slice (some ad) L.length cap] 30 := by rw [← hwd]; exact HB8.out.drewN nq
          have hu29 : Upd w2 w9 Nope := by rw [← hwd]; exact HU28.out.drewN nq
          have hr9 : Rw w9 (some ad) cap L := (HR.out.nn HU.out).nn hu29
          have hrd9 : Rd1 (Value.int .i64) w9 B8 (idsOf (L.take (k + 1))) := by rw [← hwd]; exact HRD8.out
          have hC9 := HCk.out.upd hu29 (fun h => h)
          have HOB := Lib.hid (show ∀ a, B8 = some a → w2.heap.size ≤ a.block from fun a e => by subst e; exact (own_blk HOW8.out rfl).1)
          clear hwd
          have HB9 := Lib.hid hB9
          have HC9 := Lib.hid hC9
          have HU29 := Lib.hid hu29
          have HR9 := Lib.hid hr9
          have HRD9 := Lib.hid hrd9
          clear hu29 hrd9 e0 e1 k0
          have b0 : w9.cell? ⟨w.heap.size, 0, none⟩ = some (.int .i64 now) := (hB9.cell 0).trans rfl
          have b1 : w9.cell? ⟨w.heap.size, 1, none⟩ = some (.slice (some ad) L.length cap) := (hB9.cell 1).trans rfl
          have bf0 := hB9.frozen 0
          have bf1 := hB9.frozen 1
          have d0 : w9.cell? ⟨w.heap.size + 1, 0, none⟩ = some (.int .i64 0) := (hC9.cell 0).trans rfl
          have d1 : w9.cell? ⟨w.heap.size + 1, 1, none⟩ = some (.slice none 0 0) := (hC9.cell 1).trans rfl
          have df0 := hC9.frozen 0
          have df1 := hC9.frozen 1
          have k0 := hr9.rd.fs hlt 0 (v := .int .i64 L[k].1) rfl
          simp only [Nat.zero_add] at k0
          clear hr9 hB9 hC9
          obtain ⟨i0, hi, hz0, hz1, hz2⟩ := info_parts infoT
          have hs2 := cut_lo Try.underlying28 hi hz1 (some ad) L.length cap (k + 1) ((k : Int) + 1) (by omega) (by omega)
          clear hi hz0 hz1 hz2
          go_wp2
          have hUU := ((((Upd.refl w9 (fun i => i = w.heap.size ∨ i = w.heap.size + 1)).set ⟨w.heap.size, 0, none⟩ (.int .i64 L[k].1) (.inl (.inl rfl))).set ⟨w.heap.size, 1, none⟩ (.slice (dropA (some ad) cap (k + 1) 2) (L.length - (k + 1)) (cap - (k + 1))) (.inl (.inl rfl))).set ⟨w.heap.size + 1, 0, none⟩ (.int .i64 L[k].1) (.inl (.inr rfl))).set ⟨w.heap.size + 1, 1, none⟩ (.slice (dropA (some ad) cap (k + 1) 2) (L.length - (k + 1)) (cap - (k + 1))) (.inl (.inr rfl))
          have hC7 := (((HC9.out.far (p := ⟨w.heap.size, 0, none⟩) (by simp) (.int .i64 L[k].1)).far (p := ⟨w.heap.size, 1, none⟩) (by simp) (.slice (dropA (some ad) cap (k + 1) 2) (L.length - (k + 1)) (cap - (k + 1)))).set 0 (.int .i64 L[k].1)).set 1 (.slice (dropA (some ad) cap (k + 1) 2) (L.length - (k + 1)) (cap - (k + 1)))
          have hR7 := HR9.out.away hUU (fun a e h => by have := HR.out.lt a e; omega)
          have hD7 : Rd1 (Value.int .i64) _ B8 (idsOf (L.take (k + 1))) := rd1_away HRD9.out hUU (fun a e h => by have := HOB.out a e; have := HCk.out.lt; omega)
          generalize (((w9.setCell ⟨w.heap.size, 0, none⟩ (.int .i64 L[k].1)).setCell ⟨w.heap.size, 1, none⟩ (.slice (dropA (some ad) cap (k + 1) 2) (L.length - (k + 1)) (cap - (k + 1)))).setCell ⟨w.heap.size + 1, 0, none⟩ (.int .i64 L[k].1)).setCell ⟨w.heap.size + 1, 1, none⟩ (.slice (dropA (some ad) cap (k + 1) 2) (L.length - (k + 1)) (cap - (k + 1))) = w7 at *
          have r0 : w7.cell? ⟨w.heap.size + 1, 0, none⟩ = some (.int .i64 L[k].1) := (hC7.cell 0).trans rfl
          have r1 : w7.cell? ⟨w.heap.size + 1, 1, none⟩ = some (.slice (dropA (some ad) cap (k + 1) 2) (L.length - (k + 1)) (cap - (k + 1))) := (hC7.cell 1).trans rfl
          refine bodyPost_ret (v := .tuple #[.agg #[.int .i64 L[k].1, .slice (dropA (some ad) cap (k + 1) 2) (L.length - (k + 1)) (cap - (k + 1))], .slice B8 (k + 1) capb8, .int .i64 0]) (by simp [results, Try.results16, go_sem, r0, r1]) rfl ?_
          unfold AdvF
          rw [HRR.out, HRES.out]
          have hl1 : (L.drop (k + 1)).length = L.length - (k + 1) := List.length_drop
          have hl2 : (idsOf (L.take (k + 1))).length = k + 1 := by unfold idsOf; rw [List.length_map, List.length_take]; omega
          refine ⟨dropA (some ad) cap (k + 1) 2, cap - (k + 1), B8, capb8, ?_, ⟨hR7.rd.dropA _ _ hR7.le, dropA_nil hR7.nil, ?_, ?_, dropA_blk (Q := fun i => i < w7.heap.size) hR7.lt⟩, hD7, ?_, ?_, fun a e => ?_⟩
          · simp only [hl1, hl2]
          · simp only [hl1]; have := hR7.le; omega
          · have := hR7.max; omega
          · exact (HU.out.nn HU29.out).trans hUU (fun _ _ h => h) (fun i h h2 => by omega)
          · exact dropA_blk (A := (some ad)) (Q := fun i => ∃ ad0, (some ad) = some ad0 ∧ i = ad0.block) (fun a e => ⟨a, e, rfl⟩)
          · have := HOB.out a e; have := HU.out.size; omega
        · have HF3 := Lib.hid f3
          have k1 := HRW8.out.rd.fs f3 0 (v := .int .i64 L[k + 1].1) rfl
          simp only [Nat.zero_add] at k1
          have kn : ((k : Int) + 1).toNat = k + 1 := by omega
          go_quiet (fail)
          clear kn k1
          have f5 : L[k].1 < L[k + 1].1 := of_decide_eq_true f4
          have HRES := Lib.hid (show refA tt most.toNat L [] = (L[k].1, L.drop (k + 1), idsOf (L.take (k + 1))) by
            have h := HCUR.out
            rw [if_pos ⟨by have := of_decide_eq_true f1; have := HKL.out; omega, by rw [List.drop_eq_getElem_cons HF3.out]; intro q hq; cases hq; exact of_decide_eq_true f4⟩, HTK.out] at h
            exact h.symm)
          generalize hwd : w8.drewN nq = w9 at *
          have hB9 : Blk w9 w.heap.size #[.int .i64 now, .slice (some ad) L.length cap] 30 := by rw [← hwd]; exact HB8.out.drewN nq
          have hu29 : Upd w2 w9 Nope := by rw [← hwd]; exact HU28.out.drewN nq
          have hr9 : Rw w9 (some ad) cap L := (HR.out.nn HU.out).nn hu29
          have hrd9 : Rd1 (Value.int .i64) w9 B8 (idsOf (L.take (k + 1))) := by rw [← hwd]; exact HRD8.out
          have hC9 := HCk.out.upd hu29 (fun h => h)
          have HOB := Lib.hid (show ∀ a, B8 = some a → w2.heap.size ≤ a.block from fun a e => by subst e; exact (own_blk HOW8.out rfl).1)
          clear hwd
          have HB9 := Lib.hid hB9
          have HC9 := Lib.hid hC9
          have HU29 := Lib.hid hu29
          have HR9 := Lib.hid hr9
          have HRD9 := Lib.hid hrd9
          clear hu29 hrd9 e0 e1 k0
          have b0 : w9.cell? ⟨w.heap.size, 0, none⟩ = some (.int .i64 now) := (hB9.cell 0).trans rfl
          have b1 : w9.cell? ⟨w.heap.size, 1, none⟩ = some (.slice (some ad) L.length cap) := (hB9.cell 1).trans rfl
          have bf0 := hB9.frozen 0
          have bf1 := hB9.frozen 1
          have d0 : w9.cell? ⟨w.heap.size + 1, 0, none⟩ = some (.int .i64 0) := (hC9.cell 0).trans rfl
          have d1 : w9.cell? ⟨w.heap.size + 1, 1, none⟩ = some (.slice none 0 0) := (hC9.cell 1).trans rfl
          have df0 := hC9.frozen 0
          have df1 := hC9.frozen 1
          have k0 := hr9.rd.fs hlt 0 (v := .int .i64 L[k].1) rfl
          simp only [Nat.zero_add] at k0
          clear hr9 hB9 hC9
          obtain ⟨i0, hi, hz0, hz1, hz2⟩ := info_parts infoT
          have hs2 := cut_lo Try.underlying28 hi hz1 (some ad) L.length cap (k + 1) ((k : Int) + 1) (by omega) (by omega)
          clear hi hz0 hz1 hz2
          go_wp2
          have hUU := ((((Upd.refl w9 (fun i => i = w.heap.size ∨ i = w.heap.size + 1)).set ⟨w.heap.size, 0, none⟩ (.int .i64 L[k].1) (.inl (.inl rfl))).set ⟨w.heap.size, 1, none⟩ (.slice (dropA (some ad) cap (k + 1) 2) (L.length - (k + 1)) (cap - (k + 1))) (.inl (.inl rfl))).set ⟨w.heap.size + 1, 0, none⟩ (.int .i64 L[k].1) (.inl (.inr rfl))).set ⟨w.heap.size + 1, 1, none⟩ (.slice (dropA (some ad) cap (k + 1) 2) (L.length - (k + 1)) (cap - (k + 1))) (.inl (.inr rfl))
          have hC7 := (((HC9.out.far (p := ⟨w.heap.size, 0, none⟩) (by simp) (.int .i64 L[k].1)).far (p := ⟨w.heap.size, 1, none⟩) (by simp) (.slice (dropA (some ad) cap (k + 1) 2) (L.length - (k + 1)) (cap - (k + 1)))).set 0 (.int .i64 L[k].1)).set 1 (.slice (dropA (some ad) cap (k + 1) 2) (L.length - (k + 1)) (cap - (k + 1)))
          have hR7 := HR9.out.away hUU (fun a e h => by have := HR.out.lt a e; omega)
          have hD7 : Rd1 (Value.int .i64) _ B8 (idsOf (L.take (k + 1))) := rd1_away HRD9.out hUU (fun a e h => by have := HOB.out a e; have := HCk.out.lt; omega)
          generalize (((w9.setCell ⟨w.heap.size, 0, none⟩ (.int .i64 L[k].1)).setCell ⟨w.heap.size, 1, none⟩ (.slice (dropA (some ad) cap (k + 1) 2) (L.length - (k + 1)) (cap - (k + 1)))).setCell ⟨w.heap.size + 1, 0, none⟩ (.int .i64 L[k].1)).setCell ⟨w.heap.size + 1, 1, none⟩ (.slice (dropA (some ad) cap (k + 1) 2) (L.length - (k + 1)) (cap - (k + 1))) = w7 at *
          have r0 : w7.cell? ⟨w.heap.size + 1, 0, none⟩ = some (.int .i64 L[k].1) := (hC7.cell 0).trans rfl
          have r1 : w7.cell? ⟨w.heap.size + 1, 1, none⟩ = some (.slice (dropA (some ad) cap (k + 1) 2) (L.length - (k + 1)) (cap - (k + 1))) := (hC7.cell 1).trans rfl
          refine bodyPost_ret (v := .tuple #[.agg #[.int .i64 L[k].1, .slice (dropA (some ad) cap (k + 1) 2) (L.length - (k + 1)) (cap - (k + 1))], .slice B8 (k + 1) capb8, .int .i64 0]) (by simp [results, Try.results16, go_sem, r0, r1]) rfl ?_
          unfold AdvF
          rw [HRR.out, HRES.out]
          have hl1 : (L.drop (k + 1)).length = L.length - (k + 1) := List.length_drop
          have hl2 : (idsOf (L.take (k + 1))).length = k + 1 := by unfold idsOf; rw [List.length_map, List.length_take]; omega
          refine ⟨dropA (some ad) cap (k + 1) 2, cap - (k + 1), B8, capb8, ?_, ⟨hR7.rd.dropA _ _ hR7.le, dropA_nil hR7.nil, ?_, ?_, dropA_blk (Q := fun i => i < w7.heap.size) hR7.lt⟩, hD7, ?_, ?_, fun a e => ?_⟩
          · simp only [hl1, hl2]
          · simp only [hl1]; have := hR7.le; omega
          · have := hR7.max; omega
          · exact (HU.out.nn HU29.out).trans hUU (fun _ _ h => h) (fun i h h2 => by omega)
          · exact dropA_blk (A := (some ad)) (Q := fun i => ∃ ad0, (some ad) = some ad0 ∧ i = ad0.block) (fun a e => ⟨a, e, rfl⟩)
          · have := HOB.out a e; have := HU.out.size; omega
        · have HF3 := Lib.hid f3
          have k1 := HRW8.out.rd.fs f3 0 (v := .int .i64 L[k + 1].1) rfl
          simp only [Nat.zero_add] at k1
          have kn : ((k : Int) + 1).toNat = k + 1 := by omega
          go_quiet (fail)
          clear kn k1
          have f5 : ¬ L[k].1 < L[k + 1].1 := of_decide_eq_false f4
          have f6 : L[k + 1].1 ≤ L[k].1 := Int.not_lt.1 f5
          have HREX := Lib.hid (show refA tt most.toNat (L.drop (k + 1)) (idsOf (L.take (k + 1))) = refA tt most.toNat L [] by
            have h := HCUR.out
            rw [if_neg (fun h2 => by
              have h3 := h2.2 L[k + 1] (by rw [List.drop_eq_getElem_cons HF3.out]; rfl)
              exact absurd h3 (of_decide_eq_false f4)), HTK.out] at h
            exact h)
          go_wp2
          go_roundw
          case rel => exact ⟨k + 1, B8, capb8, by omega, by go_num, by rw [HT1.out], by rw [HT1.out]; exact HOW8.out, HU28.out.drewN _, HREX.out⟩
          case measure => simp [intOf]; omega
      · have hcase : decide (k < L.length) = false ∨ ∃ h : k < L.length, decide (L[k].1 ≤ tt) = false := by
          by_cases h : k < L.length
          · exact .inr ⟨h, by simp; exact Int.not_le.1 (fun h2 => hlt ⟨h, h2⟩)⟩
          · exact .inl (by simpa using h)
        have HRES := Lib.hid (show refA tt most.toNat L [] = (tt, L.drop k, idsOf (L.take k)) by
          rw [← HRE.out]
          by_cases h : k < L.length
          · rw [List.drop_eq_getElem_cons h]
            show refA tt most.toNat ((L[k].1, L[k].2) :: L.drop (k + 1)) _ = _
            rw [refA_cons, if_pos (Int.not_le.1 (fun h2 => hlt ⟨h, h2⟩))]
          · rw [List.drop_eq_nil_of_le (by omega)]; rfl)
        have hrdB : Rd1 (Value.int .i64) wr B (idsOf (L.take k)) := by
          obtain ⟨B', c', e, _, hrd, _⟩ := rd1_of_owns HOW.out
          injection e with e1 e2 e3
          subst e1
          exact hrd
        have HRDB := Lib.hid hrdB
        clear hrdB hlt
        rcases hcase with t1 | ⟨hlt, t1⟩
        · clear b0 b1
          have hB9 : Blk wr w.heap.size #[.int .i64 now, .slice A L.length cap] 30 := HBR.out
          have hu29 : Upd w2 wr Nope := HUR.out
          have hr9 : Rw wr A cap L := (HR.out.nn HU.out).nn hu29
          have hrd9 : Rd1 (Value.int .i64) wr B (idsOf (L.take (k))) := HRDB.out
          have hC9 := HCk.out.upd hu29 (fun h => h)
          have HOB := Lib.hid (show ∀ a, B = some a → w2.heap.size ≤ a.block from fun a e => by subst e; exact (own_blk HOW.out rfl).1)
          have HB9 := Lib.hid hB9
          have HC9 := Lib.hid hC9
          have HU29 := Lib.hid hu29
          have HR9 := Lib.hid hr9
          have HRD9 := Lib.hid hrd9
          clear hu29 hrd9
          have b0 : wr.cell? ⟨w.heap.size, 0, none⟩ = some (.int .i64 now) := (hB9.cell 0).trans rfl
          have b1 : wr.cell? ⟨w.heap.size, 1, none⟩ = some (.slice A L.length cap) := (hB9.cell 1).trans rfl
          have bf0 := hB9.frozen 0
          have bf1 := hB9.frozen 1
          have d0 : wr.cell? ⟨w.heap.size + 1, 0, none⟩ = some (.int .i64 0) := (hC9.cell 0).trans rfl
          have d1 : wr.cell? ⟨w.heap.size + 1, 1, none⟩ = some (.slice none 0 0) := (hC9.cell 1).trans rfl
          have df0 := hC9.frozen 0
          have df1 := hC9.frozen 1
          clear hr9 hB9 hC9
          obtain ⟨i0, hi, hz0, hz1, hz2⟩ := info_parts infoT
          have hs2 := cut_lo Try.underlying28 hi hz1 A L.length cap (k) ((k : Int)) (by omega) (by omega)
          clear hi hz0 hz1 hz2
          go_wp2
          have hUU := ((((Upd.refl wr (fun i => i = w.heap.size ∨ i = w.heap.size + 1)).set ⟨w.heap.size, 0, none⟩ (.int .i64 tt) (.inl (.inl rfl))).set ⟨w.heap.size, 1, none⟩ (.slice (dropA A cap (k) 2) (L.length - (k)) (cap - (k))) (.inl (.inl rfl))).set ⟨w.heap.size + 1, 0, none⟩ (.int .i64 tt) (.inl (.inr rfl))).set ⟨w.heap.size + 1, 1, none⟩ (.slice (dropA A cap (k) 2) (L.length - (k)) (cap - (k))) (.inl (.inr rfl))
          have hC7 := (((HC9.out.far (p := ⟨w.heap.size, 0, none⟩) (by simp) (.int .i64 tt)).far (p := ⟨w.heap.size, 1, none⟩) (by simp) (.slice (dropA A cap (k) 2) (L.length - (k)) (cap - (k)))).set 0 (.int .i64 tt)).set 1 (.slice (dropA A cap (k) 2) (L.length - (k)) (cap - (k)))
          have hR7 := HR9.out.away hUU (fun a e h => by have := HR.out.lt a e; omega)
          have hD7 : Rd1 (Value.int .i64) _ B (idsOf (L.take (k))) := rd1_away HRD9.out hUU (fun a e h => by have := HOB.out a e; have := HCk.out.lt; omega)
          generalize (((wr.setCell ⟨w.heap.size, 0, none⟩ (.int .i64 tt)).setCell ⟨w.heap.size, 1, none⟩ (.slice (dropA A cap (k) 2) (L.length - (k)) (cap - (k)))).setCell ⟨w.heap.size + 1, 0, none⟩ (.int .i64 tt)).setCell ⟨w.heap.size + 1, 1, none⟩ (.slice (dropA A cap (k) 2) (L.length - (k)) (cap - (k))) = w7 at *
          have r0 : w7.cell? ⟨w.heap.size + 1, 0, none⟩ = some (.int .i64 tt) := (hC7.cell 0).trans rfl
          have r1 : w7.cell? ⟨w.heap.size + 1, 1, none⟩ = some (.slice (dropA A cap (k) 2) (L.length - (k)) (cap - (k))) := (hC7.cell 1).trans rfl
          refine bodyPost_ret (v := .tuple #[.agg #[.int .i64 tt, .slice (dropA A cap (k) 2) (L.length - (k)) (cap - (k))], .slice B (k) capb, .int .i64 0]) (by simp [results, Try.results16, go_sem, r0, r1]) rfl ?_
          unfold AdvF
          rw [HRR.out, HRES.out]
          have hl1 : (L.drop (k)).length = L.length - (k) := List.length_drop
          have hl2 : (idsOf (L.take (k))).length = k := by unfold idsOf; rw [List.length_map, List.length_take]; omega
          refine ⟨dropA A cap (k) 2, cap - (k), B, capb, ?_, ⟨hR7.rd.dropA _ _ hR7.le, dropA_nil hR7.nil, ?_, ?_, dropA_blk (Q := fun i => i < w7.heap.size) hR7.lt⟩, hD7, ?_, ?_, fun a e => ?_⟩
          · simp only [hl1, hl2]
          · simp only [hl1]; have := hR7.le; omega
          · have := hR7.max; omega
          · exact (HU.out.nn HU29.out).trans hUU (fun _ _ h => h) (fun i h h2 => by omega)
          · exact dropA_blk (A := A) (Q := fun i => ∃ ad0, A = some ad0 ∧ i = ad0.block) (fun a e => ⟨a, e, rfl⟩)
          · have := HOB.out a e; have := HU.out.size; omega
        · obtain ⟨ad, rfl, _⟩ := ((HR.out.rd.nn HU.out).nn HUR.out) k hlt
          have hrd := (HR.out.rd.nn HU.out).nn HUR.out
          have g1 := hrd.fs hlt 0 (v := .int .i64 L[k].1) rfl
          simp only [Nat.zero_add] at g1
          clear hrd b0 b1
          have hB9 : Blk wr w.heap.size #[.int .i64 now, .slice (some ad) L.length cap] 30 := HBR.out
          have hu29 : Upd w2 wr Nope := HUR.out
          have hr9 : Rw wr (some ad) cap L := (HR.out.nn HU.out).nn hu29
          have hrd9 : Rd1 (Value.int .i64) wr B (idsOf (L.take (k))) := HRDB.out
          have hC9 := HCk.out.upd hu29 (fun h => h)
          have HOB := Lib.hid (show ∀ a, B = some a → w2.heap.size ≤ a.block from fun a e => by subst e; exact (own_blk HOW.out rfl).1)
          have HB9 := Lib.hid hB9
          have HC9 := Lib.hid hC9
          have HU29 := Lib.hid hu29
          have HR9 := Lib.hid hr9
          have HRD9 := Lib.hid hrd9
          clear hu29 hrd9
          have b0 : wr.cell? ⟨w.heap.size, 0, none⟩ = some (.int .i64 now) := (hB9.cell 0).trans rfl
          have b1 : wr.cell? ⟨w.heap.size, 1, none⟩ = some (.slice (some ad) L.length cap) := (hB9.cell 1).trans rfl
          have bf0 := hB9.frozen 0
          have bf1 := hB9.frozen 1
          have d0 : wr.cell? ⟨w.heap.size + 1, 0, none⟩ = some (.int .i64 0) := (hC9.cell 0).trans rfl
          have d1 : wr.cell? ⟨w.heap.size + 1, 1, none⟩ = some (.slice none 0 0) := (hC9.cell 1).trans rfl
          have df0 := hC9.frozen 0
          have df1 := hC9.frozen 1
          clear hr9 hB9 hC9
          obtain ⟨i0, hi, hz0, hz1, hz2⟩ := info_parts infoT
          have hs2 := cut_lo Try.underlying28 hi hz1 (some ad) L.length cap (k) ((k : Int)) (by omega) (by omega)
          clear hi hz0 hz1 hz2
          go_wp2
          have hUU := ((((Upd.refl wr (fun i => i = w.heap.size ∨ i = w.heap.size + 1)).set ⟨w.heap.size, 0, none⟩ (.int .i64 tt) (.inl (.inl rfl))).set ⟨w.heap.size, 1, none⟩ (.slice (dropA (some ad) cap (k) 2) (L.length - (k)) (cap - (k))) (.inl (.inl rfl))).set ⟨w.heap.size + 1, 0, none⟩ (.int .i64 tt) (.inl (.inr rfl))).set ⟨w.heap.size + 1, 1, none⟩ (.slice (dropA (some ad) cap (k) 2) (L.length - (k)) (cap - (k))) (.inl (.inr rfl))
          have hC7 := (((HC9.out.far (p := ⟨w.heap.size, 0, none⟩) (by simp) (.int .i64 tt)).far (p := ⟨w.heap.size, 1, none⟩) (by simp) (.slice (dropA (some ad) cap (k) 2) (L.length - (k)) (cap - (k)))).set 0 (.int .i64 tt)).set 1 (.slice (dropA (some ad) cap (k) 2) (L.length - (k)) (cap - (k)))
          have hR7 := HR9.out.away hUU (fun a e h => by have := HR.out.lt a e; omega)
          have hD7 : Rd1 (Value.int .i64) _ B (idsOf (L.take (k))) := rd1_away HRD9.out hUU (fun a e h => by have := HOB.out a e; have := HCk.out.lt; omega)
          generalize (((wr.setCell ⟨w.heap.size, 0, none⟩ (.int .i64 tt)).setCell ⟨w.heap.size, 1, none⟩ (.slice (dropA (some ad) cap (k) 2) (L.length - (k)) (cap - (k)))).setCell ⟨w.heap.size + 1, 0, none⟩ (.int .i64 tt)).setCell ⟨w.heap.size + 1, 1, none⟩ (.slice (dropA (some ad) cap (k) 2) (L.length - (k)) (cap - (k))) = w7 at *
          have r0 : w7.cell? ⟨w.heap.size + 1, 0, none⟩ = some (.int .i64 tt) := (hC7.cell 0).trans rfl
          have r1 : w7.cell? ⟨w.heap.size + 1, 1, none⟩ = some (.slice (dropA (some ad) cap (k) 2) (L.length - (k)) (cap - (k))) := (hC7.cell 1).trans rfl
          refine bodyPost_ret (v := .tuple #[.agg #[.int .i64 tt, .slice (dropA (some ad) cap (k) 2) (L.length - (k)) (cap - (k))], .slice B (k) capb, .int .i64 0]) (by simp [results, Try.results16, go_sem, r0, r1]) rfl ?_
          unfold AdvF
          rw [HRR.out, HRES.out]
          have hl1 : (L.drop (k)).length = L.length - (k) := List.length_drop
          have hl2 : (idsOf (L.take (k))).length = k := by unfold idsOf; rw [List.length_map, List.length_take]; omega
          refine ⟨dropA (some ad) cap (k) 2, cap - (k), B, capb, ?_, ⟨hR7.rd.dropA _ _ hR7.le, dropA_nil hR7.nil, ?_, ?_, dropA_blk (Q := fun i => i < w7.heap.size) hR7.lt⟩, hD7, ?_, ?_, fun a e => ?_⟩
          · simp only [hl1, hl2]
          · simp only [hl1]; have := hR7.le; omega
          · have := hR7.max; omega
          · exact (HU.out.nn HU29.out).trans hUU (fun _ _ h => h) (fun i h h2 => by omega)
          · exact dropA_blk (A := (some ad)) (Q := fun i => ∃ ad0, (some ad) = some ad0 ∧ i = ad0.block) (fun a e => ⟨a, e, rfl⟩)
          · have := HOB.out a e; have := HU.out.size; omega
end Go.Proofs.Ytejelihioendnaa
