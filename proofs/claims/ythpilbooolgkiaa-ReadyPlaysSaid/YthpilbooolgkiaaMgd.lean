/- Two sorted neighbours merged. -/
import Derived.Test.YthpilbooolgkiaaMgc
import Derived.Deep.DeepCutAuto
set_option linter.unusedVariables false
set_option linter.unusedSimpArgs false
namespace Go.Proofs.Ythpilbooolgkiaa
open Go.RowKit

set_option maxRecDepth 100000 in
set_option maxHeartbeats 16000000 in
theorem merge_both (K : Nat) (q cap pN pR g : Nat) (now age : Int) (n : Nat)
    (IH : ∀ (w : World) (P L R S : List En) (a m b : Nat), Mg w q cap P L R S pN pR g now age a m b n → L.length + R.length < K → Calls Try.prog 44 #[.slice (some ⟨q, 0, none⟩) n cap, .int .i64 a, .int .i64 m, .int .i64 b, askF pN pR] w (MgPost w q cap P L R S now age))
    (w : World) (P L R S : List En) (a m b : Nat) (h : Mg w q cap P L R S pN pR g now age a m b n) (hK : L.length + R.length = K) (hL2 : 2 ≤ L.length) (hR2 : 2 ≤ R.length) :
    Calls Try.prog 44 #[.slice (some ⟨q, 0, none⟩) n cap, .int .i64 a, .int .i64 m, .int .i64 b, askF pN pR] w (MgPost w q cap P L R S now age) := by
  have ham : a + 2 ≤ m := by rw [h.hm, h.ha]; omega
  have hmb : m + 2 ≤ b := by rw [h.hm, h.hb]; omega
  have hbn : b ≤ n := by rw [h.hb, h.hn]; omega
  have hn1 := h.n1
  have d0 : ((m : Int) - a == 1) = false := by simp; omega
  have d1 : ((b : Int) - m == 1) = false := by simp; omega
  obtain ⟨mid, hmid⟩ : ∃ mid, mid = (a + b) / 2 := ⟨_, rfl⟩
  have hu := half_u a b (by omega)
  have hdiv : ((a : Int) + b) / 2 = (mid : Int) := by omega
  have H := Lib.hid h
  have HIH := Lib.hid IH
  have HK := Lib.hid hK
  have HMID := Lib.hid hmid
  have hm1 : a ≤ mid := by omega
  have hm2 : mid ≤ b := by omega
  clear h IH hK hL2 hR2 hmid
  have hcs : (mid < m ∧ ∃ s0 r0, s0 = mid + m - b ∧ r0 = mid ∧ decide ((mid : Int) < m) = true) ∨ (m ≤ mid ∧ ∃ s0 r0, s0 = a ∧ r0 = m ∧ decide ((mid : Int) < m) = false) := by
    by_cases hc : mid < m
    · exact .inl ⟨hc, _, _, rfl, rfl, by simp; omega⟩
    · exact .inr ⟨by omega, _, _, rfl, rfl, by simp; omega⟩
  unfold askF
  rcases hcs with ⟨hc, s0, r0, hs0, hr0, d2⟩ | ⟨hc, s0, r0, hs0, hr0, d2⟩
  · have hge : b ≤ mid + m := by have := HMID.out; omega
    go_enter Try.func44, Try.ntmps44
    go_wp2
    clear d0 d1 d2 hu hdiv
    go_loopw [20, 21] (fun i j wr => ∃ s t : Nat, i = .int .i64 s ∧ j = .int .i64 t ∧ s0 ≤ s ∧ s ≤ t ∧ t ≤ r0 ∧ Upd w wr Nope ∧ (s0 < s → ∀ e e', (P ++ L ++ R ++ S)[s - 1]? = some e → (P ++ L ++ R ++ S)[mid + m - s]? = some e' → e.key now age ≤ e'.key now age) ∧
      (t < r0 → ∀ e e', (P ++ L ++ R ++ S)[t]? = some e → (P ++ L ++ R ++ S)[mid + m - 1 - t]? = some e' → e'.key now age < e.key now age)) (fun i j _ => (intOf j).toNat - (intOf i).toNat)
    case atStart => exact ⟨s0, r0, by go_num, by go_num, Nat.le_refl _, by have := HMID.out; omega, Nat.le_refl _, Upd.refl _ _, fun h => by omega, fun h => by omega⟩
    case round =>
      obtain ⟨s, t, rfl, rfl, hs, hst, htb, hU, hlo, hhi⟩ := hrel
      by_cases hlt : s < t
      · as_aux_lemma =>
        have hu := half_u s t (by omega)
        obtain ⟨hh, hhe⟩ : ∃ hh, hh = (s + t) / 2 := ⟨_, rfl⟩
        have hdiv : ((s : Int) + t) / 2 = (hh : Int) := by omega
        have hb1 : s ≤ hh := by omega
        have hb2 : hh < t := by omega
        have hpc : ((mid : Int) + m - 1 - hh) = ((mid + m - 1 - hh : Nat) : Int) := by omega
        have hb3 : hh < n := by omega
        obtain ⟨pc, hpce⟩ : ∃ pc, pc = mid + m - 1 - hh := ⟨_, rfl⟩
        rw [← hpce] at hpc
        have hb4 : pc < n := by have := HMID.out; omega
        have hb5 : m ≤ pc ∧ pc < b := by have := HMID.out; omega
        have hb6 : a ≤ hh ∧ hh < m := by have := HMID.out; omega
        obtain ⟨x, hx⟩ := H.out.get hb3
        obtain ⟨y, hy⟩ := H.out.get hb4
        have HARR := Lib.hid (H.out.arr.upd hU (fun h => h))
        have HCAP := Lib.hid (H.out.cap.upd hU (fun h => h) (fun h => h) (fun h => h))
        have HU := Lib.hid hU
        have HLO := Lib.hid hlo
        have HHI := Lib.hid hhi
        have HE1 := Lib.hid hy
        have HE2 := Lib.hid hx
        have HK1 := Lib.hid (H.out.okR hb5.1 hb5.2 hy)
        have HK2 := Lib.hid (H.out.okL hb6.1 hb6.2 hx)
        have HPC := Lib.hid hpce
        clear hU hlo hhi hx hy hhe hpce
        obtain ⟨x0, x1, x2, x3⟩ := HARR.out.uw HE1.out
        obtain ⟨y0, y1, y2, y3⟩ := HARR.out.uw HE2.out
        have HAS := Lib.hid (fun z : UW wr => ask_any z.val pN pR g now age (HCAP.out.upd z.ok (fun h => h) (fun h => h) (fun h => h)) y x HK1.out HK2.out H.out.t0 H.out.t1 H.out.g0 H.out.g1)
        go_upto_region 35 with (fail)
        refine region_uw (by kernel_rfl) (by kernel_rfl) ?_
        repeat (first
          | go_big_quiet_skip
          | (go_big_quiet_want; go_big_quiet_op; first | go_big_quiet_on | go_big_quiet_call ((go_at_call 39; with_reducible exact UW.call (HAS.out _)))))
        refine wpQuiet_nil ?_
        rintro _ ⟨z, rfl⟩
        clear x0 x1 x2 x3 y0 y1 y2 y3 HAS
        have HZ := Lib.hid (HU.out.nn z.ok)
        by_cases hc2 : y.key now age < x.key now age
        · have q1 : cmp3 (x.rank now age) (y.rank now age) < 0 := of_decide_eq_true (ask_lt hc2)
          have q3 : (!decide (cmp3 (x.rank now age) (y.rank now age) < 0)) = false := by rw [ask_lt hc2]; rfl
          have HC := Lib.hid hc2
          clear hc2
          go_wp2
          · have hbad : (!decide (cmp3 (x.rank now age) (y.rank now age) < 0)) = true := by assumption
            rw [q3] at hbad
            cases hbad
          go_roundw
          case rel => exact ⟨s, hh, rfl, by go_num, hs, hb1, by omega, HZ.out, HLO.out, fun _ e e' h1 h2 => by
            rw [← HPC.out, HE1.out] at h2
            rw [HE2.out] at h1
            cases h1; cases h2
            exact HC.out⟩
          case measure => simp [intOf]; omega
        · have q1 : ¬ cmp3 (x.rank now age) (y.rank now age) < 0 := of_decide_eq_false (ask_ge hc2)
          have q2 : 0 ≤ cmp3 (x.rank now age) (y.rank now age) := Int.not_lt.1 q1
          have q3 : (!decide (cmp3 (x.rank now age) (y.rank now age) < 0)) = true := by rw [ask_ge hc2]; rfl
          have HC := Lib.hid hc2
          clear hc2
          go_wp2
          rotate_left
          · have hbad : (!decide (cmp3 (x.rank now age) (y.rank now age) < 0)) = false := by assumption
            rw [q3] at hbad
            cases hbad
          go_roundw
          case rel => exact ⟨hh + 1, t, by go_num, rfl, by omega, by omega, htb, HZ.out, fun _ e e' h1 h2 => by
            rw [show hh + 1 - 1 = hh by omega, HE2.out] at h1
            rw [show mid + m - (hh + 1) = pc by have := HPC.out; omega, HE1.out] at h2
            cases h1; cases h2
            exact Int.not_lt.1 HC.out, HHI.out⟩
          case measure => simp [intOf]; omega
      · as_aux_lemma =>
        obtain rfl : s = t := by omega
        have hpt := H.out.part HMID.out (.inl ⟨hc, hs0, hr0⟩) hs htb hlo hhi
        obtain ⟨en, hen⟩ : ∃ en, en = mid + m - s := ⟨_, rfl⟩
        rw [← hen] at hpt
        have hen2 : ((mid : Int) + m - s) = (en : Int) := by have := hpt.h5; omega
        have k1 := hpt.h1
        have k2 := hpt.h2
        have k3 := hpt.h3
        have k4 := hpt.h4
        have k5 := hpt.h5
        have hA0 := H.out.arr.upd hU (fun h => h)
        obtain ⟨L1, L2, R1, R2, hLL, hRR, hl1, hl2, hr1, hr2, hpA, hpB⟩ : ∃ L1 L2 R1 R2, L = L1 ++ L2 ∧ R = R1 ++ R2 ∧ P.length + L1.length = s ∧ L2.length = m - s ∧ R1.length = en - m ∧ R2.length = b - en ∧ (∀ x ∈ L1, ∀ y ∈ R2, x.key now age ≤ y.key now age) ∧ (∀ y ∈ R1, ∀ x ∈ L2, y.key now age < x.key now age) :=
          ⟨L.take (s - a), L.drop (s - a), R.take (en - m), R.drop (en - m), (List.take_append_drop _ _).symm, (List.take_append_drop _ _).symm,
            by have := H.out.ha; have := H.out.hm; rw [List.length_take]; omega, by have := H.out.ha; have := H.out.hm; rw [List.length_drop]; omega, by have := H.out.hb; have := H.out.hm; rw [List.length_take]; omega, by have := H.out.hb; have := H.out.hm; rw [List.length_drop]; omega, hpt.hA, hpt.hB⟩
        have HLL := Lib.hid (And.intro hLL hRR)
        have hA1 : Arr wr q cap (P ++ L1 ++ L2 ++ (R1 ++ (R2 ++ S))) := by
          rw [hLL, hRR] at hA0
          simpa only [List.append_assoc] using hA0
        have HLEN := Lib.hid (And.intro hl1 (And.intro hl2 (And.intro hr1 hr2)))
        have HAB := Lib.hid (And.intro hpA hpB)
        have HA1 := Lib.hid hA1
        have HU := Lib.hid hU
        have HSL := Lib.hid (show Sd (En.key now age) (L1 ++ L2) by rw [← hLL]; exact H.out.sl)
        have HSR := Lib.hid (show Sd (En.key now age) (R1 ++ R2) by rw [← hRR]; exact H.out.sr)
        have HOKK := Lib.hid (show (∀ e ∈ L1, e.ok) ∧ (∀ e ∈ L2, e.ok) ∧ (∀ e ∈ R1, e.ok) ∧ (∀ e ∈ R2, e.ok) from ⟨fun e h => H.out.ok e (by rw [hLL]; simp [h]), fun e h => H.out.ok e (by rw [hLL]; simp [h]), fun e h => H.out.ok e (by rw [hRR]; simp [h]), fun e h => H.out.ok e (by rw [hRR]; simp [h])⟩)
        have HLT := Lib.hid (show n = (P ++ L1 ++ L2 ++ (R1 ++ (R2 ++ S))).length by
          have := H.out.hn
          rw [hLL, hRR] at this
          rw [this]
          simp only [List.length_append]
          omega)
        clear hpt hlo hhi hU hen hs hst htb hs0 hr0 hA0 hA1 hLL hRR hl1 hl2 hr1 hr2 hpA hpB
        go_upto_region 39 with (fail)
        go_cut [185] (fun s185 wx => s185 = .bool (decide (s < m ∧ m < en)) ∧ wx = wr)
        case first => as_aux_lemma =>
          by_cases g1 : s < m
          · have e1 : decide ((s : Int) < m) = true := by simp; omega
            by_cases g2 : m < en
            · have e2 : decide ((m : Int) < en) = true := by simp; omega
              go_wp2_with fail
              go_meet
              exact ⟨by simp [g1, g2], rfl⟩
            · have e2 : decide ((m : Int) < en) = false := by simp; omega
              go_wp2_with fail
              go_meet
              exact ⟨by simp [g2], rfl⟩
          · have e1 : decide ((s : Int) < m) = false := by simp; omega
            go_wp2_with fail
            go_meet
            exact ⟨by simp [g1], rfl⟩
        case rest =>
          obtain ⟨rfl, hwc⟩ := hcut
          subst hwc
          go_upto_if 185 with (fail)
          go_cut [] (fun wx => Arr wx q cap (P ++ L1 ++ R1 ++ (L2 ++ (R2 ++ S))) ∧ Upd w wx (fun i => i = q))
          case first =>
            by_cases gg : s < m ∧ m < en
            · as_aux_lemma =>
              have e : decide (s < m ∧ m < en) = true := by simp [gg]
              have hC := rotate_any wc q cap _ (P ++ L1 ++ R1 ++ (L2 ++ (R2 ++ S))) s m en n HA1.out ⟨P ++ L1, L2, R1, R2 ++ S, by simp only [List.append_assoc], by have := HLEN.out; omega, by have := HLEN.out; omega, by have := HLEN.out; simp only [List.length_append]; omega, by simp only [List.append_assoc]⟩ gg.1 gg.2 HLT.out hn1 (.func (.func 39) #[] #[.pointer (some ⟨pN, 0, none⟩), .pointer (some ⟨pR, 0, none⟩)])
              have HC := Lib.hid hC
              clear hC
              go_wp2_with fail
              refine HC.out.mono ?_
              rintro e w4 ⟨rfl, hA4, hU4⟩
              have HF := Lib.hid (And.intro hA4 ((HU.out.mono (G := fun i => i = q) (fun _ _ h => h.elim)).then_ hU4))
              clear hA4 hU4
              go_wp2_with fail
              go_meet
              exact HF.out
            · as_aux_lemma =>
              have e : decide (s < m ∧ m < en) = false := by simp only [decide_eq_false_iff_not]; exact gg
              have HF := Lib.hid (show Arr wc q cap (P ++ L1 ++ R1 ++ (L2 ++ (R2 ++ S))) ∧ Upd w wc (fun i => i = q) from ⟨by
                obtain ⟨z1, z2, z3, z4⟩ := HLEN.out
                by_cases q1 : s < m
                · have : R1 = [] := List.length_eq_zero_iff.1 (by omega)
                  have h := HA1.out
                  rw [this] at h ⊢
                  simpa only [List.append_assoc, List.nil_append, List.append_nil] using h
                · have : L2 = [] := List.length_eq_zero_iff.1 (by omega)
                  have h := HA1.out
                  rw [this] at h ⊢
                  simpa only [List.append_assoc, List.nil_append, List.append_nil] using h, HU.out.mono (fun _ _ h => h.elim)⟩)
              go_wp2_with fail
              go_meet
              exact HF.out
          case rest =>
            obtain ⟨hA2, hU2⟩ := hcut
            have HA2 := Lib.hid hA2
            have HU2 := Lib.hid hU2
            clear hA2 hU2
            go_upto_region 41 with (fail)
            go_cut [199] (fun s199 wx => s199 = .bool (decide (a < s ∧ s < mid)) ∧ wx = wc)
            case first => as_aux_lemma =>
              by_cases g1 : a < s
              · have e1 : decide ((a : Int) < s) = true := by simp; omega
                by_cases g2 : s < mid
                · have e2 : decide ((s : Int) < mid) = true := by simp; omega
                  go_wp2_with fail
                  go_meet
                  exact ⟨by simp [g1, g2], rfl⟩
                · have e2 : decide ((s : Int) < mid) = false := by simp; omega
                  go_wp2_with fail
                  go_meet
                  exact ⟨by simp [g2], rfl⟩
              · have e1 : decide ((a : Int) < s) = false := by simp; omega
                go_wp2_with fail
                go_meet
                exact ⟨by simp [g1], rfl⟩
            case rest =>
              obtain ⟨rfl, hwc⟩ := hcut
              subst hwc
              go_upto_if 199 with (fail)
              go_cut [] (fun wx => Arr wx q cap (P ++ srtK (En.key now age) (L1 ++ R1) ++ (L2 ++ (R2 ++ S))) ∧ Upd w wx (fun i => i = q))
              case first =>
                by_cases gg : a < s ∧ s < mid
                · as_aux_lemma =>
                  have e : decide (a < s ∧ s < mid) = true := by simp [gg]
                  have hM : Mg wc q cap P L1 R1 (L2 ++ (R2 ++ S)) pN pR g now age a s mid n := by
                    obtain ⟨z1, z2, z3, z4⟩ := HLEN.out
                    obtain ⟨o1, o2, o3, o4⟩ := HOKK.out
                    have hla := H.out.ha
                    have hlb := H.out.hb
                    have hlm := H.out.hm
                    have hnn := HLT.out
                    simp only [List.length_append] at hnn
                    refine ⟨HA2.out, (sd_append.1 HSL.out).1, (sd_append.1 HSR.out).1, by omega, by omega, fun e he => (List.mem_append.1 he).elim (o1 e) (o3 e), H.out.cap.upd HU2.out H.out.qn.1 H.out.qn.2.1 H.out.qn.2.2, H.out.qn, H.out.t0, H.out.t1, H.out.g0, H.out.g1, hla, by omega, by omega, ?_, hn1⟩
                    simp only [List.length_append]
                    omega
                  have HC := Lib.hid (HIH.out wc P L1 R1 (L2 ++ (R2 ++ S)) a s mid hM (by have hkk := HK.out; rw [HLL.out.1, HLL.out.2] at hkk; simp only [List.length_append] at hkk; obtain ⟨z1, z2, z3, z4⟩ := HLEN.out; have hmm := HMID.out; have hla := H.out.ha; omega))
                  clear hM
                  unfold askF at HC
                  go_wp2_with fail
                  refine HC.out.mono ?_
                  rintro e w4 ⟨rfl, hA4, hU4⟩
                  have HF := Lib.hid (And.intro hA4 (HU2.out.then_ hU4))
                  clear hA4 hU4
                  go_wp2_with fail
                  go_meet
                  exact HF.out
                · as_aux_lemma =>
                  have e : decide (a < s ∧ s < mid) = false := by simp only [decide_eq_false_iff_not]; exact gg
                  have HF := Lib.hid (show Arr wc q cap (P ++ srtK (En.key now age) (L1 ++ R1) ++ (L2 ++ (R2 ++ S))) ∧ Upd w wc (fun i => i = q) from ⟨by
                    obtain ⟨z1, z2, z3, z4⟩ := HLEN.out
                    have hla := H.out.ha
                    have hs : srtK (En.key now age) (L1 ++ R1) = L1 ++ R1 := by
                      by_cases q1 : a < s
                      · have : R1 = [] := List.length_eq_zero_iff.1 (by omega)
                        rw [this, List.append_nil]
                        exact srt_self (sd_append.1 HSL.out).1
                      · have : L1 = [] := List.length_eq_zero_iff.1 (by omega)
                        rw [this, List.nil_append]
                        exact srt_self (sd_append.1 HSR.out).1
                    rw [hs]
                    simpa only [List.append_assoc] using HA2.out, HU2.out⟩)
                  go_wp2_with fail
                  go_meet
                  exact HF.out
              case rest =>
                obtain ⟨hA3, hU3⟩ := hcut
                have HA3 := Lib.hid hA3
                have HU3 := Lib.hid hU3
                clear hA3 hU3
                go_upto_region 43 with (fail)
                go_cut [213] (fun s213 wx => s213 = .bool (decide (mid < en ∧ en < b)) ∧ wx = wc)
                case first => as_aux_lemma =>
                  by_cases g1 : mid < en
                  · have e1 : decide ((mid : Int) < en) = true := by simp; omega
                    by_cases g2 : en < b
                    · have e2 : decide ((en : Int) < b) = true := by simp; omega
                      go_wp2_with fail
                      go_meet
                      exact ⟨by simp [g1, g2], rfl⟩
                    · have e2 : decide ((en : Int) < b) = false := by simp; omega
                      go_wp2_with fail
                      go_meet
                      exact ⟨by simp [g2], rfl⟩
                  · have e1 : decide ((mid : Int) < en) = false := by simp; omega
                    go_wp2_with fail
                    go_meet
                    exact ⟨by simp [g1], rfl⟩
                case rest =>
                  obtain ⟨rfl, hwc⟩ := hcut
                  subst hwc
                  by_cases gg : mid < en ∧ en < b
                  · as_aux_lemma =>
                    have e : decide (mid < en ∧ en < b) = true := by simp [gg]
                    have hM : Mg wc q cap (P ++ srtK (En.key now age) (L1 ++ R1)) L2 R2 S pN pR g now age mid en b n := by
                      obtain ⟨z1, z2, z3, z4⟩ := HLEN.out
                      obtain ⟨o1, o2, o3, o4⟩ := HOKK.out
                      have hla := H.out.ha
                      have hlb := H.out.hb
                      have hlm := H.out.hm
                      have hnn := HLT.out
                      have hz := len_srtK (ky := En.key now age) (L1 ++ R1)
                      simp only [List.length_append] at hnn hz
                      refine ⟨by simpa only [List.append_assoc] using HA3.out, (sd_append.1 HSL.out).2.1, (sd_append.1 HSR.out).2.1, by omega, by omega, fun e he => (List.mem_append.1 he).elim (o2 e) (o4 e), H.out.cap.upd HU3.out H.out.qn.1 H.out.qn.2.1 H.out.qn.2.2, H.out.qn, H.out.t0, H.out.t1, H.out.g0, H.out.g1, ?_, ?_, ?_, ?_, hn1⟩
                      all_goals simp only [List.length_append, hz]; omega
                    have HC := Lib.hid (HIH.out wc (P ++ srtK (En.key now age) (L1 ++ R1)) L2 R2 S mid en b hM (by have hkk := HK.out; rw [HLL.out.1, HLL.out.2] at hkk; simp only [List.length_append] at hkk; obtain ⟨z1, z2, z3, z4⟩ := HLEN.out; have hmm := HMID.out; have hla := H.out.ha; omega))
                    clear hM
                    unfold askF at HC
                    go_wp2_with fail
                    refine HC.out.mono ?_
                    rintro e w4 ⟨rfl, hA4, hU4⟩
                    have hfin : P ++ srtK (En.key now age) (L1 ++ R1) ++ srtK (En.key now age) (L2 ++ R2) ++ S = P ++ srtK (En.key now age) (L ++ R) ++ S := by
                      rw [HLL.out.1, HLL.out.2, ← srt_halves HAB.out.1 HAB.out.2 HSL.out HSR.out]
                      simp only [List.append_assoc]
                    rw [hfin] at hA4
                    have HF := Lib.hid (And.intro hA4 (HU3.out.then_ hU4))
                    clear hA4 hU4 hfin
                    go_wp2
                    go_end0
                    exact ⟨rfl, HF.out⟩
                  · as_aux_lemma =>
                    have e : decide (mid < en ∧ en < b) = false := by simp only [decide_eq_false_iff_not]; exact gg
                    have HF := Lib.hid (show Arr wc q cap (P ++ srtK (En.key now age) (L1 ++ R1) ++ srtK (En.key now age) (L2 ++ R2) ++ S) ∧ Upd w wc (fun i => i = q) from ⟨by
                      obtain ⟨z1, z2, z3, z4⟩ := HLEN.out
                      have hs : srtK (En.key now age) (L2 ++ R2) = L2 ++ R2 := by
                        by_cases q1 : mid < en
                        · have : R2 = [] := List.length_eq_zero_iff.1 (by omega)
                          rw [this, List.append_nil]
                          exact srt_self (sd_append.1 HSL.out).2.1
                        · have : L2 = [] := List.length_eq_zero_iff.1 (by omega)
                          rw [this, List.nil_append]
                          exact srt_self (sd_append.1 HSR.out).2.1
                      rw [hs]
                      simpa only [List.append_assoc] using HA3.out, HU3.out⟩)
                    have hfin : P ++ srtK (En.key now age) (L1 ++ R1) ++ srtK (En.key now age) (L2 ++ R2) ++ S = P ++ srtK (En.key now age) (L ++ R) ++ S := by
                      rw [HLL.out.1, HLL.out.2, ← srt_halves HAB.out.1 HAB.out.2 HSL.out HSR.out]
                      simp only [List.append_assoc]
                    rw [hfin] at HF
                    clear hfin
                    go_wp2
                    go_end0
                    exact ⟨rfl, HF.out⟩
  · go_enter Try.func44, Try.ntmps44
    go_wp2
    clear d0 d1 d2 hu hdiv
    go_loopw [20, 21] (fun i j wr => ∃ s t : Nat, i = .int .i64 s ∧ j = .int .i64 t ∧ s0 ≤ s ∧ s ≤ t ∧ t ≤ r0 ∧ Upd w wr Nope ∧ (s0 < s → ∀ e e', (P ++ L ++ R ++ S)[s - 1]? = some e → (P ++ L ++ R ++ S)[mid + m - s]? = some e' → e.key now age ≤ e'.key now age) ∧
      (t < r0 → ∀ e e', (P ++ L ++ R ++ S)[t]? = some e → (P ++ L ++ R ++ S)[mid + m - 1 - t]? = some e' → e'.key now age < e.key now age)) (fun i j _ => (intOf j).toNat - (intOf i).toNat)
    case atStart => exact ⟨s0, r0, by go_num, by go_num, Nat.le_refl _, by have := HMID.out; omega, Nat.le_refl _, Upd.refl _ _, fun h => by omega, fun h => by omega⟩
    case round =>
      obtain ⟨s, t, rfl, rfl, hs, hst, htb, hU, hlo, hhi⟩ := hrel
      by_cases hlt : s < t
      · as_aux_lemma =>
        have hu := half_u s t (by omega)
        obtain ⟨hh, hhe⟩ : ∃ hh, hh = (s + t) / 2 := ⟨_, rfl⟩
        have hdiv : ((s : Int) + t) / 2 = (hh : Int) := by omega
        have hb1 : s ≤ hh := by omega
        have hb2 : hh < t := by omega
        have hpc : ((mid : Int) + m - 1 - hh) = ((mid + m - 1 - hh : Nat) : Int) := by omega
        have hb3 : hh < n := by omega
        obtain ⟨pc, hpce⟩ : ∃ pc, pc = mid + m - 1 - hh := ⟨_, rfl⟩
        rw [← hpce] at hpc
        have hb4 : pc < n := by have := HMID.out; omega
        have hb5 : m ≤ pc ∧ pc < b := by have := HMID.out; omega
        have hb6 : a ≤ hh ∧ hh < m := by have := HMID.out; omega
        obtain ⟨x, hx⟩ := H.out.get hb3
        obtain ⟨y, hy⟩ := H.out.get hb4
        have HARR := Lib.hid (H.out.arr.upd hU (fun h => h))
        have HCAP := Lib.hid (H.out.cap.upd hU (fun h => h) (fun h => h) (fun h => h))
        have HU := Lib.hid hU
        have HLO := Lib.hid hlo
        have HHI := Lib.hid hhi
        have HE1 := Lib.hid hy
        have HE2 := Lib.hid hx
        have HK1 := Lib.hid (H.out.okR hb5.1 hb5.2 hy)
        have HK2 := Lib.hid (H.out.okL hb6.1 hb6.2 hx)
        have HPC := Lib.hid hpce
        clear hU hlo hhi hx hy hhe hpce
        obtain ⟨x0, x1, x2, x3⟩ := HARR.out.uw HE1.out
        obtain ⟨y0, y1, y2, y3⟩ := HARR.out.uw HE2.out
        have HAS := Lib.hid (fun z : UW wr => ask_any z.val pN pR g now age (HCAP.out.upd z.ok (fun h => h) (fun h => h) (fun h => h)) y x HK1.out HK2.out H.out.t0 H.out.t1 H.out.g0 H.out.g1)
        go_upto_region 35 with (fail)
        refine region_uw (by kernel_rfl) (by kernel_rfl) ?_
        repeat (first
          | go_big_quiet_skip
          | (go_big_quiet_want; go_big_quiet_op; first | go_big_quiet_on | go_big_quiet_call ((go_at_call 39; with_reducible exact UW.call (HAS.out _)))))
        refine wpQuiet_nil ?_
        rintro _ ⟨z, rfl⟩
        clear x0 x1 x2 x3 y0 y1 y2 y3 HAS
        have HZ := Lib.hid (HU.out.nn z.ok)
        by_cases hc2 : y.key now age < x.key now age
        · have q1 : cmp3 (x.rank now age) (y.rank now age) < 0 := of_decide_eq_true (ask_lt hc2)
          have q3 : (!decide (cmp3 (x.rank now age) (y.rank now age) < 0)) = false := by rw [ask_lt hc2]; rfl
          have HC := Lib.hid hc2
          clear hc2
          go_wp2
          · have hbad : (!decide (cmp3 (x.rank now age) (y.rank now age) < 0)) = true := by assumption
            rw [q3] at hbad
            cases hbad
          go_roundw
          case rel => exact ⟨s, hh, rfl, by go_num, hs, hb1, by omega, HZ.out, HLO.out, fun _ e e' h1 h2 => by
            rw [← HPC.out, HE1.out] at h2
            rw [HE2.out] at h1
            cases h1; cases h2
            exact HC.out⟩
          case measure => simp [intOf]; omega
        · have q1 : ¬ cmp3 (x.rank now age) (y.rank now age) < 0 := of_decide_eq_false (ask_ge hc2)
          have q2 : 0 ≤ cmp3 (x.rank now age) (y.rank now age) := Int.not_lt.1 q1
          have q3 : (!decide (cmp3 (x.rank now age) (y.rank now age) < 0)) = true := by rw [ask_ge hc2]; rfl
          have HC := Lib.hid hc2
          clear hc2
          go_wp2
          rotate_left
          · have hbad : (!decide (cmp3 (x.rank now age) (y.rank now age) < 0)) = false := by assumption
            rw [q3] at hbad
            cases hbad
          go_roundw
          case rel => exact ⟨hh + 1, t, by go_num, rfl, by omega, by omega, htb, HZ.out, fun _ e e' h1 h2 => by
            rw [show hh + 1 - 1 = hh by omega, HE2.out] at h1
            rw [show mid + m - (hh + 1) = pc by have := HPC.out; omega, HE1.out] at h2
            cases h1; cases h2
            exact Int.not_lt.1 HC.out, HHI.out⟩
          case measure => simp [intOf]; omega
      · as_aux_lemma =>
        obtain rfl : s = t := by omega
        have hpt := H.out.part HMID.out (.inr ⟨hc, hs0, hr0⟩) hs htb hlo hhi
        obtain ⟨en, hen⟩ : ∃ en, en = mid + m - s := ⟨_, rfl⟩
        rw [← hen] at hpt
        have hen2 : ((mid : Int) + m - s) = (en : Int) := by have := hpt.h5; omega
        have k1 := hpt.h1
        have k2 := hpt.h2
        have k3 := hpt.h3
        have k4 := hpt.h4
        have k5 := hpt.h5
        have hA0 := H.out.arr.upd hU (fun h => h)
        obtain ⟨L1, L2, R1, R2, hLL, hRR, hl1, hl2, hr1, hr2, hpA, hpB⟩ : ∃ L1 L2 R1 R2, L = L1 ++ L2 ∧ R = R1 ++ R2 ∧ P.length + L1.length = s ∧ L2.length = m - s ∧ R1.length = en - m ∧ R2.length = b - en ∧ (∀ x ∈ L1, ∀ y ∈ R2, x.key now age ≤ y.key now age) ∧ (∀ y ∈ R1, ∀ x ∈ L2, y.key now age < x.key now age) :=
          ⟨L.take (s - a), L.drop (s - a), R.take (en - m), R.drop (en - m), (List.take_append_drop _ _).symm, (List.take_append_drop _ _).symm,
            by have := H.out.ha; have := H.out.hm; rw [List.length_take]; omega, by have := H.out.ha; have := H.out.hm; rw [List.length_drop]; omega, by have := H.out.hb; have := H.out.hm; rw [List.length_take]; omega, by have := H.out.hb; have := H.out.hm; rw [List.length_drop]; omega, hpt.hA, hpt.hB⟩
        have HLL := Lib.hid (And.intro hLL hRR)
        have hA1 : Arr wr q cap (P ++ L1 ++ L2 ++ (R1 ++ (R2 ++ S))) := by
          rw [hLL, hRR] at hA0
          simpa only [List.append_assoc] using hA0
        have HLEN := Lib.hid (And.intro hl1 (And.intro hl2 (And.intro hr1 hr2)))
        have HAB := Lib.hid (And.intro hpA hpB)
        have HA1 := Lib.hid hA1
        have HU := Lib.hid hU
        have HSL := Lib.hid (show Sd (En.key now age) (L1 ++ L2) by rw [← hLL]; exact H.out.sl)
        have HSR := Lib.hid (show Sd (En.key now age) (R1 ++ R2) by rw [← hRR]; exact H.out.sr)
        have HOKK := Lib.hid (show (∀ e ∈ L1, e.ok) ∧ (∀ e ∈ L2, e.ok) ∧ (∀ e ∈ R1, e.ok) ∧ (∀ e ∈ R2, e.ok) from ⟨fun e h => H.out.ok e (by rw [hLL]; simp [h]), fun e h => H.out.ok e (by rw [hLL]; simp [h]), fun e h => H.out.ok e (by rw [hRR]; simp [h]), fun e h => H.out.ok e (by rw [hRR]; simp [h])⟩)
        have HLT := Lib.hid (show n = (P ++ L1 ++ L2 ++ (R1 ++ (R2 ++ S))).length by
          have := H.out.hn
          rw [hLL, hRR] at this
          rw [this]
          simp only [List.length_append]
          omega)
        clear hpt hlo hhi hU hen hs hst htb hs0 hr0 hA0 hA1 hLL hRR hl1 hl2 hr1 hr2 hpA hpB
        go_upto_region 39 with (fail)
        go_cut [185] (fun s185 wx => s185 = .bool (decide (s < m ∧ m < en)) ∧ wx = wr)
        case first => as_aux_lemma =>
          by_cases g1 : s < m
          · have e1 : decide ((s : Int) < m) = true := by simp; omega
            by_cases g2 : m < en
            · have e2 : decide ((m : Int) < en) = true := by simp; omega
              go_wp2_with fail
              go_meet
              exact ⟨by simp [g1, g2], rfl⟩
            · have e2 : decide ((m : Int) < en) = false := by simp; omega
              go_wp2_with fail
              go_meet
              exact ⟨by simp [g2], rfl⟩
          · have e1 : decide ((s : Int) < m) = false := by simp; omega
            go_wp2_with fail
            go_meet
            exact ⟨by simp [g1], rfl⟩
        case rest =>
          obtain ⟨rfl, hwc⟩ := hcut
          subst hwc
          go_upto_if 185 with (fail)
          go_cut [] (fun wx => Arr wx q cap (P ++ L1 ++ R1 ++ (L2 ++ (R2 ++ S))) ∧ Upd w wx (fun i => i = q))
          case first =>
            by_cases gg : s < m ∧ m < en
            · as_aux_lemma =>
              have e : decide (s < m ∧ m < en) = true := by simp [gg]
              have hC := rotate_any wc q cap _ (P ++ L1 ++ R1 ++ (L2 ++ (R2 ++ S))) s m en n HA1.out ⟨P ++ L1, L2, R1, R2 ++ S, by simp only [List.append_assoc], by have := HLEN.out; omega, by have := HLEN.out; omega, by have := HLEN.out; simp only [List.length_append]; omega, by simp only [List.append_assoc]⟩ gg.1 gg.2 HLT.out hn1 (.func (.func 39) #[] #[.pointer (some ⟨pN, 0, none⟩), .pointer (some ⟨pR, 0, none⟩)])
              have HC := Lib.hid hC
              clear hC
              go_wp2_with fail
              refine HC.out.mono ?_
              rintro e w4 ⟨rfl, hA4, hU4⟩
              have HF := Lib.hid (And.intro hA4 ((HU.out.mono (G := fun i => i = q) (fun _ _ h => h.elim)).then_ hU4))
              clear hA4 hU4
              go_wp2_with fail
              go_meet
              exact HF.out
            · as_aux_lemma =>
              have e : decide (s < m ∧ m < en) = false := by simp only [decide_eq_false_iff_not]; exact gg
              have HF := Lib.hid (show Arr wc q cap (P ++ L1 ++ R1 ++ (L2 ++ (R2 ++ S))) ∧ Upd w wc (fun i => i = q) from ⟨by
                obtain ⟨z1, z2, z3, z4⟩ := HLEN.out
                by_cases q1 : s < m
                · have : R1 = [] := List.length_eq_zero_iff.1 (by omega)
                  have h := HA1.out
                  rw [this] at h ⊢
                  simpa only [List.append_assoc, List.nil_append, List.append_nil] using h
                · have : L2 = [] := List.length_eq_zero_iff.1 (by omega)
                  have h := HA1.out
                  rw [this] at h ⊢
                  simpa only [List.append_assoc, List.nil_append, List.append_nil] using h, HU.out.mono (fun _ _ h => h.elim)⟩)
              go_wp2_with fail
              go_meet
              exact HF.out
          case rest =>
            obtain ⟨hA2, hU2⟩ := hcut
            have HA2 := Lib.hid hA2
            have HU2 := Lib.hid hU2
            clear hA2 hU2
            go_upto_region 41 with (fail)
            go_cut [199] (fun s199 wx => s199 = .bool (decide (a < s ∧ s < mid)) ∧ wx = wc)
            case first => as_aux_lemma =>
              by_cases g1 : a < s
              · have e1 : decide ((a : Int) < s) = true := by simp; omega
                by_cases g2 : s < mid
                · have e2 : decide ((s : Int) < mid) = true := by simp; omega
                  go_wp2_with fail
                  go_meet
                  exact ⟨by simp [g1, g2], rfl⟩
                · have e2 : decide ((s : Int) < mid) = false := by simp; omega
                  go_wp2_with fail
                  go_meet
                  exact ⟨by simp [g2], rfl⟩
              · have e1 : decide ((a : Int) < s) = false := by simp; omega
                go_wp2_with fail
                go_meet
                exact ⟨by simp [g1], rfl⟩
            case rest =>
              obtain ⟨rfl, hwc⟩ := hcut
              subst hwc
              go_upto_if 199 with (fail)
              go_cut [] (fun wx => Arr wx q cap (P ++ srtK (En.key now age) (L1 ++ R1) ++ (L2 ++ (R2 ++ S))) ∧ Upd w wx (fun i => i = q))
              case first =>
                by_cases gg : a < s ∧ s < mid
                · as_aux_lemma =>
                  have e : decide (a < s ∧ s < mid) = true := by simp [gg]
                  have hM : Mg wc q cap P L1 R1 (L2 ++ (R2 ++ S)) pN pR g now age a s mid n := by
                    obtain ⟨z1, z2, z3, z4⟩ := HLEN.out
                    obtain ⟨o1, o2, o3, o4⟩ := HOKK.out
                    have hla := H.out.ha
                    have hlb := H.out.hb
                    have hlm := H.out.hm
                    have hnn := HLT.out
                    simp only [List.length_append] at hnn
                    refine ⟨HA2.out, (sd_append.1 HSL.out).1, (sd_append.1 HSR.out).1, by omega, by omega, fun e he => (List.mem_append.1 he).elim (o1 e) (o3 e), H.out.cap.upd HU2.out H.out.qn.1 H.out.qn.2.1 H.out.qn.2.2, H.out.qn, H.out.t0, H.out.t1, H.out.g0, H.out.g1, hla, by omega, by omega, ?_, hn1⟩
                    simp only [List.length_append]
                    omega
                  have HC := Lib.hid (HIH.out wc P L1 R1 (L2 ++ (R2 ++ S)) a s mid hM (by have hkk := HK.out; rw [HLL.out.1, HLL.out.2] at hkk; simp only [List.length_append] at hkk; obtain ⟨z1, z2, z3, z4⟩ := HLEN.out; have hmm := HMID.out; have hla := H.out.ha; omega))
                  clear hM
                  unfold askF at HC
                  go_wp2_with fail
                  refine HC.out.mono ?_
                  rintro e w4 ⟨rfl, hA4, hU4⟩
                  have HF := Lib.hid (And.intro hA4 (HU2.out.then_ hU4))
                  clear hA4 hU4
                  go_wp2_with fail
                  go_meet
                  exact HF.out
                · as_aux_lemma =>
                  have e : decide (a < s ∧ s < mid) = false := by simp only [decide_eq_false_iff_not]; exact gg
                  have HF := Lib.hid (show Arr wc q cap (P ++ srtK (En.key now age) (L1 ++ R1) ++ (L2 ++ (R2 ++ S))) ∧ Upd w wc (fun i => i = q) from ⟨by
                    obtain ⟨z1, z2, z3, z4⟩ := HLEN.out
                    have hla := H.out.ha
                    have hs : srtK (En.key now age) (L1 ++ R1) = L1 ++ R1 := by
                      by_cases q1 : a < s
                      · have : R1 = [] := List.length_eq_zero_iff.1 (by omega)
                        rw [this, List.append_nil]
                        exact srt_self (sd_append.1 HSL.out).1
                      · have : L1 = [] := List.length_eq_zero_iff.1 (by omega)
                        rw [this, List.nil_append]
                        exact srt_self (sd_append.1 HSR.out).1
                    rw [hs]
                    simpa only [List.append_assoc] using HA2.out, HU2.out⟩)
                  go_wp2_with fail
                  go_meet
                  exact HF.out
              case rest =>
                obtain ⟨hA3, hU3⟩ := hcut
                have HA3 := Lib.hid hA3
                have HU3 := Lib.hid hU3
                clear hA3 hU3
                go_upto_region 43 with (fail)
                go_cut [213] (fun s213 wx => s213 = .bool (decide (mid < en ∧ en < b)) ∧ wx = wc)
                case first => as_aux_lemma =>
                  by_cases g1 : mid < en
                  · have e1 : decide ((mid : Int) < en) = true := by simp; omega
                    by_cases g2 : en < b
                    · have e2 : decide ((en : Int) < b) = true := by simp; omega
                      go_wp2_with fail
                      go_meet
                      exact ⟨by simp [g1, g2], rfl⟩
                    · have e2 : decide ((en : Int) < b) = false := by simp; omega
                      go_wp2_with fail
                      go_meet
                      exact ⟨by simp [g2], rfl⟩
                  · have e1 : decide ((mid : Int) < en) = false := by simp; omega
                    go_wp2_with fail
                    go_meet
                    exact ⟨by simp [g1], rfl⟩
                case rest =>
                  obtain ⟨rfl, hwc⟩ := hcut
                  subst hwc
                  by_cases gg : mid < en ∧ en < b
                  · as_aux_lemma =>
                    have e : decide (mid < en ∧ en < b) = true := by simp [gg]
                    have hM : Mg wc q cap (P ++ srtK (En.key now age) (L1 ++ R1)) L2 R2 S pN pR g now age mid en b n := by
                      obtain ⟨z1, z2, z3, z4⟩ := HLEN.out
                      obtain ⟨o1, o2, o3, o4⟩ := HOKK.out
                      have hla := H.out.ha
                      have hlb := H.out.hb
                      have hlm := H.out.hm
                      have hnn := HLT.out
                      have hz := len_srtK (ky := En.key now age) (L1 ++ R1)
                      simp only [List.length_append] at hnn hz
                      refine ⟨by simpa only [List.append_assoc] using HA3.out, (sd_append.1 HSL.out).2.1, (sd_append.1 HSR.out).2.1, by omega, by omega, fun e he => (List.mem_append.1 he).elim (o2 e) (o4 e), H.out.cap.upd HU3.out H.out.qn.1 H.out.qn.2.1 H.out.qn.2.2, H.out.qn, H.out.t0, H.out.t1, H.out.g0, H.out.g1, ?_, ?_, ?_, ?_, hn1⟩
                      all_goals simp only [List.length_append, hz]; omega
                    have HC := Lib.hid (HIH.out wc (P ++ srtK (En.key now age) (L1 ++ R1)) L2 R2 S mid en b hM (by have hkk := HK.out; rw [HLL.out.1, HLL.out.2] at hkk; simp only [List.length_append] at hkk; obtain ⟨z1, z2, z3, z4⟩ := HLEN.out; have hmm := HMID.out; have hla := H.out.ha; omega))
                    clear hM
                    unfold askF at HC
                    go_wp2_with fail
                    refine HC.out.mono ?_
                    rintro e w4 ⟨rfl, hA4, hU4⟩
                    have hfin : P ++ srtK (En.key now age) (L1 ++ R1) ++ srtK (En.key now age) (L2 ++ R2) ++ S = P ++ srtK (En.key now age) (L ++ R) ++ S := by
                      rw [HLL.out.1, HLL.out.2, ← srt_halves HAB.out.1 HAB.out.2 HSL.out HSR.out]
                      simp only [List.append_assoc]
                    rw [hfin] at hA4
                    have HF := Lib.hid (And.intro hA4 (HU3.out.then_ hU4))
                    clear hA4 hU4 hfin
                    go_wp2
                    go_end0
                    exact ⟨rfl, HF.out⟩
                  · as_aux_lemma =>
                    have e : decide (mid < en ∧ en < b) = false := by simp only [decide_eq_false_iff_not]; exact gg
                    have HF := Lib.hid (show Arr wc q cap (P ++ srtK (En.key now age) (L1 ++ R1) ++ srtK (En.key now age) (L2 ++ R2) ++ S) ∧ Upd w wc (fun i => i = q) from ⟨by
                      obtain ⟨z1, z2, z3, z4⟩ := HLEN.out
                      have hs : srtK (En.key now age) (L2 ++ R2) = L2 ++ R2 := by
                        by_cases q1 : mid < en
                        · have : R2 = [] := List.length_eq_zero_iff.1 (by omega)
                          rw [this, List.append_nil]
                          exact srt_self (sd_append.1 HSL.out).2.1
                        · have : L2 = [] := List.length_eq_zero_iff.1 (by omega)
                          rw [this, List.nil_append]
                          exact srt_self (sd_append.1 HSR.out).2.1
                      rw [hs]
                      simpa only [List.append_assoc] using HA3.out, HU3.out⟩)
                    have hfin : P ++ srtK (En.key now age) (L1 ++ R1) ++ srtK (En.key now age) (L2 ++ R2) ++ S = P ++ srtK (En.key now age) (L ++ R) ++ S := by
                      rw [HLL.out.1, HLL.out.2, ← srt_halves HAB.out.1 HAB.out.2 HSL.out HSR.out]
                      simp only [List.append_assoc]
                    rw [hfin] at HF
                    clear hfin
                    go_wp2
                    go_end0
                    exact ⟨rfl, HF.out⟩
end Go.Proofs.Ythpilbooolgkiaa
