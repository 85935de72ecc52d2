/- WheelSets. -/
import Derived.Test.YtejelihioendnaaWow
set_option linter.unusedVariables false
set_option linter.unusedSimpArgs false
namespace Go.Proofs.Ytejelihioendnaa
open Go.RowKit

/-- An advance past all. -/
def idsOf (L : List (Int × Int)) : List Int := L.map (·.2)
theorem grp_idsOf {n : Int} {L : List (Int × Int)} (hs : Srt L) (h : ∀ p ∈ L, n ≤ p.1) : grp n L ++ idsOf (rest n L) = idsOf L := by
  induction L with
  | nil => rfl
  | cons a T ih =>
    have hs' := List.pairwise_cons.1 hs
    by_cases e : a.1 = n
    · have := ih hs'.2 (fun p hp => h p (List.mem_cons_of_mem _ hp))
      unfold grp rest idsOf at this ⊢
      simp [e, this]
    · have hr : ∀ p ∈ a :: T, p.1 ≠ n := fun p hp e' => by
        rcases List.mem_cons.1 hp with rfl | hp
        · exact e e'
        · have h1 := hs'.1 p hp
          have h2 := h a List.mem_cons_self
          unfold lt2 at h1
          omega
      have e1 : grp n (a :: T) = [] := by
        unfold grp
        rw [List.filter_eq_nil_iff.2 (fun p hp => by simpa using hr p hp)]
        rfl
      have e2 : rest n (a :: T) = a :: T := by
        unfold rest
        exact List.filter_eq_self.2 (fun p hp => by simpa using hr p hp)
      rw [e1, e2]
      rfl
theorem adv_all {tt : Int} {most : Nat} (now : Int) (L : List (Int × Int)) (fired : List Int) (hs : Srt L) (hg : ∀ p ∈ L, p.1 ≤ tt) (hl : fired.length + L.length < most) : adv tt most now L fired = (tt, [], fired ++ idsOf L) := by
  induction now, L, fired using adv.induct (tt := tt) (most := most) with
  | case1 now fired h => rw [adv_stop h (fun n x T e => by cases e)]; simp [idsOf]
  | case2 now fired h n x T hlt => have := hg _ List.mem_cons_self; simp only at this; omega
  | case3 now fired h n x T hlt ih =>
    have h1 := grp_rest n ((n, x) :: T)
    rw [adv_go h (by omega), ih (srt_rest hs) (fun p hp => hg p (mem_rest.1 hp).1) (by simp only [List.length_append]; omega), List.append_assoc, grp_idsOf hs (head_le hs)]
  | case4 now L fired h => omega
theorem advR_all {now tt most : Int} {L : List (Int × Int)} (h : advOk now tt most = true) (hs : Srt L) (hL : ∀ p ∈ L, p.1 ≤ tt) (hl : (L.length : Int) < most) : advR now L tt most = ⟨idsOf L, tt, 0, tt, []⟩ := by
  unfold advR
  rw [h, adv_all now L [] hs hL (by simp; omega)]
  rfl
/-- The order of the rest is the same. -/
theorem delT_ids {L M : List (Int × Int)} {k : Int} (hL : Srt L) (hM : Srt M) (h : ∀ d x, x ≠ k → ((d, x) ∈ L ↔ (d, x) ∈ M)) : (idsOf L).filter (fun y => !decide (y = k)) = (idsOf M).filter (fun y => !decide (y = k)) := by
  have : delT k L = delT k M := srt_ext (srt_delT hL) (srt_delT hM) fun p => by
    rw [mem_delT, mem_delT]
    constructor
    · rintro ⟨h1, h2⟩; exact ⟨(h p.1 p.2 h2).1 h1, h2⟩
    · rintro ⟨h1, h2⟩; exact ⟨(h p.1 p.2 h2).2 h1, h2⟩
  have e : ∀ K : List (Int × Int), (idsOf K).filter (fun y => !decide (y = k)) = (delT k K).map (·.2) := fun K => by
    unfold idsOf delT
    rw [List.filter_map]
    rfl
  rw [e, e, this]
theorem delT_len {L : List (Int × Int)} {d k : Int} (hn : (L.map (·.2)).Nodup) (hm : (d, k) ∈ L) : (delT k L).length + 1 = L.length := by
  induction L with
  | nil => simp at hm
  | cons a T ih =>
    have hn' := List.nodup_cons.1 hn
    by_cases e : a.2 = k
    · have : delT k T = T := delT_new fun p hp e' => hn'.1 (by show a.2 ∈ _; rw [e, ← e']; exact List.mem_map.2 ⟨p, hp, rfl⟩)
      unfold delT at this ⊢
      simp [e, this]
    · have hm' : (d, k) ∈ T := by
        rcases List.mem_cons.1 hm with e' | h
        · rw [← e'] at e; exact absurd rfl e
        · exact h
      have := ih hn'.2 hm'
      unfold delT at this ⊢
      simp [e] at this ⊢
      omega
theorem filter_get {X : List Int} {q : Int → Bool} {i : Nat} (hi : i < X.length) (hp : q X[i] = true) : (X.filter q)[((X.take i).filter q).length]? = some X[i] := by
  have e : X.filter q = (X.take i).filter q ++ X[i] :: (X.drop (i + 1)).filter q := by
    conv => lhs; rw [← List.take_append_drop i X, List.filter_append, List.drop_eq_getElem_cons hi, List.filter_cons_of_pos hp]
  rw [e, List.getElem?_append_right (Nat.le_refl _)]
  simp
theorem filter_step {X : List Int} {q : Int → Bool} {i : Nat} (hi : i < X.length) : ((X.take (i + 1)).filter q).length = ((X.take i).filter q).length + (if q X[i] then 1 else 0) := by
  rw [List.take_add_one, List.filter_append, List.length_append, List.getElem?_eq_getElem hi]
  by_cases h : q X[i] = true
  · simp [h]
  · simp [h]
set_option maxRecDepth 100000 in
set_option maxHeartbeats 8000000 in
theorem wheelSets_any (w : World) (A : Option Addr) (cap : Nat) (l : List Int) (rd : Rd1 (Value.int .i64) w A l) (hc : l.length ≤ cap) (hm : cap ≤ maxLen) (ok : ∀ y ∈ l, (Lit.int .i64 y).wf = true) (wh : Int) (hwh : (Lit.int .i64 wh).wf = true) (ag : Int) (hag : (Lit.int .i64 ag).wf = true) :
    Calls Try.prog 6 #[.slice A l.length cap, .int .i64 wh, .int .i64 ag] w fun e w' => e = .returned (.bool true) ∧ Below w.heap.size w w' := by
  refine Calls.mono (R := fun e w' => e = .returned (.bool true) ∧ Upd w w' Nope) ?_ (fun e w' ⟨h, u⟩ => ⟨h, u.below (fun _ h => h.elim)⟩)
  have hlm : l.length ≤ 9223372036854775807 := by unfold maxLen at hm; omega
  have HA := Lib.hid (awake_any w)
  have HRD := Lib.hid rd
  clear rd hc hm ok
  go_enter Try.func6, Try.ntmps6
  go_wp2_with fail
  refine HA.out.mono ?_
  rintro e w1 ⟨rfl, u1⟩
  have U1 := Lib.hid u1
  clear HA u1
  by_cases hin : l.length ≠ 0 ∧ l.length ≤ 60 ∧ 0 ≤ wh ∧ 1 ≤ ag ∧ ag ≤ 1073741824
  · obtain ⟨h0, h1, h2, h3, h4⟩ := hin
    have HNW := Lib.hid (at_new 0 w1)
    have d0 : ((l.length : Int) == 0) = false := by simpa using h0
    have d1 : decide (60 < (l.length : Int)) = false := by simp; omega
    have d2 : decide (wh < 0) = false := by simp; omega
    have d3 : decide (ag < 1) = false := by simp; omega
    have d4 : decide (1073741824 < ag) = false := by simp; omega
    obtain ⟨kn, hkn⟩ : ∃ kn : Nat, Int.tmod wh (l.length : Int) = (kn : Int) := ⟨(Int.tmod wh l.length).toNat, by
      have := Int.tmod_nonneg (l.length : Int) h2
      omega⟩
    have hknl : kn < l.length := by
      have := Int.tmod_lt_of_pos wh (show (0 : Int) < l.length by omega)
      omega
    go_wp2_with fail
    refine HNW.out.mono ?_
    rintro e w2 ⟨_, hx, u2⟩
    obtain ⟨g, F, rfl, hA, hf⟩ := hx (by decide)
    have hO : Own w w2 g F 0 [] := ⟨hA, fun i hi => by have := hf i hi; have := U1.out.size; omega, U1.out.nn u2⟩
    have HO := Lib.hid hO
    have HNW := Lib.hid (at_new 0 w2)
    clear hO hA hf u2 hx
    go_wp2_with fail
    refine HNW.out.mono ?_
    rintro e w3 ⟨_, hx, u3⟩
    obtain ⟨g2, G, rfl, hA, hf⟩ := hx (by decide)
    have hT : Two w w3 g F 0 [] g2 G 0 [] := ⟨HO.out.nn u3, ⟨hA, fun i hi => by have := hf i hi; have := HO.out.upd.size; omega, HO.out.upd.nn u3⟩, fun i hi hi2 => by have := HO.out.at_.lt hi; have := hf i hi2; omega⟩
    have HT := Lib.hid hT
    clear hT hA hf u3 hx HNW HO
    go_wp2_with fail
    clear d0 d1 d2 d3 d4
    go_loopw [12] (fun i wr => ∃ (k : Nat) (F' G' : Nat → Prop) (L : List (Int × Int)), k ≤ l.length ∧ i = .int .i64 k ∧ Two w wr g F' 0 L g2 G' 0 L ∧ SetK 0 l k L ∧ ∀ p ∈ L, p.1 ≤ 1073741824) (fun i _ => l.length - (intOf i).toNat)
    case atStart => exact ⟨0, F, G, [], by omega, rfl, HT.out, SetK.start 0 l, fun p hp => by simp at hp⟩
    case round =>
      obtain ⟨k, F1, G1, L, hk, rfl, hT, hS, hB⟩ := hrel
      by_cases hkl : k < l.length
      · obtain ⟨ad, rfl, hcell⟩ := (HRD.out.upd hT.a.upd (fun _ h => h.elim)) k hkl
        have hS1 := hS.next hkl
        by_cases hb : 0 ≤ l[k] ∧ l[k] ≤ 1073741824
        · have hC := hT.a.at_.set_ (k : Int) l[k] (okI_of (by omega) (by omega))
          obtain ⟨t1, t2⟩ := setT_of (now := 0) (L := L) (id := (k : Int)) (due := l[k]) (by omega) hb.1 (by omega)
          rw [t1, t2] at hC
          have hB1 : ∀ p ∈ setL 0 L k l[k], p.1 ≤ 1073741824 := fun p hp => by
            rcases mem_insT.1 hp with rfl | hp
            · show max l[k] (0 + 1) ≤ _
              omega
            · exact hB p (mem_delT.1 hp).1
          have d1 : decide (l[k] < 0) = false := by simp; omega
          have d2 : decide (1073741824 < l[k]) = false := by simp; omega
          have HC := Lib.hid hC
          have HS := Lib.hid hS1
          have HT1 := Lib.hid hT
          have HB1 := Lib.hid hB1
          have HHB := Lib.hid hb
          have HE := Lib.hid (And.intro t1 t2)
          have HCL := Lib.hid (fun (wx : World) (u : Upd w wx Nope) => (HRD.out.upd u (fun _ h => h.elim)).at_ k hkl)
          clear hC hS1 hT t1 t2 hS hb hB1 hB
          generalize l[k] = v at *
          go_wp2_with fail
          refine HC.out.mono ?_
          rintro e w4 ⟨rfl, F4, hA4, hg4⟩
          have hT4 := HT1.out.stepA hg4 hA4
          have hcell4 := HCL.out w4 hT4.a.upd
          have hC := hT4.b.at_.set_ (k : Int) v (okI_of (by omega) (by omega))
          rw [HE.out.1, HE.out.2] at hC
          have HC := Lib.hid hC
          have HT4 := Lib.hid hT4
          clear hA4 hg4 hcell hC hT4 d1 d2
          go_wp2_with fail
          refine HC.out.mono ?_
          rintro e w5 ⟨rfl, G5, hA5, hg5⟩
          have HT5 := Lib.hid (HT4.out.stepB hg5 hA5)
          clear hA5 hg5 hcell4
          go_wp2_with fail
          go_roundw
          case rel => exact ⟨k + 1, F4, G5, _, by omega, by go_num, HT5.out, HS.out, HB1.out⟩
          case measure => simp [intOf]; omega
        · have hbb : decide (l[k] < 0) = true ∨ (decide (l[k] < 0) = false ∧ decide (1073741824 < l[k]) = true) := by simp; omega
          have HU := Lib.hid hT.a.upd
          clear hT hS hS1 hb hB
          generalize l[k] = v at *
          rcases hbb with d1 | ⟨d1, d2⟩
          all_goals
            go_wp2
            go_returns
            exact ⟨rfl, HU.out⟩
      · obtain rfl : k = l.length := by omega
        have hmem : (max l[kn] (0 + 1), (kn : Int)) ∈ L := (hS.2 _ _).2 ⟨kn, hknl, hknl, rfl, rfl⟩
        obtain ⟨t1, t2⟩ := setT_of (now := 0) (L := L) (id := (kn : Int)) (due := ag) (by omega) (by omega) (by omega)
        have hdl := delT_len hT.a.at_.ids hmem
        have hLn := hS.1
        have hLa : (setL 0 L kn ag).length = l.length := by unfold setL; rw [insT_len]; omega
        have hLb : (delT kn L).length = l.length - 1 := by omega
        have hC := hT.a.at_.set_ (kn : Int) ag (okI_of (by omega) (by omega))
        rw [t1, t2] at hC
        have hany : L.any (fun p => decide (p.2 = (kn : Int))) = true := List.any_eq_true.2 ⟨_, hmem, by simp⟩
        have hnok : ∀ p ∈ delT kn L, p.2 ≠ (kn : Int) := fun p hp => (mem_delT.1 hp).2
        have hany2 : (delT kn L).any (fun p => decide (p.2 = (kn : Int))) = false := by
          rw [List.any_eq_false]
          intro p hp
          simpa using hnok p hp
        have hdd : delT kn (delT kn L) = delT kn L := delT_new hnok
        have hmA : (ag, (kn : Int)) ∈ setL 0 L kn ag := by
          unfold setL
          rw [mem_insT]
          left
          rw [show max ag (0 + 1) = ag by omega]
        have hbA : ∀ p ∈ setL 0 L kn ag, p.1 ≤ 2147483648 := fun p hp => by
          rcases mem_insT.1 hp with rfl | hp
          · show max ag (0 + 1) ≤ _
            omega
          · have := hB p (mem_delT.1 hp).1; omega
        have hbB : ∀ p ∈ delT kn L, p.1 ≤ 2147483648 := fun p hp => by have := hB p (mem_delT.1 hp).1; omega
        have hmm : ∀ d x, x ≠ (kn : Int) → ((d, x) ∈ setL 0 L kn ag ↔ (d, x) ∈ delT kn L) := fun d x hx => by
          unfold setL
          rw [mem_insT]
          constructor
          · rintro (e | h)
            · cases e; exact absurd rfl hx
            · exact h
          · exact .inr
        have HDD := Lib.hid (And.intro hany (And.intro hany2 hdd))
        clear hany hany2 hdd t1 t2 hdl hmem hS hB
        generalize setL 0 L kn ag = LA at *
        generalize hLBe : delT kn L = LB at *
        have HC := Lib.hid hC
        have HT := Lib.hid hT
        have HP := Lib.hid (And.intro hmA (And.intro hbA (And.intro hbB (And.intro hmm (And.intro hnok hLBe)))))
        have HLA := Lib.hid hLa
        have HLB := Lib.hid hLb
        have okn := okI_of (a := (kn : Int)) (by omega) (by omega)
        have hw1 : wrap64 ((l.length : Int) - 1) = ((l.length - 1 : Nat) : Int) := by go_arith
        clear hC hT hmA hbA hbB hmm hnok hLa hLb hLn
        go_wp2_with fail
        refine HC.out.mono ?_
        rintro e w4 ⟨rfl, F4, hA4, hg4⟩
        have hT4 := HT.out.stepA hg4 hA4
        have hC := hT4.b.at_.cancel_ kn okn
        rw [HDD.out.1, HP.out.2.2.2.2.2] at hC
        have HC := Lib.hid hC
        have HT := Lib.hid hT4
        clear hA4 hg4 hC hT4
        go_wp2_with fail
        refine HC.out.mono ?_
        rintro e w5 ⟨rfl, G5, hA5, hg5⟩
        have hT5 := HT.out.stepB hg5 hA5
        have hC := hT5.b.at_.cancel_ kn okn
        rw [HDD.out.2.1, HDD.out.2.2] at hC
        have HC := Lib.hid hC
        have HT := Lib.hid hT5
        clear hA5 hg5 hC hT5
        go_wp2_with fail
        refine HC.out.mono ?_
        rintro e w6 ⟨rfl, G6, hA6, hg6⟩
        have hT6 := HT.out.stepB hg6 hA6
        have hC := hT6.a.at_.len_
        have hC2 := hT6.b.at_.len_
        rw [HLA.out] at hC
        rw [HLB.out] at hC2
        have HC := Lib.hid hC
        have HC2 := Lib.hid hC2
        have HT := Lib.hid hT6
        clear hA6 hg6 hC hC2 hT6
        go_wp2_with fail
        refine HC.out.mono ?_
        rintro e w7 ⟨rfl, rfl⟩
        go_wp2_with fail
        refine HC2.out.mono ?_
        rintro e w8 ⟨rfl, rfl⟩
        have hC := HT.out.a.at_.due_ kn okn
        rw [dueL_some (fun d' h' => HT.out.a.at_.uniq h' HP.out.1) HP.out.1] at hC
        have HC := Lib.hid hC
        clear hC
        go_wp2_with fail
        refine HC.out.mono ?_
        rintro e w9 ⟨rfl, F9, hA9, hg9⟩
        have hT9 := HT.out.stepA hg9 hA9
        have hC := hT9.b.at_.due_ kn okn
        rw [dueL_none HP.out.2.2.2.2.1] at hC
        have HC := Lib.hid hC
        have HT := Lib.hid hT9
        clear hA9 hg9 hC hT9
        go_wp2_with fail
        refine HC.out.mono ?_
        rintro e w10 ⟨rfl, G10, hA10, hg10⟩
        have hT10 := HT.out.stepB hg10 hA10
        have hC := hT10.a.at_.adv_ (by rw [HLA.out]; omega) 2147483648 1048576
        rw [advR_all (by decide) hT10.a.at_.srt HP.out.2.1 (by rw [HLA.out]; omega)] at hC
        have HC := Lib.hid hC
        have HT := Lib.hid hT10
        have HGL := Lib.hid (fun i (h : G10 i) => hT10.b.at_.lt h)
        have HX := Lib.hid (show (idsOf LA).length = l.length by unfold idsOf; rw [List.length_map, HLA.out])
        have HY := Lib.hid (show (idsOf LB).length = l.length - 1 by unfold idsOf; rw [List.length_map, HLB.out])
        have HXY := Lib.hid (show (idsOf LA).filter (fun y => !decide (y = (kn : Int))) = idsOf LB by
          rw [delT_ids hT10.a.at_.srt hT10.b.at_.srt HP.out.2.2.2.1]
          refine List.filter_eq_self.2 fun y hy => ?_
          obtain ⟨p, hp, rfl⟩ := List.mem_map.1 hy
          simpa using HP.out.2.2.2.2.1 p hp)
        clear hA10 hg10 hC hT10
        rw [HX.out] at HC
        go_wp2_with fail
        refine HC.out.mono ?_
        rintro e w11 ⟨A11, cap11, F11, rfl, hr11, hA11, hg11, hd11⟩
        have hT11 := HT.out.stepA hg11 hA11
        have hC := hT11.b.at_.adv_ (by rw [HLB.out]; omega) 2147483648 1048576
        rw [advR_all (by decide) hT11.b.at_.srt HP.out.2.2.1 (by rw [HLB.out]; omega)] at hC
        have HC := Lib.hid hC
        have HT := Lib.hid hT11
        have HR := Lib.hid hr11
        have HD := Lib.hid hd11
        clear hA11 hg11 hC hT11 hr11 hd11
        rw [HY.out] at HC
        go_wp2_with fail
        refine HC.out.mono ?_
        rintro e w12 ⟨A12, cap12, G12, rfl, hr12, hA12, hg12, hd12⟩
        have hT12 := HT.out.stepB hg12 hA12
        have HU := Lib.hid hT12.a.upd
        have HRA := Lib.hid (rd1_away HR.out hg12.upd (fun ad e hf => by have h1 := (HD.out ad e).1; have h2 := HGL.out _ hf; omega))
        have HRB := Lib.hid hr12
        have HX2 := Lib.hid HX.out
        have HY2 := Lib.hid HY.out
        have HXY2 := Lib.hid HXY.out
        clear hA12 hg12 hT12 hr12 hd12 HC HX HY HXY HT HR
        go_wp2_with fail
        generalize idsOf LA = X at *
        generalize idsOf LB = Y at *
        clear hw1
        go_loopw [23, 24] (fun c i wr => ∃ k : Nat, k ≤ l.length ∧ i = .int .i64 k ∧ c = .int .i64 ((X.take k).filter (fun y => !decide (y = (kn : Int)))).length ∧ Drew w12 wr) (fun _ i _ => l.length - (intOf i).toNat)
        case atStart => exact ⟨0, by omega, rfl, by simp, Drew.refl _⟩
        case round =>
          obtain ⟨k, hk, rfl, rfl, hdr⟩ := hrel
          have HDR := Lib.hid hdr
          by_cases hkl : k < l.length
          · have hkX : k < X.length := by rw [HX2.out]; exact hkl
            obtain ⟨q, rfl, hq⟩ := (HRA.out.of_drew hdr) k hkX
            have hst := filter_step (q := fun y => !decide (y = (kn : Int))) hkX
            have hge := filter_get (q := fun y => !decide (y = (kn : Int))) hkX
            rw [HXY2.out] at hge
            have HST := Lib.hid hst
            clear hst
            by_cases he : X[k] = (kn : Int)
            · have hee : (X[k] == (kn : Int)) = true := by simpa using he
              have hcn : ((X.take (k + 1)).filter (fun y => !decide (y = (kn : Int)))).length = ((X.take k).filter (fun y => !decide (y = (kn : Int)))).length := by rw [HST.out]; simp [he]
              have HCN := Lib.hid hcn
              rw [he] at hq
              clear hge hcn hdr he hee
              generalize ((X.take k).filter (fun y => !decide (y = (kn : Int)))).length = c at *
              go_wp2_with fail
              go_roundw
              case rel => exact ⟨k + 1, by omega, by go_num, by rw [HCN.out], HDR.out⟩
              case measure => simp [intOf]; omega
            · have hee : (X[k] == (kn : Int)) = false := by simpa using he
              have hcn : ((X.take (k + 1)).filter (fun y => !decide (y = (kn : Int)))).length = ((X.take k).filter (fun y => !decide (y = (kn : Int)))).length + 1 := by rw [HST.out]; simp [he]
              have HCN := Lib.hid hcn
              have hg := hge (by simpa using he)
              have hjl : ((X.take k).filter (fun y => !decide (y = (kn : Int)))).length < Y.length := (List.getElem?_eq_some_iff.1 hg).1
              obtain ⟨r, rfl, hr⟩ := (HRB.out.of_drew hdr) _ hjl
              rw [(List.getElem?_eq_some_iff.1 hg).2] at hr
              have hjl2 : ((X.take k).filter (fun y => !decide (y = (kn : Int)))).length < l.length - 1 := by rw [← HY2.out]; exact hjl
              clear hge hcn hdr he hg hjl
              generalize ((X.take k).filter (fun y => !decide (y = (kn : Int)))).length = c at *
              generalize X[k] = v at *
              generalize hmm : l.length - 1 = m at *
              have hjd : decide ((m : Int) ≤ (c : Int)) = false := by simp; omega
              have hjd2 : ¬ m ≤ c := by omega
              have hjd3 : decide (m ≤ c) = false := by simpa using hjd2
              have hmle : m ≤ 60 := by omega
              clear hmm
              go_wp2_with fail
              go_big_region
              go_wp2_with fail
              go_roundw
              case rel => exact ⟨k + 1, by omega, by go_num, by rw [HCN.out]; go_num, HDR.out.drew⟩
              case measure => simp [intOf]; omega
          · obtain rfl : k = l.length := by omega
            have hcl : ((X.take l.length).filter (fun y => !decide (y = (kn : Int)))).length = l.length - 1 := by
              rw [← HX2.out, List.take_length, HXY2.out, HY2.out, HX2.out]
            have HUE := Lib.hid (HU.out.nn (hdr.upd Nope))
            rw [hcl]
            clear hcl hdr
            go_wp2_with fail
            go_returns
            exact ⟨rfl, HUE.out⟩
  · have hbb : ((l.length : Int) == 0) = true ∨ (((l.length : Int) == 0) = false ∧ decide (60 < (l.length : Int)) = true) ∨ (((l.length : Int) == 0) = false ∧ decide (60 < (l.length : Int)) = false ∧ decide (wh < 0) = true) ∨ (((l.length : Int) == 0) = false ∧ decide (60 < (l.length : Int)) = false ∧ decide (wh < 0) = false ∧ decide (ag < 1) = true) ∨ (((l.length : Int) == 0) = false ∧ decide (60 < (l.length : Int)) = false ∧ decide (wh < 0) = false ∧ decide (ag < 1) = false ∧ decide (1073741824 < ag) = true) := by simp only [decide_eq_true_eq, decide_eq_false_iff_not, beq_iff_eq, beq_eq_false_iff_ne]; omega
    clear hin
    rcases hbb with d1 | ⟨d1, d2⟩ | ⟨d1, d2, d3⟩ | ⟨d1, d2, d3, d4⟩ | ⟨d1, d2, d3, d4, d5⟩
    all_goals
      go_wp2
      go_returns
      exact ⟨rfl, U1.out⟩
end Go.Proofs.Ytejelihioendnaa
