/- Two sorted neighbours merged: a row and one entry. -/
import Derived.Test.YthpilbooolgkiaaMga
set_option linter.unusedVariables false
set_option linter.unusedSimpArgs false
namespace Go.Proofs.Ythpilbooolgkiaa
open Go.RowKit

/-- An entry on its way down through a row. -/
def mvL (P L : List En) (y : En) (S : List En) (t : Nat) : List En := P ++ L.take t ++ y :: (L.drop t ++ S)
theorem mvL_step {P L S : List En} {y : En} {t k : Nat} (ht : t < L.length) (hk : k = P.length + t) : ∃ v, (mvL P L y S (t + 1))[k + 1]? = some y ∧ (mvL P L y S (t + 1))[k]? = some v ∧ ((mvL P L y S (t + 1)).set (k + 1) v).set k y = mvL P L y S t := by
  have e1 : L.drop t = L[t] :: L.drop (t + 1) := List.drop_eq_getElem_cons ht
  have e0 : L.take (t + 1) = L.take t ++ [L[t]] := List.take_succ_eq_append_getElem ht
  have l1 : (P ++ L.take t).length = k := by simp; omega
  have l2 : (P ++ L.take t ++ [L[t]]).length = k + 1 := by simp; omega
  have e2 : mvL P L y S (t + 1) = (P ++ L.take t ++ [L[t]]) ++ y :: (L.drop (t + 1) ++ S) := by
    unfold mvL; rw [e0]; simp only [List.append_assoc, List.cons_append, List.nil_append]
  have e3 : mvL P L y S (t + 1) = (P ++ L.take t) ++ L[t] :: (y :: (L.drop (t + 1) ++ S)) := by
    rw [e2]; simp only [List.append_assoc, List.cons_append, List.nil_append]
  refine ⟨L[t], ?_, ?_, ?_⟩
  · rw [e2, ← l2]; exact at_mid _ _ _
  · rw [e3, ← l1]; exact at_mid _ _ _
  · rw [e2]
    have e4 : ((P ++ L.take t ++ [L[t]]) ++ y :: (L.drop (t + 1) ++ S)).set (k + 1) L[t] = (P ++ L.take t) ++ L[t] :: (L[t] :: (L.drop (t + 1) ++ S)) := by
      rw [← l2, set_mid]; simp only [List.append_assoc, List.cons_append, List.nil_append]
    rw [e4, ← l1, set_mid]
    unfold mvL
    rw [e1]
    simp only [List.append_assoc, List.cons_append, List.nil_append]
theorem mvL_start (P L S : List En) (y : En) : mvL P L y S L.length = P ++ L ++ [y] ++ S := by simp [mvL]
theorem mvL_end {ky : En → Int} {P L S : List En} {y : En} {t : Nat} (hs : Sd ky L) (h1 : ∀ e ∈ L.take t, ky e ≤ ky y) (h2 : ∀ e ∈ L.drop t, ky y < ky e) : mvL P L y S t = P ++ srtK ky (L ++ [y]) ++ S := by
  have e : L.take t ++ y :: L.drop t = srtK ky (L ++ [y]) := by
    rw [← List.take_append_drop t L] at hs
    have h3 := ins_end (X1 := L.take t) (X2 := L.drop t) (T := L) (x := y) hs h2 h1 (by rw [List.take_append_drop]; exact SameBy.refl _)
    exact h3
  rw [← e]
  simp [mvL]
set_option maxRecDepth 100000 in
set_option maxHeartbeats 8000000 in
theorem merge_right (w : World) (q cap : Nat) (P L S : List En) (y : En) (hL2 : 2 ≤ L.length) (pN pR g : Nat) (now age : Int) (a m b n : Nat) (h : Mg w q cap P L [y] S pN pR g now age a m b n) :
    Calls Try.prog 44 #[.slice (some ⟨q, 0, none⟩) n cap, .int .i64 a, .int .i64 m, .int .i64 b, askF pN pR] w (MgPost w q cap P L [y] S now age) := by
  have hmb : b = m + 1 := by rw [h.hm, h.hb]; simp
  have ham : a + 2 ≤ m := by rw [h.hm, h.ha]; omega
  have hbn : b ≤ n := by rw [h.hb, h.hn]; omega
  have hn1 := h.n1
  have hy : (P ++ L ++ [y] ++ S)[m]? = some y := by
    have := at_mid (P ++ L) y S
    rw [show (P ++ L).length = m by rw [h.hm]; simp] at this
    simpa using this
  have d0 : ((m : Int) - a == 1) = false := by simp; omega
  have d1 : ((b : Int) - m == 1) = true := by simp; omega
  have hmb2 : m ≤ b := by omega
  have H := Lib.hid h
  have HX := Lib.hid hy
  have HMB := Lib.hid hmb
  clear h hy hmb hL2
  unfold askF
  go_enter Try.func44, Try.ntmps44
  go_wp2
  clear d0 d1
  go_loopw [14, 15] (fun i j wr => ∃ s t : Nat, i = .int .i64 s ∧ j = .int .i64 t ∧ a ≤ s ∧ s ≤ t ∧ t ≤ m ∧ Upd w wr Nope ∧ (∀ d e, a ≤ d → d < s → (P ++ L ++ [y] ++ S)[d]? = some e → e.key now age ≤ y.key now age) ∧ (∀ d e, t ≤ d → d < m → (P ++ L ++ [y] ++ S)[d]? = some e → y.key now age < e.key now age)) (fun i j _ => (intOf j).toNat - (intOf i).toNat)
  case atStart => exact ⟨a, m, rfl, rfl, Nat.le_refl _, by omega, Nat.le_refl _, Upd.refl _ _, fun d e h1 h2 => by omega, fun d e h1 h2 => by omega⟩
  case round =>
    obtain ⟨s, t, rfl, rfl, hs, hst, htb, hU, hlo, hhi⟩ := hrel
    by_cases hlt : s < t
    · have hu := half_u s t (by omega)
      obtain ⟨hh, hhe⟩ : ∃ hh, hh = (s + t) / 2 := ⟨_, rfl⟩
      have hdiv : ((s : Int) + t) / 2 = (hh : Int) := by omega
      have hb1 : s ≤ hh := by omega
      have hb2 : hh < t := by omega
      have hb3 : hh < n := by omega
      have han : m < n := by have := HMB.out; omega
      obtain ⟨x, hx⟩ := H.out.get hb3
      have HARR := Lib.hid (H.out.arr.upd hU (fun h => h))
      have HCAP := Lib.hid (H.out.cap.upd hU (fun h => h) (fun h => h) (fun h => h))
      have HU := Lib.hid hU
      have HLO := Lib.hid hlo
      have HHI := Lib.hid hhi
      have HE1 := Lib.hid HX.out
      have HE2 := Lib.hid hx
      have HK1 := Lib.hid (H.out.ok y (by simp))
      have HK2 := Lib.hid (H.out.okL (by omega) (by omega) hx)
      have HHE := Lib.hid hhe
      clear hU hlo hhi hx hhe
      obtain ⟨x0, x1, x2, x3⟩ := HARR.out.uw HE1.out
      obtain ⟨y0, y1, y2, y3⟩ := HARR.out.uw HE2.out
      have HAS := Lib.hid (fun z : UW wr => ask_any z.val pN pR g now age (HCAP.out.upd z.ok (fun h => h) (fun h => h) (fun h => h)) y x HK1.out HK2.out H.out.t0 H.out.t1 H.out.g0 H.out.g1)
      go_upto_region 17 with (fail)
      refine region_uw (by kernel_rfl) (by kernel_rfl) ?_
      repeat (first
        | go_big_quiet_skip
        | (go_big_quiet_want; go_big_quiet_op; first | go_big_quiet_on | go_big_quiet_call ((go_at_call 39; with_reducible exact UW.call (HAS.out _)))))
      refine wpQuiet_nil ?_
      rintro _ ⟨z, rfl⟩
      clear x0 x1 x2 x3 y0 y1 y2 y3 HAS
      have HZ := Lib.hid (HU.out.nn z.ok)
      by_cases hc : y.key now age < x.key now age
      · have q1 : cmp3 (x.rank now age) (y.rank now age) < 0 := of_decide_eq_true (ask_lt hc)
        have q3 : (!decide (cmp3 (x.rank now age) (y.rank now age) < 0)) = false := by rw [ask_lt hc]; rfl
        have HC := Lib.hid hc
        clear hc
        go_wp2
        · have hbad : (!decide (cmp3 (x.rank now age) (y.rank now age) < 0)) = true := by assumption
          rw [q3] at hbad
          cases hbad
        go_roundw
        case rel => exact ⟨s, hh, rfl, by go_num, hs, hb1, by omega, HZ.out, HLO.out, fun d e h1 h2 he => by have := H.out.left (by omega) h1 h2 HE2.out he; have := HC.out; omega⟩
        case measure => simp [intOf]; omega
      · have q1 : ¬ cmp3 (x.rank now age) (y.rank now age) < 0 := of_decide_eq_false (ask_ge hc)
        have q2 : 0 ≤ cmp3 (x.rank now age) (y.rank now age) := Int.not_lt.1 q1
        have q3 : (!decide (cmp3 (x.rank now age) (y.rank now age) < 0)) = true := by rw [ask_ge hc]; rfl
        have HC := Lib.hid hc
        clear hc
        go_wp2
        rotate_left
        · have hbad : (!decide (cmp3 (x.rank now age) (y.rank now age) < 0)) = false := by assumption
          rw [q3] at hbad
          cases hbad
        go_roundw
        case rel => exact ⟨hh + 1, t, by go_num, rfl, by omega, by omega, htb, HZ.out, fun d e h1 h2 he => by have := H.out.left h1 (by omega) (by omega) he HE2.out; have := HC.out; omega, HHI.out⟩
        case measure => simp [intOf]; omega
    · obtain rfl : s = t := by omega
      have hpm : P.length = a := H.out.ha.symm
      have hbR : a + L.length = m := by have := H.out.hm; omega
      have HFIN := Lib.hid (show mvL P L y S (s - a) = P ++ srtK (En.key now age) (L ++ [y]) ++ S from mvL_end H.out.sl (fun e he => by
        obtain ⟨d, hd, he⟩ := List.mem_take_iff_getElem.1 he
        have h1 := at_L' (P := P) (L := L) (R := [y]) (S := S) (d := d) (by omega)
        rw [hpm, he] at h1
        exact hlo (a + d) e (by omega) (by omega) h1) (fun e he => by
        obtain ⟨d, hd, he⟩ := List.mem_drop_iff_getElem.1 he
        have h1 := at_L' (P := P) (L := L) (R := [y]) (S := S) (d := s - a + d) (by omega)
        rw [hpm, he] at h1
        exact hhi (a + (s - a + d)) e (by omega) (by omega) h1))
      have HAR0 := Lib.hid (show Arr wr q cap (mvL P L y S (m - a)) by rw [show m - a = L.length by omega, mvL_start]; exact H.out.arr.upd hU (fun h => h))
      have HU0 := Lib.hid (hU.mono (G := fun i => i = q) (fun _ _ h => h.elim))
      have HPM := Lib.hid (And.intro hpm hbR)
      clear hlo hhi hU hpm hbR hst
      go_wp2
      go_loopw [17] (fun i wr => ∃ k : Nat, i = .int .i64 k ∧ s ≤ k ∧ k ≤ m ∧ Arr wr q cap (mvL P L y S (k - a)) ∧ Upd w wr (fun i => i = q)) (fun i _ => (intOf i).toNat)
      case atStart => exact ⟨m, rfl, htb, Nat.le_refl _, HAR0.out, HU0.out⟩
      case round =>
        obtain ⟨k, rfl, hak, hks, hA, hU⟩ := hrel
        by_cases hlt : s < k
        · obtain ⟨k', rfl⟩ : ∃ k', k = k' + 1 := ⟨k - 1, by omega⟩
          obtain ⟨v, x1, x2, x3⟩ := mvL_step (P := P) (L := L) (S := S) (y := y) (t := k' - a) (k := k') (by have := HPM.out; omega) (by have := HPM.out; omega)
          rw [show k' - a + 1 = k' + 1 - a by omega] at x1 x2 x3
          have HI2 := Lib.hid (And.intro x1 (And.intro x2 (show k' + 1 ≠ k' by omega)))
          have HX3 := Lib.hid x3
          have HAR := Lib.hid hA
          have HUR := Lib.hid hU
          clear x1 x2 x3 hA hU
          have b1 : k' < n := by have := HMB.out; omega
          have b2 : k' + 1 < n := by have := HMB.out; omega
          go_upto_region 23 with (fail)
          have hAd : Arr wr.drew q cap (mvL P L y S (k' + 1 - a)) := HAR.out
          have hUd : Upd w wr (fun i => i = q) := HUR.out
          obtain ⟨X, hX⟩ : ∃ X : U2 q (k' + 1) (k') y v, X.val = wr.drew := ⟨U2.of hAd HI2.out.1 HI2.out.2.1, rfl⟩
          haveI : Nonempty AnyW := ⟨⟨w⟩⟩
          haveI : Nonempty (U2 q (k' + 1) (k') y v) := ⟨X⟩
          refine region_tree 15 [14, 13, 12, 11, 10, 9, 8, 7, 6, 5, 1, 0] (by kernel_rfl) (fun w' => ∃ z : U2 q (k' + 1) (k') y v, w' = z.val) (by kernel_rfl) (fun _ _ d _ _ h => by cases d <;> exact h) ⟨X, hX.symm⟩ ?_
          intro hR
          have HRG := Lib.hid hR
          have Xx0 := fun (z : U2 q (k' + 1) (k') y v) => z.x0
          have Xx1 := fun (z : U2 q (k' + 1) (k') y v) => z.x1
          have Xx2 := fun (z : U2 q (k' + 1) (k') y v) => z.x2
          have Xx3 := fun (z : U2 q (k' + 1) (k') y v) => z.x3
          have Xy0 := fun (z : U2 q (k' + 1) (k') y v) => z.y0
          have Xy1 := fun (z : U2 q (k' + 1) (k') y v) => z.y1
          have Xy2 := fun (z : U2 q (k' + 1) (k') y v) => z.y2
          have Xy3 := fun (z : U2 q (k' + 1) (k') y v) => z.y3
          clear hR
          refine WA.segP HRG.out 15 [2, 3, 4] rfl (by kernel_rfl) ?_
          simp only [opsAt_cons, opsAt_nil, List.getElem?_toArray, List.getElem?_cons_zero, List.getElem?_cons_succ, consO_some]
          repeat (first | go_big_quiet_skip | (go_big_quiet_want; go_big_quiet_op; go_big_quiet_on))
          refine wpQuiet_nil ?_
          refine WA.seg HRG.out 3 [0, 1, 5, 6, 7, 8, 9, 10, 11, 12, 13, 14] rfl (by kernel_rfl) ?_
          simp only [opsAt_cons, opsAt_nil, List.getElem?_toArray, List.getElem?_cons_zero, List.getElem?_cons_succ, consO_some]
          repeat (first | go_big_quiet_skip | (go_big_quiet_want; go_big_quiet_op; go_big_quiet_on))
          refine wpQuiet_nil ?_
          clear Xx0 Xx1 Xx2 Xx3 Xy0 Xy1 Xy2 Xy3
          have cx0 : wr.cell? ⟨q, (k' + 1) * 4, none⟩ = some (.int .i64 y.id) := by have := X.x0; rw [hX] at this; exact this
          have fx0 : wr.frozen? ⟨q, (k' + 1) * 4, none⟩ = false := hAd.frozen _
          have cx1 : wr.cell? ⟨q, (k' + 1) * 4 + 1, none⟩ = some (.string y.dest) := by have := X.x1; rw [hX] at this; exact this
          have fx1 : wr.frozen? ⟨q, (k' + 1) * 4 + 1, none⟩ = false := hAd.frozen _
          have cx2 : wr.cell? ⟨q, (k' + 1) * 4 + 2, none⟩ = some (.int .i64 y.pri) := by have := X.x2; rw [hX] at this; exact this
          have fx2 : wr.frozen? ⟨q, (k' + 1) * 4 + 2, none⟩ = false := hAd.frozen _
          have cx3 : wr.cell? ⟨q, (k' + 1) * 4 + 3, none⟩ = some (.int .i64 y.at_) := by have := X.x3; rw [hX] at this; exact this
          have fx3 : wr.frozen? ⟨q, (k' + 1) * 4 + 3, none⟩ = false := hAd.frozen _
          have cy0 : wr.cell? ⟨q, k' * 4, none⟩ = some (.int .i64 v.id) := by have := X.y0; rw [hX] at this; exact this
          have fy0 : wr.frozen? ⟨q, k' * 4, none⟩ = false := hAd.frozen _
          have cy1 : wr.cell? ⟨q, k' * 4 + 1, none⟩ = some (.string v.dest) := by have := X.y1; rw [hX] at this; exact this
          have fy1 : wr.frozen? ⟨q, k' * 4 + 1, none⟩ = false := hAd.frozen _
          have cy2 : wr.cell? ⟨q, k' * 4 + 2, none⟩ = some (.int .i64 v.pri) := by have := X.y2; rw [hX] at this; exact this
          have fy2 : wr.frozen? ⟨q, k' * 4 + 2, none⟩ = false := hAd.frozen _
          have cy3 : wr.cell? ⟨q, k' * 4 + 3, none⟩ = some (.int .i64 v.at_) := by have := X.y3; rw [hX] at this; exact this
          have fy3 : wr.frozen? ⟨q, k' * 4 + 3, none⟩ = false := hAd.frozen _
          have HDZ := Lib.hid (show Arr wr q cap (mvL P L y S (k' + 1 - a)) from hAd)
          have HUZ2 := Lib.hid hUd
          clear hX hAd hUd
          refine WA.mid 2 rfl (by kernel_rfl) ?_
          simp only [opsAt_cons, opsAt_nil, List.getElem?_toArray, List.getElem?_cons_zero, List.getElem?_cons_succ, consO_some]
          go_wp2_with fail
          clear cx0 cx1 cx2 cx3 cy0 cy1 cy2 cy3 fx0 fx1 fx2 fx3 fy0 fy1 fy2 fy3
          have hd5 : Arr (((((wr.setCell ⟨q, (k' + 1) * 4, none⟩ (.int .i64 v.id)).setCell ⟨q, (k' + 1) * 4 + 1, none⟩ (.string v.dest)).setCell ⟨q, (k' + 1) * 4 + 2, none⟩ (.int .i64 v.pri)).setCell ⟨q, (k' + 1) * 4 + 3, none⟩ (.int .i64 v.at_)).drew) q cap ((mvL P L y S (k' + 1 - a)).set (k' + 1) v) := HDZ.out.put (i := k' + 1) ((List.getElem?_eq_some_iff.1 HI2.out.1).1) v
          have hU5 : Upd w (((((wr.setCell ⟨q, (k' + 1) * 4, none⟩ (.int .i64 v.id)).setCell ⟨q, (k' + 1) * 4 + 1, none⟩ (.string v.dest)).setCell ⟨q, (k' + 1) * 4 + 2, none⟩ (.int .i64 v.pri)).setCell ⟨q, (k' + 1) * 4 + 3, none⟩ (.int .i64 v.at_)).drew) (fun i => i = q) := ((((HUZ2.out.set ⟨q, (k' + 1) * 4, none⟩ (.int .i64 v.id) (.inl rfl)).set ⟨q, (k' + 1) * 4 + 1, none⟩ (.string v.dest) (.inl rfl)).set ⟨q, (k' + 1) * 4 + 2, none⟩ (.int .i64 v.pri) (.inl rfl)).set ⟨q, (k' + 1) * 4 + 3, none⟩ (.int .i64 v.at_) (.inl rfl)).drew
          generalize ((((wr.setCell ⟨q, (k' + 1) * 4, none⟩ (.int .i64 v.id)).setCell ⟨q, (k' + 1) * 4 + 1, none⟩ (.string v.dest)).setCell ⟨q, (k' + 1) * 4 + 2, none⟩ (.int .i64 v.pri)).setCell ⟨q, (k' + 1) * 4 + 3, none⟩ (.int .i64 v.at_)).drew = w5 at hd5 hU5 ⊢
          obtain ⟨c0, c1, c2, c3⟩ := hd5.now (i := k') (e := v) (by rw [List.getElem?_set_ne HI2.out.2.2]; exact HI2.out.2.1)
          have f0 := hd5.frozen (k' * 4)
          have f1 := hd5.frozen (k' * 4 + 1)
          have f2 := hd5.frozen (k' * 4 + 2)
          have f3 := hd5.frozen (k' * 4 + 3)
          have HD5 := Lib.hid hd5
          have HU5 := Lib.hid hU5
          clear hd5 hU5
          refine ⟨trivial, ?_⟩
          refine WB.one 1 16 rfl (by kernel_rfl) ?_
          simp only [opsAt_cons, opsAt_nil, List.getElem?_toArray, List.getElem?_cons_zero, List.getElem?_cons_succ, consO_some]
          go_wp2_with fail
          refine ⟨trivial, ?_⟩
          refine WB.one 0 17 rfl (by kernel_rfl) ?_
          simp only [opsAt_cons, opsAt_nil, List.getElem?_toArray, List.getElem?_cons_zero, List.getElem?_cons_succ, consO_some]
          go_wp2_with fail
          clear c0 c1 c2 c3 f0 f1 f2 f3
          have hd6 : Arr (((((w5.setCell ⟨q, k' * 4, none⟩ (.int .i64 y.id)).setCell ⟨q, k' * 4 + 1, none⟩ (.string y.dest)).setCell ⟨q, k' * 4 + 2, none⟩ (.int .i64 y.pri)).setCell ⟨q, k' * 4 + 3, none⟩ (.int .i64 y.at_))) q cap (((mvL P L y S (k' + 1 - a)).set (k' + 1) v).set (k') y) := HD5.out.put (i := k') (by rw [List.length_set]; exact (List.getElem?_eq_some_iff.1 HI2.out.2.1).1) y
          have hU6 : Upd w (((((w5.setCell ⟨q, k' * 4, none⟩ (.int .i64 y.id)).setCell ⟨q, k' * 4 + 1, none⟩ (.string y.dest)).setCell ⟨q, k' * 4 + 2, none⟩ (.int .i64 y.pri)).setCell ⟨q, k' * 4 + 3, none⟩ (.int .i64 y.at_))) (fun i => i = q) := ((((HU5.out.set ⟨q, k' * 4, none⟩ (.int .i64 y.id) (.inl rfl)).set ⟨q, k' * 4 + 1, none⟩ (.string y.dest) (.inl rfl)).set ⟨q, k' * 4 + 2, none⟩ (.int .i64 y.pri) (.inl rfl)).set ⟨q, k' * 4 + 3, none⟩ (.int .i64 y.at_) (.inl rfl))
          have HD6 := Lib.hid hd6
          have HU6 := Lib.hid hU6
          clear hd6 hU6
          generalize ((((w5.setCell ⟨q, k' * 4, none⟩ (.int .i64 y.id)).setCell ⟨q, k' * 4 + 1, none⟩ (.string y.dest)).setCell ⟨q, k' * 4 + 2, none⟩ (.int .i64 y.pri)).setCell ⟨q, k' * 4 + 3, none⟩ (.int .i64 y.at_)) = w6 at HD6 HU6 ⊢
          refine ⟨trivial, ?_⟩
          refine WB.done_ (by kernel_rfl) ?_
          have HD8 := Lib.hid (show Arr w6 q cap (mvL P L y S (k' - a)) by
            have h := HD6.out
            rw [HX3.out] at h
            exact h)
          go_wp2
          go_roundw
          case rel => exact ⟨k', by go_num, by omega, by omega, HD8.out, HU6.out⟩
          case measure => simp [intOf]
        · obtain rfl : s = k := by omega
          have hf : Arr wr q cap (P ++ srtK (En.key now age) (L ++ [y]) ++ S) := by
            rw [← HFIN.out]
            exact hA
          have HF := Lib.hid (And.intro hf hU)
          clear hf hA hU
          go_wp2
          go_end0
          exact ⟨rfl, HF.out⟩
end Go.Proofs.Ythpilbooolgkiaa
