/- Two sorted neighbours merged: one entry into a row. -/
import Derived.Test.YthpilbooolgkiaaRot
set_option linter.unusedVariables false
set_option linter.unusedSimpArgs false
namespace Go.Proofs.Ythpilbooolgkiaa
open Go.RowKit

/-- An entry on its way up through a row. -/
def mvR (P : List En) (x : En) (R S : List En) (t : Nat) : List En := P ++ R.take t ++ x :: (R.drop t ++ S)
theorem mvR_step {P R S : List En} {x : En} {t k : Nat} (ht : t < R.length) (hk : k = P.length + t) : ∃ v, (mvR P x R S t)[k]? = some x ∧ (mvR P x R S t)[k + 1]? = some v ∧ ((mvR P x R S t).set k v).set (k + 1) x = mvR P x R S (t + 1) := by
  have e1 : R.drop t = R[t] :: R.drop (t + 1) := List.drop_eq_getElem_cons ht
  have l1 : (P ++ R.take t).length = k := by simp; omega
  have l2 : (P ++ R.take t ++ [x]).length = k + 1 := by simp; omega
  have l3 : (P ++ R.take t ++ [R[t]]).length = k + 1 := by simp; omega
  have e2 : mvR P x R S t = (P ++ R.take t ++ [x]) ++ R[t] :: (R.drop (t + 1) ++ S) := by
    unfold mvR; rw [e1]; simp only [List.append_assoc, List.cons_append, List.nil_append]
  refine ⟨R[t], ?_, ?_, ?_⟩
  · unfold mvR; rw [← l1]; exact at_mid _ _ _
  · rw [e2, ← l2]; exact at_mid _ _ _
  · unfold mvR
    have e3 : ((P ++ R.take t) ++ x :: (R.drop t ++ S)).set k R[t] = (P ++ R.take t) ++ R[t] :: (R.drop t ++ S) := by rw [← l1, set_mid]
    rw [e3]
    have e4 : (P ++ R.take t) ++ R[t] :: (R.drop t ++ S) = (P ++ R.take t ++ [R[t]]) ++ R[t] :: (R.drop (t + 1) ++ S) := by rw [e1]; simp only [List.append_assoc, List.cons_append, List.nil_append]
    rw [e4, ← l3, set_mid, List.take_succ_eq_append_getElem ht]
    simp only [List.append_assoc, List.cons_append, List.nil_append]
theorem mvR_start (P R S : List En) (x : En) : mvR P x R S 0 = P ++ [x] ++ R ++ S := by simp [mvR]
theorem mvR_end {ky : En → Int} {P R S : List En} {x : En} {t : Nat} (hs : Sd ky R) (h1 : ∀ y ∈ R.take t, ky y < ky x) (h2 : ∀ y ∈ R.drop t, ky x ≤ ky y) : mvR P x R S t = P ++ srtK ky ([x] ++ R) ++ S := by
  have e : R.take t ++ x :: R.drop t = srtK ky ([x] ++ R) := by
    rw [← List.take_append_drop t R] at hs
    obtain ⟨s1, s2, s3⟩ := sd_append.1 hs
    refine srtK_of (sd_append.2 ⟨s1, List.pairwise_cons.2 ⟨fun y hy => h2 y hy, s2⟩, fun a ha b hb => ?_⟩) ?_
    · rcases List.mem_cons.1 hb with rfl | hb
      · have := h1 a ha; omega
      · exact s3 a ha b hb
    · have : SameBy ky ((R.take t ++ [x]) ++ R.drop t) (([x] ++ R.take t) ++ R.drop t) := (SameBy.comm fun a ha b hb => by
        have : b = x := by simpa using hb
        have := h1 a ha
        subst b
        omega).append (SameBy.refl _)
      rw [List.append_assoc [x], List.take_append_drop] at this
      simpa using this
  rw [← e]
  simp [mvR]
/-- What a merge starts from. -/
structure Mg (w : World) (q cap : Nat) (P L R S : List En) (pN pR g : Nat) (now age : Int) (a m b n : Nat) : Prop where
  arr : Arr w q cap (P ++ L ++ R ++ S)
  sl : Sd (En.key now age) L
  sr : Sd (En.key now age) R
  l1 : 0 < L.length
  r1 : 0 < R.length
  ok : ∀ e ∈ L ++ R, e.ok
  cap : Cap w pN pR g now age
  qn : pN ≠ q ∧ pR ≠ q ∧ g ≠ q
  t0 : -2199023255552 ≤ now
  t1 : now ≤ 2199023255552
  g0 : 1 ≤ age
  g1 : age ≤ 1048576
  ha : a = P.length
  hm : m = P.length + L.length
  hb : b = P.length + L.length + R.length
  hn : n = P.length + L.length + R.length + S.length
  n1 : n ≤ 1000
def MgPost (w : World) (q cap : Nat) (P L R S : List En) (now age : Int) (e : Ending) (w' : World) : Prop :=
  e = .returned (.tuple #[]) ∧ Arr w' q cap (P ++ srtK (En.key now age) (L ++ R) ++ S) ∧ Upd w w' (fun i => i = q)
theorem at_R {P L R S : List En} {d : Nat} (h1 : P.length + L.length ≤ d) (h2 : d < P.length + L.length + R.length) : (P ++ L ++ R ++ S)[d]? = R[d - (P.length + L.length)]? := by
  have e2 : (P ++ L).length = P.length + L.length := by simp
  rw [List.append_assoc (P ++ L), List.getElem?_append_right (by omega), e2, List.getElem?_append_left (by omega)]
theorem at_R' {P L R S : List En} {d : Nat} (hd : d < R.length) : (P ++ L ++ R ++ S)[P.length + L.length + d]? = some R[d] := by
  rw [at_R (by omega) (by omega)]
  rw [show P.length + L.length + d - (P.length + L.length) = d by omega]
  exact List.getElem?_eq_getElem hd
theorem at_L {P L R S : List En} {d : Nat} (h1 : P.length ≤ d) (h2 : d < P.length + L.length) : (P ++ L ++ R ++ S)[d]? = L[d - P.length]? := by
  rw [List.append_assoc (P ++ L), List.append_assoc P, List.getElem?_append_right (by omega), List.getElem?_append_left (by omega)]
theorem at_L' {P L R S : List En} {d : Nat} (hd : d < L.length) : (P ++ L ++ R ++ S)[P.length + d]? = some L[d] := by
  rw [at_L (by omega) (by omega)]
  rw [show P.length + d - P.length = d by omega]
  exact List.getElem?_eq_getElem hd
theorem sd_get {ky : En → Int} {l : List En} (h : Sd ky l) {i j : Nat} {e e' : En} (hij : i ≤ j) (h1 : l[i]? = some e) (h2 : l[j]? = some e') : ky e ≤ ky e' := by
  obtain ⟨hi, rfl⟩ := List.getElem?_eq_some_iff.1 h1
  obtain ⟨hj, rfl⟩ := List.getElem?_eq_some_iff.1 h2
  rcases Nat.lt_or_eq_of_le hij with hlt | rfl
  · exact List.pairwise_iff_getElem.1 h i j hi hj hlt
  · exact Int.le_refl _
section
variable {w : World} {q cap : Nat} {P L R S : List En} {pN pR g : Nat} {now age : Int} {a m b n : Nat} (h : Mg w q cap P L R S pN pR g now age a m b n)
include h
theorem Mg.right {d d' : Nat} {e e' : En} (h1 : m ≤ d) (h2 : d ≤ d') (h3 : d' < b) (he : (P ++ L ++ R ++ S)[d]? = some e) (he' : (P ++ L ++ R ++ S)[d']? = some e') : e.key now age ≤ e'.key now age := by
  have hm := h.hm
  have hb := h.hb
  rw [at_R (by omega) (by omega)] at he he'
  exact sd_get h.sr (by omega) he he'
theorem Mg.left {d d' : Nat} {e e' : En} (h1 : a ≤ d) (h2 : d ≤ d') (h3 : d' < m) (he : (P ++ L ++ R ++ S)[d]? = some e) (he' : (P ++ L ++ R ++ S)[d']? = some e') : e.key now age ≤ e'.key now age := by
  have hm := h.hm
  have ha := h.ha
  rw [at_L (by omega) (by omega)] at he he'
  exact sd_get h.sl (by omega) he he'
theorem Mg.okR {d : Nat} {e : En} (h1 : m ≤ d) (h3 : d < b) (he : (P ++ L ++ R ++ S)[d]? = some e) : e.ok := by
  have hm := h.hm
  have hb := h.hb
  rw [at_R (by omega) (by omega)] at he
  exact h.ok e (List.mem_append_right _ (List.mem_of_getElem? he))
theorem Mg.okL {d : Nat} {e : En} (h1 : a ≤ d) (h3 : d < m) (he : (P ++ L ++ R ++ S)[d]? = some e) : e.ok := by
  have hm := h.hm
  have ha := h.ha
  rw [at_L (by omega) (by omega)] at he
  exact h.ok e (List.mem_append_left _ (List.mem_of_getElem? he))
theorem Mg.len : (P ++ L ++ R ++ S).length = n := by
  rw [h.hn]
  simp
  omega
theorem Mg.get {d : Nat} (hd : d < n) : ∃ e, (P ++ L ++ R ++ S)[d]? = some e := ⟨_, List.getElem?_eq_getElem (by rw [h.len]; exact hd)⟩
end
theorem half_u (i j : Nat) (h : i + j ≤ 4000) : IntKind.u64.wrap ((i : Int) + j) = (i : Int) + j := by
  simp only [IntKind.wrap, IntKind.bits, IntKind.signed]
  simp
  omega
set_option maxRecDepth 100000 in
set_option maxHeartbeats 8000000 in
theorem merge_left (w : World) (q cap : Nat) (P R S : List En) (x : En) (pN pR g : Nat) (now age : Int) (a m b n : Nat) (h : Mg w q cap P [x] R S pN pR g now age a m b n) :
    Calls Try.prog 44 #[.slice (some ⟨q, 0, none⟩) n cap, .int .i64 a, .int .i64 m, .int .i64 b, askF pN pR] w (MgPost w q cap P [x] R S now age) := by
  have hma : m = a + 1 := by rw [h.hm, h.ha]; simp
  have ham : a ≤ m := by omega
  have hmb : m ≤ b := by rw [h.hm, h.hb]; omega
  have hbn : b ≤ n := by rw [h.hb, h.hn]; omega
  have hn1 := h.n1
  have hx : (P ++ [x] ++ R ++ S)[a]? = some x := by
    have := at_mid P x (R ++ S)
    rw [← h.ha] at this
    simpa using this
  have d0 : ((m : Int) - a == 1) = true := by simp; omega
  have H := Lib.hid h
  have HX := Lib.hid hx
  have HMA := Lib.hid hma
  clear h hx hma
  unfold askF
  go_enter Try.func44, Try.ntmps44
  go_wp2
  clear d0
  go_loopw [10, 11] (fun i j wr => ∃ s t : Nat, i = .int .i64 s ∧ j = .int .i64 t ∧ m ≤ s ∧ s ≤ t ∧ t ≤ b ∧ Upd w wr Nope ∧ (∀ d e, m ≤ d → d < s → (P ++ [x] ++ R ++ S)[d]? = some e → e.key now age < x.key now age) ∧ (∀ d e, t ≤ d → d < b → (P ++ [x] ++ R ++ S)[d]? = some e → x.key now age ≤ e.key now age)) (fun i j _ => (intOf j).toNat - (intOf i).toNat)
  case atStart => exact ⟨m, b, rfl, rfl, Nat.le_refl _, hmb, Nat.le_refl _, Upd.refl _ _, fun d e h1 h2 => by omega, fun d e h1 h2 => by omega⟩
  case round =>
    obtain ⟨s, t, rfl, rfl, hs, hst, htb, hU, hlo, hhi⟩ := hrel
    by_cases hlt : s < t
    · have hu := half_u s t (by omega)
      obtain ⟨hh, hhe⟩ : ∃ hh, hh = (s + t) / 2 := ⟨_, rfl⟩
      have hdiv : ((s : Int) + t) / 2 = (hh : Int) := by omega
      have hb1 : s ≤ hh := by omega
      have hb2 : hh < t := by omega
      have hb3 : hh < n := by omega
      have han : a < n := by have := HMA.out; omega
      obtain ⟨y, hy⟩ := H.out.get hb3
      have HARR := Lib.hid (H.out.arr.upd hU (fun h => h))
      have HCAP := Lib.hid (H.out.cap.upd hU (fun h => h) (fun h => h) (fun h => h))
      have HU := Lib.hid hU
      have HLO := Lib.hid hlo
      have HHI := Lib.hid hhi
      have HE1 := Lib.hid hy
      have HE2 := Lib.hid HX.out
      have HK1 := Lib.hid (H.out.okR (by omega) (by omega) hy)
      have HK2 := Lib.hid (H.out.ok x (by simp))
      have HHE := Lib.hid hhe
      clear hU hlo hhi hy hhe
      obtain ⟨x0, x1, x2, x3⟩ := HARR.out.uw HE1.out
      obtain ⟨y0, y1, y2, y3⟩ := HARR.out.uw HE2.out
      have HAS := Lib.hid (fun z : UW wr => ask_any z.val pN pR g now age (HCAP.out.upd z.ok (fun h => h) (fun h => h) (fun h => h)) y x HK1.out HK2.out H.out.t0 H.out.t1 H.out.g0 H.out.g1)
      go_upto_region 5 with (fail)
      refine region_uw (by kernel_rfl) (by kernel_rfl) ?_
      repeat (first
        | go_big_quiet_skip
        | (go_big_quiet_want; go_big_quiet_op; first | go_big_quiet_on | go_big_quiet_call ((go_at_call 39; with_reducible exact UW.call (HAS.out _)))))
      refine wpQuiet_nil ?_
      rintro _ ⟨z, rfl⟩
      clear x0 x1 x2 x3 y0 y1 y2 y3 HAS
      have HZ := Lib.hid (HU.out.nn z.ok)
      by_cases hc : y.key now age < x.key now age
      · have q1 : cmp3 (x.rank now age) (y.rank now age) < 0 := of_decide_eq_true (ask_lt hc)
        have HC := Lib.hid hc
        clear hc
        go_wp2
        go_roundw
        case rel => exact ⟨hh + 1, t, by go_num, rfl, by omega, by omega, htb, HZ.out, fun d e h1 h2 he => by have := H.out.right h1 (by omega) (by omega) he HE1.out; have := HC.out; omega, HHI.out⟩
        case measure => simp [intOf]; omega
      · have q1 : ¬ cmp3 (x.rank now age) (y.rank now age) < 0 := of_decide_eq_false (ask_ge hc)
        have q2 : 0 ≤ cmp3 (x.rank now age) (y.rank now age) := Int.not_lt.1 q1
        have HC := Lib.hid hc
        clear hc
        go_wp2
        go_roundw
        case rel => exact ⟨s, hh, rfl, by go_num, hs, hb1, by omega, HZ.out, HLO.out, fun d e h1 h2 he => by have := H.out.right (by omega) h1 h2 HE1.out he; have := HC.out; omega⟩
        case measure => simp [intOf]; omega
    · obtain rfl : s = t := by omega
      have hma := HMA.out
      have hpm : P.length + [x].length = m := H.out.hm.symm
      have hbR : m + R.length = b := by have := H.out.hb; omega
      have HFIN := Lib.hid (show mvR P x R S (s - m) = P ++ srtK (En.key now age) ([x] ++ R) ++ S from mvR_end H.out.sr (fun y hy => by
        obtain ⟨d, hd, he⟩ := List.mem_take_iff_getElem.1 hy
        have h1 := at_R' (P := P) (L := [x]) (R := R) (S := S) (d := d) (by omega)
        rw [hpm, he] at h1
        exact hlo (m + d) y (by omega) (by omega) h1) (fun y hy => by
        obtain ⟨d, hd, he⟩ := List.mem_drop_iff_getElem.1 hy
        have h1 := at_R' (P := P) (L := [x]) (R := R) (S := S) (d := s - m + d) (by omega)
        rw [hpm, he] at h1
        exact hhi (m + (s - m + d)) y (by omega) (by omega) h1))
      have HAR0 := Lib.hid (show Arr wr q cap (mvR P x R S 0) by rw [mvR_start]; exact H.out.arr.upd hU (fun h => h))
      have HU0 := Lib.hid (hU.mono (G := fun i => i = q) (fun _ _ h => h.elim))
      have HPM := Lib.hid (And.intro hpm (And.intro hbR H.out.ha))
      clear hlo hhi hU hpm hbR hst hma
      have hs1 : a + 1 ≤ s := by have := HMA.out; omega
      go_wp2
      go_loopw [13] (fun i wr => ∃ k : Nat, i = .int .i64 k ∧ a ≤ k ∧ k + 1 ≤ s ∧ Arr wr q cap (mvR P x R S (k - a)) ∧ Upd w wr (fun i => i = q)) (fun i _ => s - (intOf i).toNat)
      case atStart => exact ⟨a, rfl, Nat.le_refl _, hs1, by rw [Nat.sub_self]; exact HAR0.out, HU0.out⟩
      case round =>
        obtain ⟨k, rfl, hak, hks, hA, hU⟩ := hrel
        by_cases hlt : k + 1 < s
        · have hlt2 : (k : Int) < s - 1 := by omega
          obtain ⟨v, x1, x2, x3⟩ := mvR_step (P := P) (R := R) (S := S) (x := x) (t := k - a) (k := k) (by have := HPM.out; have := HMA.out; omega) (by have := HPM.out; omega)
          have HI2 := Lib.hid (And.intro x1 (And.intro x2 (show k ≠ k + 1 by omega)))
          have HX3 := Lib.hid x3
          have HAR := Lib.hid hA
          have HUR := Lib.hid hU
          clear x1 x2 x3 hA hU
          have b1 : k < n := by omega
          have b2 : k + 1 < n := by omega
          go_upto_region 11 with (fail)
          have hAd : Arr wr.drew q cap (mvR P x R S (k - a)) := HAR.out
          have hUd : Upd w wr (fun i => i = q) := HUR.out
          obtain ⟨X, hX⟩ : ∃ X : U2 q (k) (k + 1) x v, X.val = wr.drew := ⟨U2.of hAd HI2.out.1 HI2.out.2.1, rfl⟩
          haveI : Nonempty AnyW := ⟨⟨w⟩⟩
          haveI : Nonempty (U2 q (k) (k + 1) x v) := ⟨X⟩
          refine region_tree 15 [14, 13, 12, 11, 10, 9, 8, 7, 6, 5, 1, 0] (by kernel_rfl) (fun w' => ∃ z : U2 q (k) (k + 1) x v, w' = z.val) (by kernel_rfl) (fun _ _ d _ _ h => by cases d <;> exact h) ⟨X, hX.symm⟩ ?_
          intro hR
          have HRG := Lib.hid hR
          have Xx0 := fun (z : U2 q (k) (k + 1) x v) => z.x0
          have Xx1 := fun (z : U2 q (k) (k + 1) x v) => z.x1
          have Xx2 := fun (z : U2 q (k) (k + 1) x v) => z.x2
          have Xx3 := fun (z : U2 q (k) (k + 1) x v) => z.x3
          have Xy0 := fun (z : U2 q (k) (k + 1) x v) => z.y0
          have Xy1 := fun (z : U2 q (k) (k + 1) x v) => z.y1
          have Xy2 := fun (z : U2 q (k) (k + 1) x v) => z.y2
          have Xy3 := fun (z : U2 q (k) (k + 1) x v) => z.y3
          clear hR
          refine WA.segP HRG.out 15 [2, 3, 4] rfl (by kernel_rfl) ?_
          simp only [opsAt_cons, opsAt_nil, List.getElem?_toArray, List.getElem?_cons_zero, List.getElem?_cons_succ, consO_some]
          repeat (first | go_big_quiet_skip | (go_big_quiet_want; go_big_quiet_op; go_big_quiet_on))
          refine wpQuiet_nil ?_
          refine WA.seg HRG.out 3 [0, 1, 5, 6, 7, 8, 9, 10, 11, 12, 13, 14] rfl (by kernel_rfl) ?_
          simp only [opsAt_cons, opsAt_nil, List.getElem?_toArray, List.getElem?_cons_zero, List.getElem?_cons_succ, consO_some]
          repeat (first | go_big_quiet_skip | (go_big_quiet_want; go_big_quiet_op; go_big_quiet_on))
          refine wpQuiet_nil ?_
          clear Xx0 Xx1 Xx2 Xx3 Xy0 Xy1 Xy2 Xy3
          have cx0 : wr.cell? ⟨q, k * 4, none⟩ = some (.int .i64 x.id) := by have := X.x0; rw [hX] at this; exact this
          have fx0 : wr.frozen? ⟨q, k * 4, none⟩ = false := hAd.frozen _
          have cx1 : wr.cell? ⟨q, k * 4 + 1, none⟩ = some (.string x.dest) := by have := X.x1; rw [hX] at this; exact this
          have fx1 : wr.frozen? ⟨q, k * 4 + 1, none⟩ = false := hAd.frozen _
          have cx2 : wr.cell? ⟨q, k * 4 + 2, none⟩ = some (.int .i64 x.pri) := by have := X.x2; rw [hX] at this; exact this
          have fx2 : wr.frozen? ⟨q, k * 4 + 2, none⟩ = false := hAd.frozen _
          have cx3 : wr.cell? ⟨q, k * 4 + 3, none⟩ = some (.int .i64 x.at_) := by have := X.x3; rw [hX] at this; exact this
          have fx3 : wr.frozen? ⟨q, k * 4 + 3, none⟩ = false := hAd.frozen _
          have cy0 : wr.cell? ⟨q, (k + 1) * 4, none⟩ = some (.int .i64 v.id) := by have := X.y0; rw [hX] at this; exact this
          have fy0 : wr.frozen? ⟨q, (k + 1) * 4, none⟩ = false := hAd.frozen _
          have cy1 : wr.cell? ⟨q, (k + 1) * 4 + 1, none⟩ = some (.string v.dest) := by have := X.y1; rw [hX] at this; exact this
          have fy1 : wr.frozen? ⟨q, (k + 1) * 4 + 1, none⟩ = false := hAd.frozen _
          have cy2 : wr.cell? ⟨q, (k + 1) * 4 + 2, none⟩ = some (.int .i64 v.pri) := by have := X.y2; rw [hX] at this; exact this
          have fy2 : wr.frozen? ⟨q, (k + 1) * 4 + 2, none⟩ = false := hAd.frozen _
          have cy3 : wr.cell? ⟨q, (k + 1) * 4 + 3, none⟩ = some (.int .i64 v.at_) := by have := X.y3; rw [hX] at this; exact this
          have fy3 : wr.frozen? ⟨q, (k + 1) * 4 + 3, none⟩ = false := hAd.frozen _
          have HDZ := Lib.hid (show Arr wr q cap (mvR P x R S (k - a)) from hAd)
          have HUZ2 := Lib.hid hUd
          clear hX hAd hUd
          refine WA.mid 2 rfl (by kernel_rfl) ?_
          simp only [opsAt_cons, opsAt_nil, List.getElem?_toArray, List.getElem?_cons_zero, List.getElem?_cons_succ, consO_some]
          go_wp2_with fail
          clear cx0 cx1 cx2 cx3 cy0 cy1 cy2 cy3 fx0 fx1 fx2 fx3 fy0 fy1 fy2 fy3
          have hd5 : Arr (((((wr.setCell ⟨q, k * 4, none⟩ (.int .i64 v.id)).setCell ⟨q, k * 4 + 1, none⟩ (.string v.dest)).setCell ⟨q, k * 4 + 2, none⟩ (.int .i64 v.pri)).setCell ⟨q, k * 4 + 3, none⟩ (.int .i64 v.at_)).drew) q cap ((mvR P x R S (k - a)).set (k) v) := HDZ.out.put (i := k) ((List.getElem?_eq_some_iff.1 HI2.out.1).1) v
          have hU5 : Upd w (((((wr.setCell ⟨q, k * 4, none⟩ (.int .i64 v.id)).setCell ⟨q, k * 4 + 1, none⟩ (.string v.dest)).setCell ⟨q, k * 4 + 2, none⟩ (.int .i64 v.pri)).setCell ⟨q, k * 4 + 3, none⟩ (.int .i64 v.at_)).drew) (fun i => i = q) := ((((HUZ2.out.set ⟨q, k * 4, none⟩ (.int .i64 v.id) (.inl rfl)).set ⟨q, k * 4 + 1, none⟩ (.string v.dest) (.inl rfl)).set ⟨q, k * 4 + 2, none⟩ (.int .i64 v.pri) (.inl rfl)).set ⟨q, k * 4 + 3, none⟩ (.int .i64 v.at_) (.inl rfl)).drew
          generalize ((((wr.setCell ⟨q, k * 4, none⟩ (.int .i64 v.id)).setCell ⟨q, k * 4 + 1, none⟩ (.string v.dest)).setCell ⟨q, k * 4 + 2, none⟩ (.int .i64 v.pri)).setCell ⟨q, k * 4 + 3, none⟩ (.int .i64 v.at_)).drew = w5 at hd5 hU5 ⊢
          obtain ⟨c0, c1, c2, c3⟩ := hd5.now (i := k + 1) (e := v) (by rw [List.getElem?_set_ne HI2.out.2.2]; exact HI2.out.2.1)
          have f0 := hd5.frozen ((k + 1) * 4)
          have f1 := hd5.frozen ((k + 1) * 4 + 1)
          have f2 := hd5.frozen ((k + 1) * 4 + 2)
          have f3 := hd5.frozen ((k + 1) * 4 + 3)
          have HD5 := Lib.hid hd5
          have HU5 := Lib.hid hU5
          clear hd5 hU5
          refine ⟨trivial, ?_⟩
          refine WB.one 1 16 rfl (by kernel_rfl) ?_
          simp only [opsAt_cons, opsAt_nil, List.getElem?_toArray, List.getElem?_cons_zero, List.getElem?_cons_succ, consO_some]
          go_wp2_with fail
          refine ⟨trivial, ?_⟩
          refine WB.one 0 17 rfl (by kernel_rfl) ?_
          simp only [opsAt_cons, opsAt_nil, List.getElem?_toArray, List.getElem?_cons_zero, List.getElem?_cons_succ, consO_some]
          go_wp2_with fail
          clear c0 c1 c2 c3 f0 f1 f2 f3
          have hd6 : Arr (((((w5.setCell ⟨q, (k + 1) * 4, none⟩ (.int .i64 x.id)).setCell ⟨q, (k + 1) * 4 + 1, none⟩ (.string x.dest)).setCell ⟨q, (k + 1) * 4 + 2, none⟩ (.int .i64 x.pri)).setCell ⟨q, (k + 1) * 4 + 3, none⟩ (.int .i64 x.at_))) q cap (((mvR P x R S (k - a)).set (k) v).set (k + 1) x) := HD5.out.put (i := k + 1) (by rw [List.length_set]; exact (List.getElem?_eq_some_iff.1 HI2.out.2.1).1) x
          have hU6 : Upd w (((((w5.setCell ⟨q, (k + 1) * 4, none⟩ (.int .i64 x.id)).setCell ⟨q, (k + 1) * 4 + 1, none⟩ (.string x.dest)).setCell ⟨q, (k + 1) * 4 + 2, none⟩ (.int .i64 x.pri)).setCell ⟨q, (k + 1) * 4 + 3, none⟩ (.int .i64 x.at_))) (fun i => i = q) := ((((HU5.out.set ⟨q, (k + 1) * 4, none⟩ (.int .i64 x.id) (.inl rfl)).set ⟨q, (k + 1) * 4 + 1, none⟩ (.string x.dest) (.inl rfl)).set ⟨q, (k + 1) * 4 + 2, none⟩ (.int .i64 x.pri) (.inl rfl)).set ⟨q, (k + 1) * 4 + 3, none⟩ (.int .i64 x.at_) (.inl rfl))
          have HD6 := Lib.hid hd6
          have HU6 := Lib.hid hU6
          clear hd6 hU6
          generalize ((((w5.setCell ⟨q, (k + 1) * 4, none⟩ (.int .i64 x.id)).setCell ⟨q, (k + 1) * 4 + 1, none⟩ (.string x.dest)).setCell ⟨q, (k + 1) * 4 + 2, none⟩ (.int .i64 x.pri)).setCell ⟨q, (k + 1) * 4 + 3, none⟩ (.int .i64 x.at_)) = w6 at HD6 HU6 ⊢
          refine ⟨trivial, ?_⟩
          refine WB.done_ (by kernel_rfl) ?_
          have HD8 := Lib.hid (show Arr w6 q cap (mvR P x R S (k + 1 - a)) by
            have h := HD6.out
            rw [HX3.out, show k - a + 1 = k + 1 - a by omega] at h
            exact h)
          go_wp2
          go_roundw
          case rel => exact ⟨k + 1, by go_num, by omega, by omega, HD8.out, HU6.out⟩
          case measure => simp [intOf]; omega
        · obtain rfl : s = k + 1 := by omega
          have hf : Arr wr q cap (P ++ srtK (En.key now age) ([x] ++ R) ++ S) := by
            rw [← HFIN.out]
            have := HMA.out
            rw [show k + 1 - m = k - a by omega]
            exact hA
          have HF := Lib.hid (And.intro hf hU)
          clear hf hA hU
          go_wp2
          go_end0
          exact ⟨rfl, HF.out⟩
end Go.Proofs.Ythpilbooolgkiaa
