/- XtextJoins: its walk. -/
import Derived.Test.YtpcfigijjhoffaaAwk
set_option linter.unusedVariables false
set_option linter.unusedSimpArgs false
namespace Go.Proofs.Ytpcfigijjhoffaa
open Go.RowKit

theorem decL_cat : ∀ (n : Nat) (l o t : List UInt8), l.length = n → decL l = some o → decL (l ++ t) = (decL t).map (o ++ ·) := by
  intro n
  induction n using Nat.strongRecOn with
  | _ n ih =>
    intro l o t hl h
    match l, hl, h with
    | [], _, h => simp [decL] at h; subst h; simp
    | b :: r, hl, h =>
      by_cases hp : plainB b = true
      · rw [decL_plain r hp] at h
        cases hd : decL r with
        | none => rw [hd] at h; cases h
        | some q =>
          rw [hd] at h
          injection h with h
          subst h
          have := ih r.length (by simp at hl; omega) r q t rfl hd
          rw [List.cons_append, decL_plain _ hp, this]
          cases decL t <;> simp
      · by_cases h4 : b = 43
        · subst h4
          match r, hl, h with
          | [], _, h => rw [decL_short [] (by simp)] at h; cases h
          | [x], _, h => rw [decL_short [x] (by simp)] at h; cases h
          | x :: y :: r, hl, h =>
            rw [decL_plus] at h
            rw [List.cons_append, List.cons_append, List.cons_append, decL_plus]
            rcases Option.eq_none_or_eq_some (val x) with hx | ⟨p, hx⟩
            · simp [hx] at h
            · rcases Option.eq_none_or_eq_some (val y) with hy | ⟨q, hy⟩
              · simp [hx, hy] at h
              · simp only [hx, hy] at h ⊢
                cases hd : decL r with
                | none => rw [hd] at h; cases h
                | some z =>
                  rw [hd] at h
                  injection h with h
                  subst h
                  have := ih r.length (by simp at hl; omega) r z t rfl hd
                  rw [this]
                  cases decL t <;> simp
        · rw [decL_bad r (by simpa using hp) h4] at h
          cases h
theorem ba_append (a b : List UInt8) : (⟨a.toArray⟩ : ByteArray) ++ ⟨b.toArray⟩ = ⟨(a ++ b).toArray⟩ := by
  apply ByteArray.ext
  simp
theorem ba_list (a b : ByteArray) : (a ++ b).data.toList = a.data.toList ++ b.data.toList := by simp
theorem ba_len (l : List UInt8) : (⟨l.toArray⟩ : ByteArray).size = l.length := by show l.toArray.size = _; simp

set_option maxHeartbeats 4000000 in
set_option maxRecDepth 100000 in
theorem joins_walk (w : World) (a : ByteArray) (ha : a.size ≤ 140737488351232) (b : ByteArray) (hb : b.size ≤ 140737488351232) :
    Calls Try.prog 5 #[.string a, .string b] w fun e w' => e = .returned (.bool true) ∧ Below w.heap.size w w' := by
  by_cases c1 : 5000 < a.size ∨ 5000 < b.size
  · rcases (show 5000 < a.size ∨ (a.size ≤ 5000 ∧ 5000 < b.size) by omega) with h | ⟨h, h'⟩
    all_goals
      go_enter Try.func5, Try.ntmps5
      go_wp2_with fail
      refine (awake_any w).mono ?_
      rintro e w1 ⟨rfl, hu1⟩
      go_wp2
      go_ret
      exact ⟨rfl, hu1.below (fun _ h => h.elim)⟩
  · have k1 : a.size ≤ 5000 := by omega
    have k2 : b.size ≤ 5000 := by omega
    have hsz : (a ++ b).size ≤ 1000000 := by rw [ByteArray.size_append]; omega
    have h1 := fun w => encode_any (a ++ b) w hsz
    have h2 := fun w => encode_any a w (by omega)
    have h3 := fun w => encode_any b w (by omega)
    have h4 := fun w => count_any (a ++ b) w hsz
    have h5 := fun w => count_any a w (by omega)
    have h6 := fun w => count_any b w (by omega)
    have h7 := fun w => decode_any a w (by omega)
    have h8 := fun w => decode_any b w (by omega)
    have h9 := fun w => decode_any (a ++ b) w hsz
    rw [ba_list] at h1 h4 h9
    rw [encL_append, ← ba_append] at h1
    have hc : cnt (a.data.toList ++ b.data.toList) = cnt a.data.toList + cnt b.data.toList := by unfold cnt; rw [encL_append, List.length_append]
    rw [hc] at h4
    have l1 := encL_len a.data.toList
    have l2 := encL_len b.data.toList
    rw [data_len] at l1 l2
    have z1 := ba_len (encL a.data.toList)
    have z2 := ba_len (encL b.data.toList)
    have n1 : cnt a.data.toList ≤ 15000 := by unfold cnt; omega
    have n2 : cnt b.data.toList ≤ 15000 := by unfold cnt; omega
    have hcat := fun o => decL_cat _ a.data.toList o b.data.toList rfl
    generalize (⟨(encL a.data.toList).toArray⟩ : ByteArray) = ea at h1 h2 z1
    generalize (⟨(encL b.data.toList).toArray⟩ : ByteArray) = eb at h1 h3 z2
    generalize cnt a.data.toList = na at h4 h5 n1
    generalize cnt b.data.toList = nb at h4 h6 n2
    have e1 : ea.size ≤ 15000 := by omega
    have e2 : eb.size ≤ 15000 := by omega
    have hself : ((ea ++ eb).toList == (ea ++ eb).toList) = true := by simp
    clear c1 hc l1 l2 z1 z2
    have H1 := Lib.hid h1
    have H2 := Lib.hid h2
    have H3 := Lib.hid h3
    have H4 := Lib.hid h4
    have H5 := Lib.hid h5
    have H6 := Lib.hid h6
    have H7 := Lib.hid h7
    have H8 := Lib.hid h8
    have H9 := Lib.hid h9
    clear h1 h2 h3 h4 h5 h6 h7 h8 h9
    go_enter Try.func5, Try.ntmps5
    go_wp2_with fail
    refine (awake_any w).mono ?_
    rintro e w1 ⟨rfl, u1⟩
    go_wp2_with fail
    refine (H1.out _).mono ?_
    rintro e w2 ⟨rfl, u2⟩
    go_wp2_with fail
    refine (H2.out _).mono ?_
    rintro e w3 ⟨rfl, u3⟩
    go_wp2_with fail
    refine (H3.out _).mono ?_
    rintro e w4 ⟨rfl, u4⟩
    go_wp2_with fail
    refine (H4.out _).mono ?_
    rintro e w5 ⟨rfl, u5⟩
    go_wp2_with fail
    refine (H5.out _).mono ?_
    rintro e w6 ⟨rfl, u6⟩
    go_wp2_with fail
    refine (H6.out _).mono ?_
    rintro e w7 ⟨rfl, u7⟩
    go_wp2_with fail
    refine (H7.out _).mono ?_
    rintro e w8 ⟨rfl, u8⟩
    have U8 := ((((((u1.nn u2).nn u3).nn u4).nn u5).nn u6).nn u7).nn u8
    clear u1 u2 u3 u4 u5 u6 u7 u8 H1 H2 H3 H4 H5 H6 H7
    cases hda : decL a.data.toList with
    | none =>
      rw [decRet_none hda]
      clear hcat hda
      rcases Option.eq_none_or_eq_some (decL b.data.toList) with hdb | ⟨ob, hdb⟩
      all_goals
        have hx := H8.out
        first | rw [decRet_none hdb] at hx | rw [decRet_some hdb] at hx
        have H := Lib.hid hx
        clear hx hdb H8 H9
        go_wp2_with fail
        refine (H.out _).mono ?_
        rintro e w9 ⟨rfl, u9⟩
        go_wp2_with fail
        go_ret
        exact ⟨rfl, (U8.nn u9).below (fun _ h => h.elim)⟩
    | some oa =>
      rw [decRet_some hda]
      have hab := hcat oa hda
      have la := decL_len _ _ oa rfl hda
      rw [data_len] at la
      clear hcat hda
      rcases Option.eq_none_or_eq_some (decL b.data.toList) with hdb | ⟨ob, hdb⟩
      · have hx := H8.out
        rw [decRet_none hdb] at hx
        have H := Lib.hid hx
        clear hx hdb H8 H9 hab
        go_wp2_with fail
        refine (H.out _).mono ?_
        rintro e w9 ⟨rfl, u9⟩
        go_wp2_with fail
        go_ret
        exact ⟨rfl, (U8.nn u9).below (fun _ h => h.elim)⟩
      · have hx := H8.out
        have hy := H9.out
        have lb := decL_len _ _ ob rfl hdb
        rw [data_len] at lb
        rw [hdb] at hab
        rw [decRet_some hdb] at hx
        rw [decRet_some (o := oa ++ ob) hab, ← ba_append] at hy
        have za := ba_len oa
        have zb := ba_len ob
        generalize (⟨oa.toArray⟩ : ByteArray) = sa at hy za ⊢
        generalize (⟨ob.toArray⟩ : ByteArray) = sb at hx hy zb
        have ya : sa.size ≤ 5000 := by omega
        have yb : sb.size ≤ 5000 := by omega
        have hself2 : ((sa ++ sb).toList == (sa ++ sb).toList) = true := by simp
        have HX := Lib.hid hx
        have HY := Lib.hid hy
        clear hx hy hdb H8 H9 hab za zb
        go_wp2_with fail
        refine (HX.out _).mono ?_
        rintro e w9 ⟨rfl, u9⟩
        go_wp2_with fail
        refine (HY.out _).mono ?_
        rintro e w10 ⟨rfl, u10⟩
        go_wp2_with fail
        go_ret
        exact ⟨ret_eq (by first | rfl | simp), ((U8.nn u9).nn u10).below (fun _ h => h.elim)⟩
end Go.Proofs.Ytpcfigijjhoffaa
