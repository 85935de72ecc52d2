/- path.Parse. -/
import Derived.Test.YthfmjiafdfoajaaDoorPa0
set_option linter.unusedVariables false
set_option linter.unusedSimpArgs false
namespace Go.Proofs.YthfmjiafdfoajaaDoor
open Go.RowKit Go.Shelf

def prV (r : PR) : Value := .tuple #[.agg #[.string (bs r.lo), .string (bs r.dom)], .string (bs r.rest), .int .i64 r.e]
theorem dw_nil {p : UInt8 → Bool} {l : List UInt8} (h : ∀ b ∈ l, p b = true) : l.dropWhile p = [] := by
  induction l with
  | nil => rfl
  | cons b r ih => rw [List.dropWhile_cons, h b (by simp), if_pos rfl]; exact ih fun x hx => h x (by simp [hx])
theorem par_fin {w W : World} {a b : Value} (hb : Blk W w.heap.size #[a, b] 23) (hbl : Below w.heap.size w W) (x y : Value) :
    ∃ W4, (W.setCell ⟨w.heap.size, 0, none⟩ x).setCell ⟨w.heap.size, 1, none⟩ y = W4 ∧ W4.cell? ⟨w.heap.size, 0, none⟩ = some x ∧ W4.cell? ⟨w.heap.size, 1, none⟩ = some y ∧ Below w.heap.size w W4 := by
  have h := (hb.set 0 x).set 1 y
  refine ⟨_, rfl, by rw [h.cell 0]; rfl, by rw [h.cell 1]; rfl, (hbl.setCell (p := ⟨w.heap.size, 0, none⟩) (Nat.le_refl _) _).setCell (p := ⟨w.heap.size, 1, none⟩) (Nat.le_refl _) _⟩
theorem qt_len {l lo rest : List UInt8} (h : qtL l = some (lo, rest)) : lo.length + rest.length ≤ l.length := by
  fun_induction qtL l generalizing lo with
  | case1 => cases h
  | case2 => cases h; simp
  | case3 => cases h
  | case4 => cases h
  | case5 c r' ho _ ih =>
    obtain ⟨x, hx, e⟩ := Option.map_eq_some_iff.1 h
    injection e with e1 e2
    have := ih (lo := x.1) (by rw [hx, ← e2])
    rw [← e1]; simp only [List.length_cons] at *; omega
  | case6 => cases h
  | case7 b r h1 h2 ho ih =>
    obtain ⟨x, hx, e⟩ := Option.map_eq_some_iff.1 h
    injection e with e1 e2
    have := ih (lo := x.1) (by rw [hx, ← e2])
    rw [← e1]; simp only [List.length_cons] at *; omega
def tailD (lo d behind : List UInt8) : PR := if ((domL d).2 = 3 ∧ shapedL d = true) ∨ ((domL d).2 = 0 ∧ 64 < lo.length) then ⟨[], [], [], 3⟩ else if (domL d).2 ≠ 0 then .no else ⟨lo, (domL d).1, behind, 0⟩
theorem domL_code (d : List UInt8) : (domL d).2 = 3 ∨ (domL d).2 = 0 ∨ (domL d).2 = 2 := by
  unfold domL
  split
  · exact .inl rfl
  · split
    · exact .inr (.inl rfl)
    · exact .inr (.inr rfl)
theorem tail_none {lo rest : List UInt8} (h : ∀ b ∈ rest, b ≠ 62) : tailL lo rest = .no := by
  have e : rest.dropWhile (fun b => !(b == 62)) = [] := by
    exact dw_nil fun b hb => by simpa using h b hb
  unfold tailL
  rw [e]
theorem tail_some {lo d r : List UInt8} (h : ∀ b ∈ 64 :: d, b ≠ 62) : tailL lo (64 :: d ++ 62 :: r) = tailD lo d r := by
  obtain ⟨t1, t2⟩ := tw_append (p := fun b => !(b == 62)) (a := 64 :: d) (fun b hb => by simpa using h b hb) 62 r (by decide)
  unfold tailL
  rw [t1, t2]
  dsimp only
  rw [if_pos rfl]
  rfl
theorem tail_no64 {lo a r : List UInt8} (h : ∀ b ∈ a, b ≠ 62) (h64 : ∀ d, a ≠ 64 :: d) : tailL lo (a ++ 62 :: r) = .no := by
  obtain ⟨t1, t2⟩ := tw_append (p := fun b => !(b == 62)) (a := a) (fun b hb => by simpa using h b hb) 62 r (by decide)
  unfold tailL
  rw [t1, t2]
  cases a with
  | nil => rfl
  | cons b d =>
    dsimp only
    rw [if_neg (fun e => h64 d (by rw [e]))]
theorem any_cases (l : List UInt8) : (Lib.indexAny l ends.data.toList = -1 ∧ ∀ b ∈ l, stopB b = false) ∨ ∃ a c r, l = a ++ c :: r ∧ Lib.indexAny l ends.data.toList = (a.length : Int) ∧ stopB c = true ∧ ∀ b ∈ a, stopB b = false := by
  induction l with
  | nil => exact .inl ⟨rfl, by simp⟩
  | cons b r ih =>
    have hc : ends.data.toList.contains b = stopB b := contains_ends b
    cases hb : stopB b with
    | true =>
      rw [hb] at hc
      exact .inr ⟨[], b, r, rfl, by rw [Lib.indexAny, if_pos hc]; rfl, hb, by simp⟩
    | false =>
      rw [hb] at hc
      have hg := Lib.indexAny_ge ends.data.toList r
      rcases ih with ⟨h1, h2⟩ | ⟨a, c, r', h1, h2, h3, h4⟩
      · refine .inl ⟨by rw [Lib.indexAny, if_neg (by rw [hc]; decide), h1]; rfl, ?_⟩
        intro x hx
        rcases List.mem_cons.1 hx with rfl | hx
        · exact hb
        · exact h2 x hx
      · refine .inr ⟨b :: a, c, r', by rw [h1]; rfl, ?_, h3, ?_⟩
        · rw [Lib.indexAny, if_neg (by rw [hc]; decide), h2, if_neg (by simp)]
          simp
        · intro x hx
          rcases List.mem_cons.1 hx with rfl | hx
          · exact hb
          · exact h4 x hx
theorem bare_none {l : List UInt8} (h : ∀ b ∈ l, stopB b = false) : bareL l = .no := by
  have e : l.dropWhile (fun b => !stopB b) = [] := by
    exact dw_nil fun b hb => by simp [h b hb]
  unfold bareL
  rw [e]
theorem bare_some {a r : List UInt8} {c : UInt8} (h : ∀ b ∈ a, stopB b = false) (hc : stopB c = true) : bareL (a ++ c :: r) = if atomsL a = true then (if c = 62 then (if Lib.toLowerA a = postL then ⟨postL, [], r, 0⟩ else .no) else tailL a (c :: r)) else .no := by
  obtain ⟨t1, t2⟩ := tw_append (p := fun b => !stopB b) (a := a) (fun b hb => by simp [h b hb]) c r (by simp [hc])
  unfold bareL
  rw [t1, t2]

set_option maxRecDepth 100000 in
set_option maxHeartbeats 16000000 in
theorem parse_any (s : ByteArray) (w : World) (hs : s.size < 4294967281) : Calls Tryd.prog 11 #[.string s] w fun e w' => e = .returned (prV (parseL s.data.toList)) ∧ Below w.heap.size w w' := by
  have hbC : Blk (w.alloc (.cells #[.string ⟨#[]⟩, .string ⟨#[]⟩] 23)) w.heap.size #[.string ⟨#[]⟩, .string ⟨#[]⟩] 23 := Blk.new _ _ _
  have hblC : Below w.heap.size w (w.alloc (.cells #[.string ⟨#[]⟩, .string ⟨#[]⟩] 23)) := (Below.refl _ w).alloc (Nat.le_refl _) _
  obtain ⟨R, hR⟩ : ∃ R, parseL s.data.toList = R := ⟨_, rfl⟩
  rw [hR]
  by_cases h60 : ∃ r : ByteArray, s.data.toList = 60 :: r.data.toList
  · obtain ⟨t, ht⟩ := h60
    have HP := Lib.hid (fun W => pre_yes s t 60 ht W)
    have hts : t.size < 4294967281 := by
      have := congrArg List.length ht
      simp only [List.length_cons, data_len] at this
      omega
    rw [ht] at hR
    by_cases h62 : ∃ r : ByteArray, t.data.toList = 62 :: r.data.toList
    · obtain ⟨u, hu⟩ := h62
      have HQ := Lib.hid (fun W => pre_yes t u 62 hu W)
      have HRn : Hid (R = ⟨[], [], u.data.toList, 0⟩) := Lib.hid (by rw [← hR, hu]; rfl)
      clear hR ht hu
      go_enter Tryd.func11, Tryd.ntmps11
      go_wp2_with fail
      generalize w.alloc (.cells #[.string ⟨#[]⟩, .string ⟨#[]⟩] 23) = wC at hbC hblC ⊢
      have c0 := hbC.cell 0
      have c1 := hbC.cell 1
      have f0 := hbC.frozen 0
      have f1 := hbC.frozen 1
      simp only [List.getElem?_toArray, List.getElem?_cons_zero, List.getElem?_cons_succ] at c0 c1
      refine (HP.out _).mono ?_
      rintro e wQ ⟨rfl, hwQ⟩
      obtain rfl := hwQ
      go_wp2_with fail
      refine (HQ.out _).mono ?_
      rintro e wQ ⟨rfl, hwQ⟩
      obtain rfl := hwQ
      go_wp2_with fail
      obtain ⟨W4, hW4, d0, d1, hd4⟩ := par_fin hbC hblC (.string ⟨#[]⟩) (.string ⟨#[]⟩)
      rw [hW4]
      exact bodyPost_ret (v := .tuple #[.agg #[.string ⟨#[]⟩, .string ⟨#[]⟩], .string u, .int .i64 0]) (by simp [results, Tryd.results11, go_sem, d0, d1]) rfl ⟨by rw [HRn.out, ← bs_of u]; rfl, hd4⟩
    · have HQ := Lib.hid (fun W => pre_no t 62 (fun r h => h62 ⟨bs r, h⟩) W)
      by_cases h34 : ∃ r : ByteArray, t.data.toList = 34 :: r.data.toList
      · obtain ⟨u, hu⟩ := h34
        have HH := Lib.hid (fun W => has_yes t u 34 hu W)
        have hqt := fun W => quoted_any t W hts
        have hR2 : R = (match qtL u.data.toList with
          | none => .no
          | some (lo, rest) => if lo = [] then .no else tailL lo rest) := by
          rw [← hR, hu]; rfl
        rw [hu, List.drop_succ_cons, List.drop_zero] at hqt
        cases hq : qtL u.data.toList with
        | none =>
          rw [hq] at hqt hR2
          have hq2 : ∀ W, Calls Tryd.prog 26 #[.string t] W fun e w' => e = .returned (.tuple #[.string ⟨#[]⟩, .string ⟨#[]⟩, .bool false]) ∧ Below W.heap.size W w' := hqt
          have HQT := Lib.hid hq2
          have HRn : Hid (R = .no) := Lib.hid hR2
          clear hq2 hqt hR2 hq hu hR ht h62
          go_enter Tryd.func11, Tryd.ntmps11
          go_wp2_with fail
          generalize w.alloc (.cells #[.string ⟨#[]⟩, .string ⟨#[]⟩] 23) = wC at hbC hblC ⊢
          have c0 := hbC.cell 0
          have c1 := hbC.cell 1
          have f0 := hbC.frozen 0
          have f1 := hbC.frozen 1
          simp only [List.getElem?_toArray, List.getElem?_cons_zero, List.getElem?_cons_succ] at c0 c1
          refine (HP.out _).mono ?_
          rintro e wQ ⟨rfl, hwQ⟩
          obtain rfl := hwQ
          go_wp2_with fail
          refine (HQ.out _).mono ?_
          rintro e wQ ⟨rfl, hwQ⟩
          obtain rfl := hwQ
          go_wp2_with fail
          refine (HH.out _).mono ?_
          rintro e wQ ⟨rfl, hwQ⟩
          obtain rfl := hwQ
          go_wp2_with fail
          refine (HQT.out _).mono ?_
          rintro e wN ⟨rfl, hdN⟩
          clear c0 c1 f0 f1
          replace hbC := hbC.upd (Upd.of_below hdN Nope) id
          replace hblC := hblC.trans (hdN.mono hblC.size)
          clear hdN
          have c0 := hbC.cell 0
          have c1 := hbC.cell 1
          have f0 := hbC.frozen 0
          have f1 := hbC.frozen 1
          simp only [List.getElem?_toArray, List.getElem?_cons_zero, List.getElem?_cons_succ] at c0 c1
          go_wp2_with fail
          refine (none_any _).mono ?_
          rintro e wN ⟨rfl, hdN⟩
          clear c0 c1 f0 f1
          replace hbC := hbC.upd (Upd.of_below hdN Nope) id
          replace hblC := hblC.trans (hdN.mono hblC.size)
          clear hdN
          have c0 := hbC.cell 0
          have c1 := hbC.cell 1
          have f0 := hbC.frozen 0
          have f1 := hbC.frozen 1
          simp only [List.getElem?_toArray, List.getElem?_cons_zero, List.getElem?_cons_succ] at c0 c1
          go_wp2_with fail
          obtain ⟨W4, hW4, d0, d1, hd4⟩ := par_fin hbC hblC (.string ⟨#[]⟩) (.string ⟨#[]⟩)
          rw [hW4]
          exact bodyPost_ret (v := .tuple #[.agg #[.string ⟨#[]⟩, .string ⟨#[]⟩], .string ⟨#[]⟩, .int .i64 2]) (by simp [results, Tryd.results11, go_sem, d0, d1]) rfl ⟨by rw [HRn.out]; rfl, hd4⟩
        | some x =>
          obtain ⟨lo', rest'⟩ := x
          have hqs := qt_len hq
          rw [hq] at hqt hR2
          obtain ⟨lo, hlo⟩ : ∃ lo, bs lo' = lo := ⟨_, rfl⟩
          obtain ⟨rest, hrest⟩ : ∃ rest, bs rest' = rest := ⟨_, rfl⟩
          have hq2 : ∀ W, Calls Tryd.prog 26 #[.string t] W fun e w' => e = .returned (.tuple #[.string lo, .string rest, .bool true]) ∧ Below W.heap.size W w' := by
            rw [← hlo, ← hrest]; exact hqt
          have e1 : lo' = lo.data.toList := by rw [← hlo]; rfl
          have e2 : rest' = rest.data.toList := by rw [← hrest]; rfl
          rw [e1, e2, data_len, data_len, data_len] at hqs
          have htu := congrArg List.length hu
          simp only [List.length_cons, data_len] at htu
          have hls : lo.size < 4294967281 := by omega
          have hrs : rest.size < 4294967281 := by omega
          have HQT := Lib.hid hq2
          subst e1 e2
          have hR3 : R = if lo.data.toList = [] then .no else tailL lo.data.toList rest.data.toList := hR2
          clear hqt hq2 hR2 hq hu hR ht h62 hqs htu hlo hrest
          by_cases hl0 : lo.data.toList = []
          · rw [if_pos hl0] at hR3
            have HRn := Lib.hid hR3
            have hle : lo.toList = [] := (nil_iff lo).2 hl0
            have hle2 : lo.toList.isEmpty = true := by rw [hle]; rfl
            clear hR3 hl0
            go_enter Tryd.func11, Tryd.ntmps11
            go_wp2_with fail
            generalize w.alloc (.cells #[.string ⟨#[]⟩, .string ⟨#[]⟩] 23) = wC at hbC hblC ⊢
            have c0 := hbC.cell 0
            have c1 := hbC.cell 1
            have f0 := hbC.frozen 0
            have f1 := hbC.frozen 1
            simp only [List.getElem?_toArray, List.getElem?_cons_zero, List.getElem?_cons_succ] at c0 c1
            refine (HP.out _).mono ?_
            rintro e wQ ⟨rfl, hwQ⟩
            obtain rfl := hwQ
            go_wp2_with fail
            refine (HQ.out _).mono ?_
            rintro e wQ ⟨rfl, hwQ⟩
            obtain rfl := hwQ
            go_wp2_with fail
            refine (HH.out _).mono ?_
            rintro e wQ ⟨rfl, hwQ⟩
            obtain rfl := hwQ
            go_wp2_with fail
            refine (HQT.out _).mono ?_
            rintro e wN ⟨rfl, hdN⟩
            clear c0 c1 f0 f1
            replace hbC := hbC.upd (Upd.of_below hdN Nope) id
            replace hblC := hblC.trans (hdN.mono hblC.size)
            clear hdN
            have c0 := hbC.cell 0
            have c1 := hbC.cell 1
            have f0 := hbC.frozen 0
            have f1 := hbC.frozen 1
            simp only [List.getElem?_toArray, List.getElem?_cons_zero, List.getElem?_cons_succ] at c0 c1
            go_wp2_with fail
            refine (none_any _).mono ?_
            rintro e wN ⟨rfl, hdN⟩
            clear c0 c1 f0 f1
            replace hbC := hbC.upd (Upd.of_below hdN Nope) id
            replace hblC := hblC.trans (hdN.mono hblC.size)
            clear hdN
            have c0 := hbC.cell 0
            have c1 := hbC.cell 1
            have f0 := hbC.frozen 0
            have f1 := hbC.frozen 1
            simp only [List.getElem?_toArray, List.getElem?_cons_zero, List.getElem?_cons_succ] at c0 c1
            go_wp2_with fail
            obtain ⟨W4, hW4, d0, d1, hd4⟩ := par_fin hbC hblC (.string ⟨#[]⟩) (.string ⟨#[]⟩)
            rw [hW4]
            exact bodyPost_ret (v := .tuple #[.agg #[.string ⟨#[]⟩, .string ⟨#[]⟩], .string ⟨#[]⟩, .int .i64 2]) (by simp [results, Tryd.results11, go_sem, d0, d1]) rfl ⟨by rw [HRn.out]; rfl, hd4⟩
          · rw [if_neg hl0] at hR3
            have HT := Lib.hid hR3
            have hle : ¬ lo.toList = [] := fun h => hl0 ((nil_iff lo).1 h)
            have hle2 : lo.toList.isEmpty = false := by simpa using hle
            clear hR3 hl0
            go_enter Tryd.func11, Tryd.ntmps11
            go_wp2_with fail
            generalize w.alloc (.cells #[.string ⟨#[]⟩, .string ⟨#[]⟩] 23) = wC at hbC hblC ⊢
            have c0 := hbC.cell 0
            have c1 := hbC.cell 1
            have f0 := hbC.frozen 0
            have f1 := hbC.frozen 1
            simp only [List.getElem?_toArray, List.getElem?_cons_zero, List.getElem?_cons_succ] at c0 c1
            refine (HP.out _).mono ?_
            rintro e wQ ⟨rfl, hwQ⟩
            obtain rfl := hwQ
            go_wp2_with fail
            refine (HQ.out _).mono ?_
            rintro e wQ ⟨rfl, hwQ⟩
            obtain rfl := hwQ
            go_wp2_with fail
            refine (HH.out _).mono ?_
            rintro e wQ ⟨rfl, hwQ⟩
            obtain rfl := hwQ
            go_wp2_with fail
            refine (HQT.out _).mono ?_
            rintro e wN ⟨rfl, hdN⟩
            clear c0 c1 f0 f1
            replace hbC := hbC.upd (Upd.of_below hdN Nope) id
            replace hblC := hblC.trans (hdN.mono hblC.size)
            clear hdN
            have c0 := hbC.cell 0
            have c1 := hbC.cell 1
            have f0 := hbC.frozen 0
            have f1 := hbC.frozen 1
            simp only [List.getElem?_toArray, List.getElem?_cons_zero, List.getElem?_cons_succ] at c0 c1
            go_upto_region 22 with (fail)
            clear HP HQ HH HQT hle hle2
            rcases index_cases 62 rest.data.toList with ⟨hi, hno⟩ | ⟨a, r, hl, hi, hna⟩
            · have HRn : Hid (R = .no) := Lib.hid (by rw [HT.out, tail_none hno])
              have HC := Lib.hid (fun W => cut_no rest hi W)
              by_cases h64 : ∃ d : ByteArray, rest.data.toList = 64 :: d.data.toList
              · obtain ⟨d, hd⟩ := h64
                have HP := Lib.hid (fun W => pre_yes rest d 64 hd W)
                clear hi hno hd HT
                go_wp2_with fail
                refine (HC.out _).mono ?_
                rintro e wN ⟨rfl, hdN⟩
                clear c0 c1 f0 f1
                replace hbC := hbC.upd (Upd.of_below hdN Nope) id
                replace hblC := hblC.trans (hdN.mono hblC.size)
                clear hdN
                have c0 := hbC.cell 0
                have c1 := hbC.cell 1
                have f0 := hbC.frozen 0
                have f1 := hbC.frozen 1
                simp only [List.getElem?_toArray, List.getElem?_cons_zero, List.getElem?_cons_succ] at c0 c1
                go_wp2_with fail
                refine (HP.out _).mono ?_
                rintro e wQ ⟨rfl, hwQ⟩
                obtain rfl := hwQ
                go_wp2_with fail
                refine (none_any _).mono ?_
                rintro e wN ⟨rfl, hdN⟩
                clear c0 c1 f0 f1
                replace hbC := hbC.upd (Upd.of_below hdN Nope) id
                replace hblC := hblC.trans (hdN.mono hblC.size)
                clear hdN
                have c0 := hbC.cell 0
                have c1 := hbC.cell 1
                have f0 := hbC.frozen 0
                have f1 := hbC.frozen 1
                simp only [List.getElem?_toArray, List.getElem?_cons_zero, List.getElem?_cons_succ] at c0 c1
                go_wp2_with fail
                obtain ⟨W4, hW4, d0, d1, hd4⟩ := par_fin hbC hblC (.string ⟨#[]⟩) (.string ⟨#[]⟩)
                rw [hW4]
                exact bodyPost_ret (v := .tuple #[.agg #[.string ⟨#[]⟩, .string ⟨#[]⟩], .string ⟨#[]⟩, .int .i64 2]) (by simp [results, Tryd.results11, go_sem, d0, d1]) rfl ⟨by rw [HRn.out]; rfl, hd4⟩
              · have HP := Lib.hid (fun W => pre_no rest 64 (fun r h => h64 ⟨bs r, h⟩) W)
                clear hi hno h64 HT
                go_wp2_with fail
                refine (HC.out _).mono ?_
                rintro e wN ⟨rfl, hdN⟩
                clear c0 c1 f0 f1
                replace hbC := hbC.upd (Upd.of_below hdN Nope) id
                replace hblC := hblC.trans (hdN.mono hblC.size)
                clear hdN
                have c0 := hbC.cell 0
                have c1 := hbC.cell 1
                have f0 := hbC.frozen 0
                have f1 := hbC.frozen 1
                simp only [List.getElem?_toArray, List.getElem?_cons_zero, List.getElem?_cons_succ] at c0 c1
                go_wp2_with fail
                refine (HP.out _).mono ?_
                rintro e wQ ⟨rfl, hwQ⟩
                obtain rfl := hwQ
                go_wp2_with fail
                refine (none_any _).mono ?_
                rintro e wN ⟨rfl, hdN⟩
                clear c0 c1 f0 f1
                replace hbC := hbC.upd (Upd.of_below hdN Nope) id
                replace hblC := hblC.trans (hdN.mono hblC.size)
                clear hdN
                have c0 := hbC.cell 0
                have c1 := hbC.cell 1
                have f0 := hbC.frozen 0
                have f1 := hbC.frozen 1
                simp only [List.getElem?_toArray, List.getElem?_cons_zero, List.getElem?_cons_succ] at c0 c1
                go_wp2_with fail
                obtain ⟨W4, hW4, d0, d1, hd4⟩ := par_fin hbC hblC (.string ⟨#[]⟩) (.string ⟨#[]⟩)
                rw [hW4]
                exact bodyPost_ret (v := .tuple #[.agg #[.string ⟨#[]⟩, .string ⟨#[]⟩], .string ⟨#[]⟩, .int .i64 2]) (by simp [results, Tryd.results11, go_sem, d0, d1]) rfl ⟨by rw [HRn.out]; rfl, hd4⟩
            · have HC := Lib.hid (fun W => cut_yes rest (bs a) (bs r) hl hi hrs W)
              have hsz : a.length + r.length + 1 = rest.size := by
                have := congrArg List.length hl
                simp only [List.length_append, List.length_cons, data_len] at this
                omega
              have hda : (bs a).data.toList = a := rfl
              have hsa : (bs a).size = a.length := rfl
              by_cases h64 : ∃ d : ByteArray, a = 64 :: d.data.toList
              · obtain ⟨d, hd⟩ := h64
                have HP := Lib.hid (fun W => pre_yes (bs a) d 64 (by rw [hda, hd]) W)
                have HT2 : Hid (R = tailD lo.data.toList d.data.toList r) := Lib.hid (by
                  rw [HT.out, hl, hd]; exact tail_some (by rw [← hd]; exact hna))
                have hds : d.size < 4294967281 := by
                  have := congrArg List.length hd
                  simp only [List.length_cons, data_len] at this
                  omega
                obtain ⟨B, hB⟩ : ∃ B, bs r = B := ⟨_, rfl⟩
                obtain ⟨A, hA⟩ : ∃ A, bs a = A := ⟨_, rfl⟩
                have HB := Lib.hid hB
                rw [hB, hA] at HC
                rw [hA] at HP
                have HD := Lib.hid (fun W => dom_any d W hds)
                have HSH := Lib.hid (fun W => shaped_any d W hds)
                obtain ⟨dd, hdd⟩ : ∃ dd, (domL d.data.toList).1 = dd := ⟨_, rfl⟩
                have hcode := domL_code d.data.toList
                unfold tailD at HT2
                rw [shapedB_eq] at HSH
                rw [hdd] at HD HT2
                generalize (domL d.data.toList).2 = de at HD HT2 hcode
                generalize shapedL d.data.toList = sh at HSH HT2
                rw [data_len] at HT2
                obtain ⟨D, hD⟩ : ∃ D, bs dd = D := ⟨_, rfl⟩
                have HDD := Lib.hid hD
                rw [hD] at HD
                clear hi hl hna hd HT hda hsa hsz hB hA hdd hD
                rcases hcode with rfl | rfl | rfl
                · cases sh with
                  | true =>
                    have HRn : Hid (R = ⟨[], [], [], 3⟩) := Lib.hid (by rw [HT2.out]; simp)
                    clear HT2
                    go_wp2_with fail
                    refine (HC.out _).mono ?_
                    rintro e wN ⟨rfl, hdN⟩
                    clear c0 c1 f0 f1
                    replace hbC := hbC.upd (Upd.of_below hdN Nope) id
                    replace hblC := hblC.trans (hdN.mono hblC.size)
                    clear hdN
                    have c0 := hbC.cell 0
                    have c1 := hbC.cell 1
                    have f0 := hbC.frozen 0
                    have f1 := hbC.frozen 1
                    simp only [List.getElem?_toArray, List.getElem?_cons_zero, List.getElem?_cons_succ] at c0 c1
                    go_wp2_with fail
                    refine (HP.out _).mono ?_
                    rintro e wQ ⟨rfl, hwQ⟩
                    obtain rfl := hwQ
                    go_wp2_with fail
                    refine (HD.out _).mono ?_
                    rintro e wN ⟨rfl, hdN⟩
                    clear c0 c1 f0 f1
                    replace hbC := hbC.upd (Upd.of_below hdN Nope) id
                    replace hblC := hblC.trans (hdN.mono hblC.size)
                    clear hdN
                    have c0 := hbC.cell 0
                    have c1 := hbC.cell 1
                    have f0 := hbC.frozen 0
                    have f1 := hbC.frozen 1
                    simp only [List.getElem?_toArray, List.getElem?_cons_zero, List.getElem?_cons_succ] at c0 c1
                    go_wp2_with fail
                    refine (HSH.out _).mono ?_
                    rintro e wN ⟨rfl, hdN⟩
                    clear c0 c1 f0 f1
                    replace hbC := hbC.upd (Upd.of_below hdN Nope) id
                    replace hblC := hblC.trans (hdN.mono hblC.size)
                    clear hdN
                    have c0 := hbC.cell 0
                    have c1 := hbC.cell 1
                    have f0 := hbC.frozen 0
                    have f1 := hbC.frozen 1
                    simp only [List.getElem?_toArray, List.getElem?_cons_zero, List.getElem?_cons_succ] at c0 c1
                    go_wp2_with fail
                    obtain ⟨W4, hW4, d0, d1, hd4⟩ := par_fin hbC hblC (.string ⟨#[]⟩) (.string ⟨#[]⟩)
                    rw [hW4]
                    exact bodyPost_ret (v := .tuple #[.agg #[.string ⟨#[]⟩, .string ⟨#[]⟩], .string ⟨#[]⟩, .int .i64 3]) (by simp [results, Tryd.results11, go_sem, d0, d1]) rfl ⟨by rw [HRn.out]; rfl, hd4⟩
                  | false =>
                    have HRn : Hid (R = .no) := Lib.hid (by rw [HT2.out]; simp)
                    clear HT2
                    go_wp2_with fail
                    refine (HC.out _).mono ?_
                    rintro e wN ⟨rfl, hdN⟩
                    clear c0 c1 f0 f1
                    replace hbC := hbC.upd (Upd.of_below hdN Nope) id
                    replace hblC := hblC.trans (hdN.mono hblC.size)
                    clear hdN
                    have c0 := hbC.cell 0
                    have c1 := hbC.cell 1
                    have f0 := hbC.frozen 0
                    have f1 := hbC.frozen 1
                    simp only [List.getElem?_toArray, List.getElem?_cons_zero, List.getElem?_cons_succ] at c0 c1
                    go_wp2_with fail
                    refine (HP.out _).mono ?_
                    rintro e wQ ⟨rfl, hwQ⟩
                    obtain rfl := hwQ
                    go_wp2_with fail
                    refine (HD.out _).mono ?_
                    rintro e wN ⟨rfl, hdN⟩
                    clear c0 c1 f0 f1
                    replace hbC := hbC.upd (Upd.of_below hdN Nope) id
                    replace hblC := hblC.trans (hdN.mono hblC.size)
                    clear hdN
                    have c0 := hbC.cell 0
                    have c1 := hbC.cell 1
                    have f0 := hbC.frozen 0
                    have f1 := hbC.frozen 1
                    simp only [List.getElem?_toArray, List.getElem?_cons_zero, List.getElem?_cons_succ] at c0 c1
                    go_wp2_with fail
                    refine (HSH.out _).mono ?_
                    rintro e wN ⟨rfl, hdN⟩
                    clear c0 c1 f0 f1
                    replace hbC := hbC.upd (Upd.of_below hdN Nope) id
                    replace hblC := hblC.trans (hdN.mono hblC.size)
                    clear hdN
                    have c0 := hbC.cell 0
                    have c1 := hbC.cell 1
                    have f0 := hbC.frozen 0
                    have f1 := hbC.frozen 1
                    simp only [List.getElem?_toArray, List.getElem?_cons_zero, List.getElem?_cons_succ] at c0 c1
                    go_wp2_with fail
                    refine (none_any _).mono ?_
                    rintro e wN ⟨rfl, hdN⟩
                    clear c0 c1 f0 f1
                    replace hbC := hbC.upd (Upd.of_below hdN Nope) id
                    replace hblC := hblC.trans (hdN.mono hblC.size)
                    clear hdN
                    have c0 := hbC.cell 0
                    have c1 := hbC.cell 1
                    have f0 := hbC.frozen 0
                    have f1 := hbC.frozen 1
                    simp only [List.getElem?_toArray, List.getElem?_cons_zero, List.getElem?_cons_succ] at c0 c1
                    go_wp2_with fail
                    obtain ⟨W4, hW4, d0, d1, hd4⟩ := par_fin hbC hblC (.string ⟨#[]⟩) (.string ⟨#[]⟩)
                    rw [hW4]
                    exact bodyPost_ret (v := .tuple #[.agg #[.string ⟨#[]⟩, .string ⟨#[]⟩], .string ⟨#[]⟩, .int .i64 2]) (by simp [results, Tryd.results11, go_sem, d0, d1]) rfl ⟨by rw [HRn.out]; rfl, hd4⟩
                · by_cases h64 : 64 < lo.size
                  · have HRn : Hid (R = ⟨[], [], [], 3⟩) := Lib.hid (by rw [HT2.out]; simp [h64])
                    clear HT2 HSH
                    go_wp2_with fail
                    refine (HC.out _).mono ?_
                    rintro e wN ⟨rfl, hdN⟩
                    clear c0 c1 f0 f1
                    replace hbC := hbC.upd (Upd.of_below hdN Nope) id
                    replace hblC := hblC.trans (hdN.mono hblC.size)
                    clear hdN
                    have c0 := hbC.cell 0
                    have c1 := hbC.cell 1
                    have f0 := hbC.frozen 0
                    have f1 := hbC.frozen 1
                    simp only [List.getElem?_toArray, List.getElem?_cons_zero, List.getElem?_cons_succ] at c0 c1
                    go_wp2_with fail
                    refine (HP.out _).mono ?_
                    rintro e wQ ⟨rfl, hwQ⟩
                    obtain rfl := hwQ
                    go_wp2_with fail
                    refine (HD.out _).mono ?_
                    rintro e wN ⟨rfl, hdN⟩
                    clear c0 c1 f0 f1
                    replace hbC := hbC.upd (Upd.of_below hdN Nope) id
                    replace hblC := hblC.trans (hdN.mono hblC.size)
                    clear hdN
                    have c0 := hbC.cell 0
                    have c1 := hbC.cell 1
                    have f0 := hbC.frozen 0
                    have f1 := hbC.frozen 1
                    simp only [List.getElem?_toArray, List.getElem?_cons_zero, List.getElem?_cons_succ] at c0 c1
                    go_wp2_with fail
                    obtain ⟨W4, hW4, d0, d1, hd4⟩ := par_fin hbC hblC (.string ⟨#[]⟩) (.string ⟨#[]⟩)
                    rw [hW4]
                    exact bodyPost_ret (v := .tuple #[.agg #[.string ⟨#[]⟩, .string ⟨#[]⟩], .string ⟨#[]⟩, .int .i64 3]) (by simp [results, Tryd.results11, go_sem, d0, d1]) rfl ⟨by rw [HRn.out]; rfl, hd4⟩
                  · have HRn : Hid (R = ⟨lo.data.toList, dd, r, 0⟩) := Lib.hid (by rw [HT2.out]; simp [h64])
                    clear HT2 HSH
                    go_wp2_with fail
                    refine (HC.out _).mono ?_
                    rintro e wN ⟨rfl, hdN⟩
                    clear c0 c1 f0 f1
                    replace hbC := hbC.upd (Upd.of_below hdN Nope) id
                    replace hblC := hblC.trans (hdN.mono hblC.size)
                    clear hdN
                    have c0 := hbC.cell 0
                    have c1 := hbC.cell 1
                    have f0 := hbC.frozen 0
                    have f1 := hbC.frozen 1
                    simp only [List.getElem?_toArray, List.getElem?_cons_zero, List.getElem?_cons_succ] at c0 c1
                    go_wp2_with fail
                    refine (HP.out _).mono ?_
                    rintro e wQ ⟨rfl, hwQ⟩
                    obtain rfl := hwQ
                    go_wp2_with fail
                    refine (HD.out _).mono ?_
                    rintro e wN ⟨rfl, hdN⟩
                    clear c0 c1 f0 f1
                    replace hbC := hbC.upd (Upd.of_below hdN Nope) id
                    replace hblC := hblC.trans (hdN.mono hblC.size)
                    clear hdN
                    have c0 := hbC.cell 0
                    have c1 := hbC.cell 1
                    have f0 := hbC.frozen 0
                    have f1 := hbC.frozen 1
                    simp only [List.getElem?_toArray, List.getElem?_cons_zero, List.getElem?_cons_succ] at c0 c1
                    go_wp2_with fail
                    obtain ⟨W4, hW4, d0, d1, hd4⟩ := par_fin hbC hblC (.string lo) (.string D)
                    rw [hW4]
                    exact bodyPost_ret (v := .tuple #[.agg #[.string lo, .string D], .string B, .int .i64 0]) (by simp [results, Tryd.results11, go_sem, d0, d1]) rfl ⟨by rw [HRn.out, ← HB.out, ← HDD.out, ← bs_of lo]; rfl, hd4⟩
                · have HRn : Hid (R = .no) := Lib.hid (by rw [HT2.out]; simp)
                  clear HT2 HSH
                  go_wp2_with fail
                  refine (HC.out _).mono ?_
                  rintro e wN ⟨rfl, hdN⟩
                  clear c0 c1 f0 f1
                  replace hbC := hbC.upd (Upd.of_below hdN Nope) id
                  replace hblC := hblC.trans (hdN.mono hblC.size)
                  clear hdN
                  have c0 := hbC.cell 0
                  have c1 := hbC.cell 1
                  have f0 := hbC.frozen 0
                  have f1 := hbC.frozen 1
                  simp only [List.getElem?_toArray, List.getElem?_cons_zero, List.getElem?_cons_succ] at c0 c1
                  go_wp2_with fail
                  refine (HP.out _).mono ?_
                  rintro e wQ ⟨rfl, hwQ⟩
                  obtain rfl := hwQ
                  go_wp2_with fail
                  refine (HD.out _).mono ?_
                  rintro e wN ⟨rfl, hdN⟩
                  clear c0 c1 f0 f1
                  replace hbC := hbC.upd (Upd.of_below hdN Nope) id
                  replace hblC := hblC.trans (hdN.mono hblC.size)
                  clear hdN
                  have c0 := hbC.cell 0
                  have c1 := hbC.cell 1
                  have f0 := hbC.frozen 0
                  have f1 := hbC.frozen 1
                  simp only [List.getElem?_toArray, List.getElem?_cons_zero, List.getElem?_cons_succ] at c0 c1
                  go_wp2_with fail
                  refine (none_any _).mono ?_
                  rintro e wN ⟨rfl, hdN⟩
                  clear c0 c1 f0 f1
                  replace hbC := hbC.upd (Upd.of_below hdN Nope) id
                  replace hblC := hblC.trans (hdN.mono hblC.size)
                  clear hdN
                  have c0 := hbC.cell 0
                  have c1 := hbC.cell 1
                  have f0 := hbC.frozen 0
                  have f1 := hbC.frozen 1
                  simp only [List.getElem?_toArray, List.getElem?_cons_zero, List.getElem?_cons_succ] at c0 c1
                  go_wp2_with fail
                  obtain ⟨W4, hW4, d0, d1, hd4⟩ := par_fin hbC hblC (.string ⟨#[]⟩) (.string ⟨#[]⟩)
                  rw [hW4]
                  exact bodyPost_ret (v := .tuple #[.agg #[.string ⟨#[]⟩, .string ⟨#[]⟩], .string ⟨#[]⟩, .int .i64 2]) (by simp [results, Tryd.results11, go_sem, d0, d1]) rfl ⟨by rw [HRn.out]; rfl, hd4⟩
              · have HRn : Hid (R = .no) := Lib.hid (by rw [HT.out, hl, tail_no64 hna (fun d h => h64 ⟨bs d, h⟩)])
                have HP := Lib.hid (fun W => pre_no (bs a) 64 (fun d h => h64 ⟨bs d, h⟩) W)
                obtain ⟨B, hB⟩ : ∃ B, bs r = B := ⟨_, rfl⟩
                obtain ⟨A, hA⟩ : ∃ A, bs a = A := ⟨_, rfl⟩
                rw [hB, hA] at HC
                rw [hA] at HP
                clear hi hl hna HT hda hsa hsz hB hA h64
                go_wp2_with fail
                refine (HC.out _).mono ?_
                rintro e wN ⟨rfl, hdN⟩
                clear c0 c1 f0 f1
                replace hbC := hbC.upd (Upd.of_below hdN Nope) id
                replace hblC := hblC.trans (hdN.mono hblC.size)
                clear hdN
                have c0 := hbC.cell 0
                have c1 := hbC.cell 1
                have f0 := hbC.frozen 0
                have f1 := hbC.frozen 1
                simp only [List.getElem?_toArray, List.getElem?_cons_zero, List.getElem?_cons_succ] at c0 c1
                go_wp2_with fail
                refine (HP.out _).mono ?_
                rintro e wQ ⟨rfl, hwQ⟩
                obtain rfl := hwQ
                go_wp2_with fail
                refine (none_any _).mono ?_
                rintro e wN ⟨rfl, hdN⟩
                clear c0 c1 f0 f1
                replace hbC := hbC.upd (Upd.of_below hdN Nope) id
                replace hblC := hblC.trans (hdN.mono hblC.size)
                clear hdN
                have c0 := hbC.cell 0
                have c1 := hbC.cell 1
                have f0 := hbC.frozen 0
                have f1 := hbC.frozen 1
                simp only [List.getElem?_toArray, List.getElem?_cons_zero, List.getElem?_cons_succ] at c0 c1
                go_wp2_with fail
                obtain ⟨W4, hW4, d0, d1, hd4⟩ := par_fin hbC hblC (.string ⟨#[]⟩) (.string ⟨#[]⟩)
                rw [hW4]
                exact bodyPost_ret (v := .tuple #[.agg #[.string ⟨#[]⟩, .string ⟨#[]⟩], .string ⟨#[]⟩, .int .i64 2]) (by simp [results, Tryd.results11, go_sem, d0, d1]) rfl ⟨by rw [HRn.out]; rfl, hd4⟩
      · have HH := Lib.hid (fun W => has_no t 34 (fun r h => h34 ⟨bs r, h⟩) W)
        have hR2 : R = bareL t.data.toList := by
          rw [← hR]
          cases hl : t.data.toList with
          | nil => rfl
          | cons b r =>
            have n1 : ¬ b = 62 := fun e => h62 ⟨bs r, by rw [hl, e]; rfl⟩
            have n2 : ¬ b = 34 := fun e => h34 ⟨bs r, by rw [hl, e]; rfl⟩
            show (if b = 62 then _ else if b = 34 then _ else bareL (b :: r)) = _
            rw [if_neg n1, if_neg n2]
        have hI := fun W => indexAny_any t W hts
        rcases any_cases t.data.toList with ⟨hi, hno⟩ | ⟨a, c, r, hl, hi, hc, hna⟩
        · rw [hi] at hI
          have HI := Lib.hid hI
          have HRn : Hid (R = .no) := Lib.hid (by rw [hR2, bare_none hno])
          clear hI hi hno hR2 hR ht h34 h62
          go_enter Tryd.func11, Tryd.ntmps11
          go_wp2_with fail
          generalize w.alloc (.cells #[.string ⟨#[]⟩, .string ⟨#[]⟩] 23) = wC at hbC hblC ⊢
          have c0 := hbC.cell 0
          have c1 := hbC.cell 1
          have f0 := hbC.frozen 0
          have f1 := hbC.frozen 1
          simp only [List.getElem?_toArray, List.getElem?_cons_zero, List.getElem?_cons_succ] at c0 c1
          refine (HP.out _).mono ?_
          rintro e wQ ⟨rfl, hwQ⟩
          obtain rfl := hwQ
          go_wp2_with fail
          refine (HQ.out _).mono ?_
          rintro e wQ ⟨rfl, hwQ⟩
          obtain rfl := hwQ
          go_wp2_with fail
          refine (HH.out _).mono ?_
          rintro e wQ ⟨rfl, hwQ⟩
          obtain rfl := hwQ
          go_wp2_with fail
          refine (HI.out _).mono ?_
          rintro e wN ⟨rfl, hdN⟩
          clear c0 c1 f0 f1
          replace hbC := hbC.upd hdN id
          replace hblC := hblC.trans ((hdN.below (fun _ h => h.elim)).mono hblC.size)
          clear hdN
          have c0 := hbC.cell 0
          have c1 := hbC.cell 1
          have f0 := hbC.frozen 0
          have f1 := hbC.frozen 1
          simp only [List.getElem?_toArray, List.getElem?_cons_zero, List.getElem?_cons_succ] at c0 c1
          go_wp2_with fail
          refine (none_any _).mono ?_
          rintro e wN ⟨rfl, hdN⟩
          clear c0 c1 f0 f1
          replace hbC := hbC.upd (Upd.of_below hdN Nope) id
          replace hblC := hblC.trans (hdN.mono hblC.size)
          clear hdN
          have c0 := hbC.cell 0
          have c1 := hbC.cell 1
          have f0 := hbC.frozen 0
          have f1 := hbC.frozen 1
          simp only [List.getElem?_toArray, List.getElem?_cons_zero, List.getElem?_cons_succ] at c0 c1
          go_wp2_with fail
          obtain ⟨W4, hW4, d0, d1, hd4⟩ := par_fin hbC hblC (.string ⟨#[]⟩) (.string ⟨#[]⟩)
          rw [hW4]
          exact bodyPost_ret (v := .tuple #[.agg #[.string ⟨#[]⟩, .string ⟨#[]⟩], .string ⟨#[]⟩, .int .i64 2]) (by simp [results, Tryd.results11, go_sem, d0, d1]) rfl ⟨by rw [HRn.out]; rfl, hd4⟩
        · rw [hi] at hI
          rw [hl, bare_some hna hc] at hR2
          have hsz : t.size = a.length + 1 + r.length := by
            have := congrArg List.length hl
            simp only [List.length_append, List.length_cons, data_len] at this
            omega
          have hc2 : c = 64 ∨ c = 62 := by simpa [stopB] using hc
          obtain ⟨lo, hlo⟩ : ∃ lo, bs a = lo := ⟨_, rfl⟩
          obtain ⟨rest, hrest⟩ : ∃ rest, bs (c :: r) = rest := ⟨_, rfl⟩
          obtain ⟨u, hu⟩ : ∃ u, bs r = u := ⟨_, rfl⟩
          have e1 : a = lo.data.toList := by rw [← hlo]; rfl
          have e2 : c :: r = rest.data.toList := by rw [← hrest]; rfl
          have e3 : r = u.data.toList := by rw [← hu]; rfl
          have hls : lo.size < 4294967281 := by rw [← hlo, bs_size]; omega
          have hrs : rest.size < 4294967281 := by rw [← hrest, bs_size, List.length_cons]; omega
          have x1 : t.extract 0 lo.size = lo := bytes_eq (by rw [ext_list, hl, List.drop_zero, Nat.sub_zero, e1]; exact List.take_left' (data_len lo))
          have x2 : t.extract lo.size t.size = rest := by
            rw [ext_drop, hl]
            apply bytes_eq
            rw [← e2, e1]
            exact List.drop_left' (data_len lo)
          have hal : a.length = lo.size := by rw [e1, data_len]
          rw [hal] at hI
          have hle : (lo.size : Int) ≤ (t.size : Int) := by omega
          have hle' : lo.size ≤ t.size := by omega
          have HI := Lib.hid hI
          have X1 := Lib.hid x1
          have X2 := Lib.hid x2
          have E2 := Lib.hid e2
          have E3 := Lib.hid e3
          have HA := Lib.hid (fun W => atoms_any lo W hls)
          rw [atomsB_eq] at HA
          rw [e1] at hR2
          clear hI hi hl hna hR ht h34 h62 x1 x2 hlo hrest hu e1 hal hsz hc e2 e3
          cases hat : atomsL lo.data.toList with
          | false =>
            rw [hat] at hR2 HA
            have HRn : Hid (R = .no) := Lib.hid hR2
            clear hR2 hat
            go_enter Tryd.func11, Tryd.ntmps11
            go_wp2_with fail
            generalize w.alloc (.cells #[.string ⟨#[]⟩, .string ⟨#[]⟩] 23) = wC at hbC hblC ⊢
            have c0 := hbC.cell 0
            have c1 := hbC.cell 1
            have f0 := hbC.frozen 0
            have f1 := hbC.frozen 1
            simp only [List.getElem?_toArray, List.getElem?_cons_zero, List.getElem?_cons_succ] at c0 c1
            refine (HP.out _).mono ?_
            rintro e wQ ⟨rfl, hwQ⟩
            obtain rfl := hwQ
            go_wp2_with fail
            refine (HQ.out _).mono ?_
            rintro e wQ ⟨rfl, hwQ⟩
            obtain rfl := hwQ
            go_wp2_with fail
            refine (HH.out _).mono ?_
            rintro e wQ ⟨rfl, hwQ⟩
            obtain rfl := hwQ
            go_wp2_with fail
            refine (HI.out _).mono ?_
            rintro e wN ⟨rfl, hdN⟩
            clear c0 c1 f0 f1
            replace hbC := hbC.upd hdN id
            replace hblC := hblC.trans ((hdN.below (fun _ h => h.elim)).mono hblC.size)
            clear hdN
            have c0 := hbC.cell 0
            have c1 := hbC.cell 1
            have f0 := hbC.frozen 0
            have f1 := hbC.frozen 1
            simp only [List.getElem?_toArray, List.getElem?_cons_zero, List.getElem?_cons_succ] at c0 c1
            go_wp2_with fail
            try rw [X1.out]
            refine (HA.out _).mono ?_
            rintro e wN ⟨rfl, hdN⟩
            clear c0 c1 f0 f1
            replace hbC := hbC.upd (Upd.of_below hdN Nope) id
            replace hblC := hblC.trans (hdN.mono hblC.size)
            clear hdN
            have c0 := hbC.cell 0
            have c1 := hbC.cell 1
            have f0 := hbC.frozen 0
            have f1 := hbC.frozen 1
            simp only [List.getElem?_toArray, List.getElem?_cons_zero, List.getElem?_cons_succ] at c0 c1
            go_wp2_with fail
            refine (none_any _).mono ?_
            rintro e wN ⟨rfl, hdN⟩
            clear c0 c1 f0 f1
            replace hbC := hbC.upd (Upd.of_below hdN Nope) id
            replace hblC := hblC.trans (hdN.mono hblC.size)
            clear hdN
            have c0 := hbC.cell 0
            have c1 := hbC.cell 1
            have f0 := hbC.frozen 0
            have f1 := hbC.frozen 1
            simp only [List.getElem?_toArray, List.getElem?_cons_zero, List.getElem?_cons_succ] at c0 c1
            go_wp2_with fail
            obtain ⟨W4, hW4, d0, d1, hd4⟩ := par_fin hbC hblC (.string ⟨#[]⟩) (.string ⟨#[]⟩)
            rw [hW4]
            exact bodyPost_ret (v := .tuple #[.agg #[.string ⟨#[]⟩, .string ⟨#[]⟩], .string ⟨#[]⟩, .int .i64 2]) (by simp [results, Tryd.results11, go_sem, d0, d1]) rfl ⟨by rw [HRn.out]; rfl, hd4⟩
          | true =>
            have HLW := Lib.hid (fun W => lower_any lo hat hls W)
            rw [hat] at hR2 HA
            rw [if_pos rfl] at hR2
            clear hat
            rcases hc2 with rfl | rfl
            · rw [if_neg (by decide), E2.out] at hR2
              have HT := Lib.hid hR2
              have HPN := Lib.hid (fun W => pre_no rest 62 (fun r' h => by rw [← E2.out] at h; injection h with h; exact absurd h (by decide)) W)
              clear hR2 HLW
              go_enter Tryd.func11, Tryd.ntmps11
              go_wp2_with fail
              generalize w.alloc (.cells #[.string ⟨#[]⟩, .string ⟨#[]⟩] 23) = wC at hbC hblC ⊢
              have c0 := hbC.cell 0
              have c1 := hbC.cell 1
              have f0 := hbC.frozen 0
              have f1 := hbC.frozen 1
              simp only [List.getElem?_toArray, List.getElem?_cons_zero, List.getElem?_cons_succ] at c0 c1
              refine (HP.out _).mono ?_
              rintro e wQ ⟨rfl, hwQ⟩
              obtain rfl := hwQ
              go_wp2_with fail
              refine (HQ.out _).mono ?_
              rintro e wQ ⟨rfl, hwQ⟩
              obtain rfl := hwQ
              go_wp2_with fail
              refine (HH.out _).mono ?_
              rintro e wQ ⟨rfl, hwQ⟩
              obtain rfl := hwQ
              go_wp2_with fail
              refine (HI.out _).mono ?_
              rintro e wN ⟨rfl, hdN⟩
              clear c0 c1 f0 f1
              replace hbC := hbC.upd hdN id
              replace hblC := hblC.trans ((hdN.below (fun _ h => h.elim)).mono hblC.size)
              clear hdN
              have c0 := hbC.cell 0
              have c1 := hbC.cell 1
              have f0 := hbC.frozen 0
              have f1 := hbC.frozen 1
              simp only [List.getElem?_toArray, List.getElem?_cons_zero, List.getElem?_cons_succ] at c0 c1
              go_wp2_with fail
              try rw [X1.out]
              refine (HA.out _).mono ?_
              rintro e wN ⟨rfl, hdN⟩
              clear c0 c1 f0 f1
              replace hbC := hbC.upd (Upd.of_below hdN Nope) id
              replace hblC := hblC.trans (hdN.mono hblC.size)
              clear hdN
              have c0 := hbC.cell 0
              have c1 := hbC.cell 1
              have f0 := hbC.frozen 0
              have f1 := hbC.frozen 1
              simp only [List.getElem?_toArray, List.getElem?_cons_zero, List.getElem?_cons_succ] at c0 c1
              go_wp2_with fail
              go_region
              go_wp2_with fail
              try rw [X2.out]
              clear c0 c1 f0 f1
              replace hbC := hbC.drew
              replace hblC := hblC.trans ((Below.refl _ _).drew)
              have c0 := hbC.cell 0
              have c1 := hbC.cell 1
              have f0 := hbC.frozen 0
              have f1 := hbC.frozen 1
              simp only [List.getElem?_toArray, List.getElem?_cons_zero, List.getElem?_cons_succ] at c0 c1
              try rw [X1.out, X2.out]
              refine (HPN.out _).mono ?_
              rintro e wQ ⟨rfl, hwQ⟩
              obtain rfl := hwQ
              go_upto_region 22 with (fail)
              try rw [X1.out]
              clear HP HQ HH HI HA HPN hle hle'
              rcases index_cases 62 rest.data.toList with ⟨hi, hno⟩ | ⟨a, r, hl, hi, hna⟩
              · have HRn : Hid (R = .no) := Lib.hid (by rw [HT.out, tail_none hno])
                have HC := Lib.hid (fun W => cut_no rest hi W)
                by_cases h64 : ∃ d : ByteArray, rest.data.toList = 64 :: d.data.toList
                · obtain ⟨d, hd⟩ := h64
                  have HP := Lib.hid (fun W => pre_yes rest d 64 hd W)
                  clear hi hno hd HT
                  go_wp2_with fail
                  refine (HC.out _).mono ?_
                  rintro e wN ⟨rfl, hdN⟩
                  clear c0 c1 f0 f1
                  replace hbC := hbC.upd (Upd.of_below hdN Nope) id
                  replace hblC := hblC.trans (hdN.mono hblC.size)
                  clear hdN
                  have c0 := hbC.cell 0
                  have c1 := hbC.cell 1
                  have f0 := hbC.frozen 0
                  have f1 := hbC.frozen 1
                  simp only [List.getElem?_toArray, List.getElem?_cons_zero, List.getElem?_cons_succ] at c0 c1
                  go_wp2_with fail
                  refine (HP.out _).mono ?_
                  rintro e wQ ⟨rfl, hwQ⟩
                  obtain rfl := hwQ
                  go_wp2_with fail
                  refine (none_any _).mono ?_
                  rintro e wN ⟨rfl, hdN⟩
                  clear c0 c1 f0 f1
                  replace hbC := hbC.upd (Upd.of_below hdN Nope) id
                  replace hblC := hblC.trans (hdN.mono hblC.size)
                  clear hdN
                  have c0 := hbC.cell 0
                  have c1 := hbC.cell 1
                  have f0 := hbC.frozen 0
                  have f1 := hbC.frozen 1
                  simp only [List.getElem?_toArray, List.getElem?_cons_zero, List.getElem?_cons_succ] at c0 c1
                  go_wp2_with fail
                  obtain ⟨W4, hW4, d0, d1, hd4⟩ := par_fin hbC hblC (.string ⟨#[]⟩) (.string ⟨#[]⟩)
                  rw [hW4]
                  exact bodyPost_ret (v := .tuple #[.agg #[.string ⟨#[]⟩, .string ⟨#[]⟩], .string ⟨#[]⟩, .int .i64 2]) (by simp [results, Tryd.results11, go_sem, d0, d1]) rfl ⟨by rw [HRn.out]; rfl, hd4⟩
                · have HP := Lib.hid (fun W => pre_no rest 64 (fun r h => h64 ⟨bs r, h⟩) W)
                  clear hi hno h64 HT
                  go_wp2_with fail
                  refine (HC.out _).mono ?_
                  rintro e wN ⟨rfl, hdN⟩
                  clear c0 c1 f0 f1
                  replace hbC := hbC.upd (Upd.of_below hdN Nope) id
                  replace hblC := hblC.trans (hdN.mono hblC.size)
                  clear hdN
                  have c0 := hbC.cell 0
                  have c1 := hbC.cell 1
                  have f0 := hbC.frozen 0
                  have f1 := hbC.frozen 1
                  simp only [List.getElem?_toArray, List.getElem?_cons_zero, List.getElem?_cons_succ] at c0 c1
                  go_wp2_with fail
                  refine (HP.out _).mono ?_
                  rintro e wQ ⟨rfl, hwQ⟩
                  obtain rfl := hwQ
                  go_wp2_with fail
                  refine (none_any _).mono ?_
                  rintro e wN ⟨rfl, hdN⟩
                  clear c0 c1 f0 f1
                  replace hbC := hbC.upd (Upd.of_below hdN Nope) id
                  replace hblC := hblC.trans (hdN.mono hblC.size)
                  clear hdN
                  have c0 := hbC.cell 0
                  have c1 := hbC.cell 1
                  have f0 := hbC.frozen 0
                  have f1 := hbC.frozen 1
                  simp only [List.getElem?_toArray, List.getElem?_cons_zero, List.getElem?_cons_succ] at c0 c1
                  go_wp2_with fail
                  obtain ⟨W4, hW4, d0, d1, hd4⟩ := par_fin hbC hblC (.string ⟨#[]⟩) (.string ⟨#[]⟩)
                  rw [hW4]
                  exact bodyPost_ret (v := .tuple #[.agg #[.string ⟨#[]⟩, .string ⟨#[]⟩], .string ⟨#[]⟩, .int .i64 2]) (by simp [results, Tryd.results11, go_sem, d0, d1]) rfl ⟨by rw [HRn.out]; rfl, hd4⟩
              · have HC := Lib.hid (fun W => cut_yes rest (bs a) (bs r) hl hi hrs W)
                have hsz : a.length + r.length + 1 = rest.size := by
                  have := congrArg List.length hl
                  simp only [List.length_append, List.length_cons, data_len] at this
                  omega
                have hda : (bs a).data.toList = a := rfl
                have hsa : (bs a).size = a.length := rfl
                by_cases h64 : ∃ d : ByteArray, a = 64 :: d.data.toList
                · obtain ⟨d, hd⟩ := h64
                  have HP := Lib.hid (fun W => pre_yes (bs a) d 64 (by rw [hda, hd]) W)
                  have HT2 : Hid (R = tailD lo.data.toList d.data.toList r) := Lib.hid (by
                    rw [HT.out, hl, hd]; exact tail_some (by rw [← hd]; exact hna))
                  have hds : d.size < 4294967281 := by
                    have := congrArg List.length hd
                    simp only [List.length_cons, data_len] at this
                    omega
                  obtain ⟨B, hB⟩ : ∃ B, bs r = B := ⟨_, rfl⟩
                  obtain ⟨A, hA⟩ : ∃ A, bs a = A := ⟨_, rfl⟩
                  have HB := Lib.hid hB
                  rw [hB, hA] at HC
                  rw [hA] at HP
                  have HD := Lib.hid (fun W => dom_any d W hds)
                  have HSH := Lib.hid (fun W => shaped_any d W hds)
                  obtain ⟨dd, hdd⟩ : ∃ dd, (domL d.data.toList).1 = dd := ⟨_, rfl⟩
                  have hcode := domL_code d.data.toList
                  unfold tailD at HT2
                  rw [shapedB_eq] at HSH
                  rw [hdd] at HD HT2
                  generalize (domL d.data.toList).2 = de at HD HT2 hcode
                  generalize shapedL d.data.toList = sh at HSH HT2
                  rw [data_len] at HT2
                  obtain ⟨D, hD⟩ : ∃ D, bs dd = D := ⟨_, rfl⟩
                  have HDD := Lib.hid hD
                  rw [hD] at HD
                  clear hi hl hna hd HT hda hsa hsz hB hA hdd hD
                  rcases hcode with rfl | rfl | rfl
                  · cases sh with
                    | true =>
                      have HRn : Hid (R = ⟨[], [], [], 3⟩) := Lib.hid (by rw [HT2.out]; simp)
                      clear HT2
                      go_wp2_with fail
                      refine (HC.out _).mono ?_
                      rintro e wN ⟨rfl, hdN⟩
                      clear c0 c1 f0 f1
                      replace hbC := hbC.upd (Upd.of_below hdN Nope) id
                      replace hblC := hblC.trans (hdN.mono hblC.size)
                      clear hdN
                      have c0 := hbC.cell 0
                      have c1 := hbC.cell 1
                      have f0 := hbC.frozen 0
                      have f1 := hbC.frozen 1
                      simp only [List.getElem?_toArray, List.getElem?_cons_zero, List.getElem?_cons_succ] at c0 c1
                      go_wp2_with fail
                      refine (HP.out _).mono ?_
                      rintro e wQ ⟨rfl, hwQ⟩
                      obtain rfl := hwQ
                      go_wp2_with fail
                      refine (HD.out _).mono ?_
                      rintro e wN ⟨rfl, hdN⟩
                      clear c0 c1 f0 f1
                      replace hbC := hbC.upd (Upd.of_below hdN Nope) id
                      replace hblC := hblC.trans (hdN.mono hblC.size)
                      clear hdN
                      have c0 := hbC.cell 0
                      have c1 := hbC.cell 1
                      have f0 := hbC.frozen 0
                      have f1 := hbC.frozen 1
                      simp only [List.getElem?_toArray, List.getElem?_cons_zero, List.getElem?_cons_succ] at c0 c1
                      go_wp2_with fail
                      refine (HSH.out _).mono ?_
                      rintro e wN ⟨rfl, hdN⟩
                      clear c0 c1 f0 f1
                      replace hbC := hbC.upd (Upd.of_below hdN Nope) id
                      replace hblC := hblC.trans (hdN.mono hblC.size)
                      clear hdN
                      have c0 := hbC.cell 0
                      have c1 := hbC.cell 1
                      have f0 := hbC.frozen 0
                      have f1 := hbC.frozen 1
                      simp only [List.getElem?_toArray, List.getElem?_cons_zero, List.getElem?_cons_succ] at c0 c1
                      go_wp2_with fail
                      obtain ⟨W4, hW4, d0, d1, hd4⟩ := par_fin hbC hblC (.string ⟨#[]⟩) (.string ⟨#[]⟩)
                      rw [hW4]
                      exact bodyPost_ret (v := .tuple #[.agg #[.string ⟨#[]⟩, .string ⟨#[]⟩], .string ⟨#[]⟩, .int .i64 3]) (by simp [results, Tryd.results11, go_sem, d0, d1]) rfl ⟨by rw [HRn.out]; rfl, hd4⟩
                    | false =>
                      have HRn : Hid (R = .no) := Lib.hid (by rw [HT2.out]; simp)
                      clear HT2
                      go_wp2_with fail
                      refine (HC.out _).mono ?_
                      rintro e wN ⟨rfl, hdN⟩
                      clear c0 c1 f0 f1
                      replace hbC := hbC.upd (Upd.of_below hdN Nope) id
                      replace hblC := hblC.trans (hdN.mono hblC.size)
                      clear hdN
                      have c0 := hbC.cell 0
                      have c1 := hbC.cell 1
                      have f0 := hbC.frozen 0
                      have f1 := hbC.frozen 1
                      simp only [List.getElem?_toArray, List.getElem?_cons_zero, List.getElem?_cons_succ] at c0 c1
                      go_wp2_with fail
                      refine (HP.out _).mono ?_
                      rintro e wQ ⟨rfl, hwQ⟩
                      obtain rfl := hwQ
                      go_wp2_with fail
                      refine (HD.out _).mono ?_
                      rintro e wN ⟨rfl, hdN⟩
                      clear c0 c1 f0 f1
                      replace hbC := hbC.upd (Upd.of_below hdN Nope) id
                      replace hblC := hblC.trans (hdN.mono hblC.size)
                      clear hdN
                      have c0 := hbC.cell 0
                      have c1 := hbC.cell 1
                      have f0 := hbC.frozen 0
                      have f1 := hbC.frozen 1
                      simp only [List.getElem?_toArray, List.getElem?_cons_zero, List.getElem?_cons_succ] at c0 c1
                      go_wp2_with fail
                      refine (HSH.out _).mono ?_
                      rintro e wN ⟨rfl, hdN⟩
                      clear c0 c1 f0 f1
                      replace hbC := hbC.upd (Upd.of_below hdN Nope) id
                      replace hblC := hblC.trans (hdN.mono hblC.size)
                      clear hdN
                      have c0 := hbC.cell 0
                      have c1 := hbC.cell 1
                      have f0 := hbC.frozen 0
                      have f1 := hbC.frozen 1
                      simp only [List.getElem?_toArray, List.getElem?_cons_zero, List.getElem?_cons_succ] at c0 c1
                      go_wp2_with fail
                      refine (none_any _).mono ?_
                      rintro e wN ⟨rfl, hdN⟩
                      clear c0 c1 f0 f1
                      replace hbC := hbC.upd (Upd.of_below hdN Nope) id
                      replace hblC := hblC.trans (hdN.mono hblC.size)
                      clear hdN
                      have c0 := hbC.cell 0
                      have c1 := hbC.cell 1
                      have f0 := hbC.frozen 0
                      have f1 := hbC.frozen 1
                      simp only [List.getElem?_toArray, List.getElem?_cons_zero, List.getElem?_cons_succ] at c0 c1
                      go_wp2_with fail
                      obtain ⟨W4, hW4, d0, d1, hd4⟩ := par_fin hbC hblC (.string ⟨#[]⟩) (.string ⟨#[]⟩)
                      rw [hW4]
                      exact bodyPost_ret (v := .tuple #[.agg #[.string ⟨#[]⟩, .string ⟨#[]⟩], .string ⟨#[]⟩, .int .i64 2]) (by simp [results, Tryd.results11, go_sem, d0, d1]) rfl ⟨by rw [HRn.out]; rfl, hd4⟩
                  · by_cases h64 : 64 < lo.size
                    · have HRn : Hid (R = ⟨[], [], [], 3⟩) := Lib.hid (by rw [HT2.out]; simp [h64])
                      clear HT2 HSH
                      go_wp2_with fail
                      refine (HC.out _).mono ?_
                      rintro e wN ⟨rfl, hdN⟩
                      clear c0 c1 f0 f1
                      replace hbC := hbC.upd (Upd.of_below hdN Nope) id
                      replace hblC := hblC.trans (hdN.mono hblC.size)
                      clear hdN
                      have c0 := hbC.cell 0
                      have c1 := hbC.cell 1
                      have f0 := hbC.frozen 0
                      have f1 := hbC.frozen 1
                      simp only [List.getElem?_toArray, List.getElem?_cons_zero, List.getElem?_cons_succ] at c0 c1
                      go_wp2_with fail
                      refine (HP.out _).mono ?_
                      rintro e wQ ⟨rfl, hwQ⟩
                      obtain rfl := hwQ
                      go_wp2_with fail
                      refine (HD.out _).mono ?_
                      rintro e wN ⟨rfl, hdN⟩
                      clear c0 c1 f0 f1
                      replace hbC := hbC.upd (Upd.of_below hdN Nope) id
                      replace hblC := hblC.trans (hdN.mono hblC.size)
                      clear hdN
                      have c0 := hbC.cell 0
                      have c1 := hbC.cell 1
                      have f0 := hbC.frozen 0
                      have f1 := hbC.frozen 1
                      simp only [List.getElem?_toArray, List.getElem?_cons_zero, List.getElem?_cons_succ] at c0 c1
                      go_wp2_with fail
                      obtain ⟨W4, hW4, d0, d1, hd4⟩ := par_fin hbC hblC (.string ⟨#[]⟩) (.string ⟨#[]⟩)
                      rw [hW4]
                      exact bodyPost_ret (v := .tuple #[.agg #[.string ⟨#[]⟩, .string ⟨#[]⟩], .string ⟨#[]⟩, .int .i64 3]) (by simp [results, Tryd.results11, go_sem, d0, d1]) rfl ⟨by rw [HRn.out]; rfl, hd4⟩
                    · have HRn : Hid (R = ⟨lo.data.toList, dd, r, 0⟩) := Lib.hid (by rw [HT2.out]; simp [h64])
                      clear HT2 HSH
                      go_wp2_with fail
                      refine (HC.out _).mono ?_
                      rintro e wN ⟨rfl, hdN⟩
                      clear c0 c1 f0 f1
                      replace hbC := hbC.upd (Upd.of_below hdN Nope) id
                      replace hblC := hblC.trans (hdN.mono hblC.size)
                      clear hdN
                      have c0 := hbC.cell 0
                      have c1 := hbC.cell 1
                      have f0 := hbC.frozen 0
                      have f1 := hbC.frozen 1
                      simp only [List.getElem?_toArray, List.getElem?_cons_zero, List.getElem?_cons_succ] at c0 c1
                      go_wp2_with fail
                      refine (HP.out _).mono ?_
                      rintro e wQ ⟨rfl, hwQ⟩
                      obtain rfl := hwQ
                      go_wp2_with fail
                      refine (HD.out _).mono ?_
                      rintro e wN ⟨rfl, hdN⟩
                      clear c0 c1 f0 f1
                      replace hbC := hbC.upd (Upd.of_below hdN Nope) id
                      replace hblC := hblC.trans (hdN.mono hblC.size)
                      clear hdN
                      have c0 := hbC.cell 0
                      have c1 := hbC.cell 1
                      have f0 := hbC.frozen 0
                      have f1 := hbC.frozen 1
                      simp only [List.getElem?_toArray, List.getElem?_cons_zero, List.getElem?_cons_succ] at c0 c1
                      go_wp2_with fail
                      obtain ⟨W4, hW4, d0, d1, hd4⟩ := par_fin hbC hblC (.string lo) (.string D)
                      rw [hW4]
                      exact bodyPost_ret (v := .tuple #[.agg #[.string lo, .string D], .string B, .int .i64 0]) (by simp [results, Tryd.results11, go_sem, d0, d1]) rfl ⟨by rw [HRn.out, ← HB.out, ← HDD.out, ← bs_of lo]; rfl, hd4⟩
                  · have HRn : Hid (R = .no) := Lib.hid (by rw [HT2.out]; simp)
                    clear HT2 HSH
                    go_wp2_with fail
                    refine (HC.out _).mono ?_
                    rintro e wN ⟨rfl, hdN⟩
                    clear c0 c1 f0 f1
                    replace hbC := hbC.upd (Upd.of_below hdN Nope) id
                    replace hblC := hblC.trans (hdN.mono hblC.size)
                    clear hdN
                    have c0 := hbC.cell 0
                    have c1 := hbC.cell 1
                    have f0 := hbC.frozen 0
                    have f1 := hbC.frozen 1
                    simp only [List.getElem?_toArray, List.getElem?_cons_zero, List.getElem?_cons_succ] at c0 c1
                    go_wp2_with fail
                    refine (HP.out _).mono ?_
                    rintro e wQ ⟨rfl, hwQ⟩
                    obtain rfl := hwQ
                    go_wp2_with fail
                    refine (HD.out _).mono ?_
                    rintro e wN ⟨rfl, hdN⟩
                    clear c0 c1 f0 f1
                    replace hbC := hbC.upd (Upd.of_below hdN Nope) id
                    replace hblC := hblC.trans (hdN.mono hblC.size)
                    clear hdN
                    have c0 := hbC.cell 0
                    have c1 := hbC.cell 1
                    have f0 := hbC.frozen 0
                    have f1 := hbC.frozen 1
                    simp only [List.getElem?_toArray, List.getElem?_cons_zero, List.getElem?_cons_succ] at c0 c1
                    go_wp2_with fail
                    refine (none_any _).mono ?_
                    rintro e wN ⟨rfl, hdN⟩
                    clear c0 c1 f0 f1
                    replace hbC := hbC.upd (Upd.of_below hdN Nope) id
                    replace hblC := hblC.trans (hdN.mono hblC.size)
                    clear hdN
                    have c0 := hbC.cell 0
                    have c1 := hbC.cell 1
                    have f0 := hbC.frozen 0
                    have f1 := hbC.frozen 1
                    simp only [List.getElem?_toArray, List.getElem?_cons_zero, List.getElem?_cons_succ] at c0 c1
                    go_wp2_with fail
                    obtain ⟨W4, hW4, d0, d1, hd4⟩ := par_fin hbC hblC (.string ⟨#[]⟩) (.string ⟨#[]⟩)
                    rw [hW4]
                    exact bodyPost_ret (v := .tuple #[.agg #[.string ⟨#[]⟩, .string ⟨#[]⟩], .string ⟨#[]⟩, .int .i64 2]) (by simp [results, Tryd.results11, go_sem, d0, d1]) rfl ⟨by rw [HRn.out]; rfl, hd4⟩
                · have HRn : Hid (R = .no) := Lib.hid (by rw [HT.out, hl, tail_no64 hna (fun d h => h64 ⟨bs d, h⟩)])
                  have HP := Lib.hid (fun W => pre_no (bs a) 64 (fun d h => h64 ⟨bs d, h⟩) W)
                  obtain ⟨B, hB⟩ : ∃ B, bs r = B := ⟨_, rfl⟩
                  obtain ⟨A, hA⟩ : ∃ A, bs a = A := ⟨_, rfl⟩
                  rw [hB, hA] at HC
                  rw [hA] at HP
                  clear hi hl hna HT hda hsa hsz hB hA h64
                  go_wp2_with fail
                  refine (HC.out _).mono ?_
                  rintro e wN ⟨rfl, hdN⟩
                  clear c0 c1 f0 f1
                  replace hbC := hbC.upd (Upd.of_below hdN Nope) id
                  replace hblC := hblC.trans (hdN.mono hblC.size)
                  clear hdN
                  have c0 := hbC.cell 0
                  have c1 := hbC.cell 1
                  have f0 := hbC.frozen 0
                  have f1 := hbC.frozen 1
                  simp only [List.getElem?_toArray, List.getElem?_cons_zero, List.getElem?_cons_succ] at c0 c1
                  go_wp2_with fail
                  refine (HP.out _).mono ?_
                  rintro e wQ ⟨rfl, hwQ⟩
                  obtain rfl := hwQ
                  go_wp2_with fail
                  refine (none_any _).mono ?_
                  rintro e wN ⟨rfl, hdN⟩
                  clear c0 c1 f0 f1
                  replace hbC := hbC.upd (Upd.of_below hdN Nope) id
                  replace hblC := hblC.trans (hdN.mono hblC.size)
                  clear hdN
                  have c0 := hbC.cell 0
                  have c1 := hbC.cell 1
                  have f0 := hbC.frozen 0
                  have f1 := hbC.frozen 1
                  simp only [List.getElem?_toArray, List.getElem?_cons_zero, List.getElem?_cons_succ] at c0 c1
                  go_wp2_with fail
                  obtain ⟨W4, hW4, d0, d1, hd4⟩ := par_fin hbC hblC (.string ⟨#[]⟩) (.string ⟨#[]⟩)
                  rw [hW4]
                  exact bodyPost_ret (v := .tuple #[.agg #[.string ⟨#[]⟩, .string ⟨#[]⟩], .string ⟨#[]⟩, .int .i64 2]) (by simp [results, Tryd.results11, go_sem, d0, d1]) rfl ⟨by rw [HRn.out]; rfl, hd4⟩
            · rw [if_pos rfl] at hR2
              have HPY := Lib.hid (fun W => pre_yes rest u 62 (by rw [← E2.out, E3.out]) W)
              by_cases hpo : Lib.toLowerA lo.data.toList = postL
              · rw [if_pos hpo] at hR2
                have HRn : Hid (R = ⟨postL, [], u.data.toList, 0⟩) := Lib.hid (by rw [hR2, E3.out])
                rw [hpo] at HLW
                have hlw : ∀ W, Calls Tryd.prog 28 #[.string lo] W fun e w' => e = .returned (.string ⟨#[112, 111, 115, 116, 109, 97, 115, 116, 101, 114]⟩) ∧ Below W.heap.size W w' := HLW.out
                have HL := Lib.hid hlw
                clear hR2 hlw HLW hpo
                go_enter Tryd.func11, Tryd.ntmps11
                go_wp2_with fail
                generalize w.alloc (.cells #[.string ⟨#[]⟩, .string ⟨#[]⟩] 23) = wC at hbC hblC ⊢
                have c0 := hbC.cell 0
                have c1 := hbC.cell 1
                have f0 := hbC.frozen 0
                have f1 := hbC.frozen 1
                simp only [List.getElem?_toArray, List.getElem?_cons_zero, List.getElem?_cons_succ] at c0 c1
                refine (HP.out _).mono ?_
                rintro e wQ ⟨rfl, hwQ⟩
                obtain rfl := hwQ
                go_wp2_with fail
                refine (HQ.out _).mono ?_
                rintro e wQ ⟨rfl, hwQ⟩
                obtain rfl := hwQ
                go_wp2_with fail
                refine (HH.out _).mono ?_
                rintro e wQ ⟨rfl, hwQ⟩
                obtain rfl := hwQ
                go_wp2_with fail
                refine (HI.out _).mono ?_
                rintro e wN ⟨rfl, hdN⟩
                clear c0 c1 f0 f1
                replace hbC := hbC.upd hdN id
                replace hblC := hblC.trans ((hdN.below (fun _ h => h.elim)).mono hblC.size)
                clear hdN
                have c0 := hbC.cell 0
                have c1 := hbC.cell 1
                have f0 := hbC.frozen 0
                have f1 := hbC.frozen 1
                simp only [List.getElem?_toArray, List.getElem?_cons_zero, List.getElem?_cons_succ] at c0 c1
                go_wp2_with fail
                try rw [X1.out]
                refine (HA.out _).mono ?_
                rintro e wN ⟨rfl, hdN⟩
                clear c0 c1 f0 f1
                replace hbC := hbC.upd (Upd.of_below hdN Nope) id
                replace hblC := hblC.trans (hdN.mono hblC.size)
                clear hdN
                have c0 := hbC.cell 0
                have c1 := hbC.cell 1
                have f0 := hbC.frozen 0
                have f1 := hbC.frozen 1
                simp only [List.getElem?_toArray, List.getElem?_cons_zero, List.getElem?_cons_succ] at c0 c1
                go_wp2_with fail
                go_region
                go_wp2_with fail
                clear c0 c1 f0 f1
                replace hbC := hbC.drew
                replace hblC := hblC.trans ((Below.refl _ _).drew)
                have c0 := hbC.cell 0
                have c1 := hbC.cell 1
                have f0 := hbC.frozen 0
                have f1 := hbC.frozen 1
                simp only [List.getElem?_toArray, List.getElem?_cons_zero, List.getElem?_cons_succ] at c0 c1
                try rw [X1.out, X2.out]
                refine (HPY.out _).mono ?_
                rintro e wQ ⟨rfl, hwQ⟩
                obtain rfl := hwQ
                go_wp2_with fail
                try rw [X1.out]
                refine (HL.out _).mono ?_
                rintro e wN ⟨rfl, hdN⟩
                clear c0 c1 f0 f1
                replace hbC := hbC.upd (Upd.of_below hdN Nope) id
                replace hblC := hblC.trans (hdN.mono hblC.size)
                clear hdN
                have c0 := hbC.cell 0
                have c1 := hbC.cell 1
                have f0 := hbC.frozen 0
                have f1 := hbC.frozen 1
                simp only [List.getElem?_toArray, List.getElem?_cons_zero, List.getElem?_cons_succ] at c0 c1
                go_wp2_with fail
                obtain ⟨W4, hW4, d0, d1, hd4⟩ := par_fin hbC hblC (.string ⟨#[112, 111, 115, 116, 109, 97, 115, 116, 101, 114]⟩) (.string ⟨#[]⟩)
                rw [hW4]
                exact bodyPost_ret (v := .tuple #[.agg #[.string ⟨#[112, 111, 115, 116, 109, 97, 115, 116, 101, 114]⟩, .string ⟨#[]⟩], .string u, .int .i64 0]) (by simp [results, Tryd.results11, go_sem, d0, d1]) rfl ⟨by rw [HRn.out, ← bs_of u]; rfl, hd4⟩
              · rw [if_neg hpo] at hR2
                have HRn : Hid (R = .no) := Lib.hid hR2
                obtain ⟨L, hL⟩ : ∃ L, bs (Lib.toLowerA lo.data.toList) = L := ⟨_, rfl⟩
                have hLn : ¬ L.toList = [112, 111, 115, 116, 109, 97, 115, 116, 101, 114] := by
                  intro h
                  apply hpo
                  rw [ByteArray.toList_eq, ← hL] at h
                  exact h
                rw [hL] at HLW
                have hLn2 : (L.toList == [112, 111, 115, 116, 109, 97, 115, 116, 101, 114]) = false := by simpa using hLn
                have hLn3 : (L.toList != [112, 111, 115, 116, 109, 97, 115, 116, 101, 114]) = true := by simpa using hLn
                clear hR2 hpo hL
                go_enter Tryd.func11, Tryd.ntmps11
                go_wp2_with fail
                generalize w.alloc (.cells #[.string ⟨#[]⟩, .string ⟨#[]⟩] 23) = wC at hbC hblC ⊢
                have c0 := hbC.cell 0
                have c1 := hbC.cell 1
                have f0 := hbC.frozen 0
                have f1 := hbC.frozen 1
                simp only [List.getElem?_toArray, List.getElem?_cons_zero, List.getElem?_cons_succ] at c0 c1
                refine (HP.out _).mono ?_
                rintro e wQ ⟨rfl, hwQ⟩
                obtain rfl := hwQ
                go_wp2_with fail
                refine (HQ.out _).mono ?_
                rintro e wQ ⟨rfl, hwQ⟩
                obtain rfl := hwQ
                go_wp2_with fail
                refine (HH.out _).mono ?_
                rintro e wQ ⟨rfl, hwQ⟩
                obtain rfl := hwQ
                go_wp2_with fail
                refine (HI.out _).mono ?_
                rintro e wN ⟨rfl, hdN⟩
                clear c0 c1 f0 f1
                replace hbC := hbC.upd hdN id
                replace hblC := hblC.trans ((hdN.below (fun _ h => h.elim)).mono hblC.size)
                clear hdN
                have c0 := hbC.cell 0
                have c1 := hbC.cell 1
                have f0 := hbC.frozen 0
                have f1 := hbC.frozen 1
                simp only [List.getElem?_toArray, List.getElem?_cons_zero, List.getElem?_cons_succ] at c0 c1
                go_wp2_with fail
                try rw [X1.out]
                refine (HA.out _).mono ?_
                rintro e wN ⟨rfl, hdN⟩
                clear c0 c1 f0 f1
                replace hbC := hbC.upd (Upd.of_below hdN Nope) id
                replace hblC := hblC.trans (hdN.mono hblC.size)
                clear hdN
                have c0 := hbC.cell 0
                have c1 := hbC.cell 1
                have f0 := hbC.frozen 0
                have f1 := hbC.frozen 1
                simp only [List.getElem?_toArray, List.getElem?_cons_zero, List.getElem?_cons_succ] at c0 c1
                go_wp2_with fail
                go_region
                go_wp2_with fail
                clear c0 c1 f0 f1
                replace hbC := hbC.drew
                replace hblC := hblC.trans ((Below.refl _ _).drew)
                have c0 := hbC.cell 0
                have c1 := hbC.cell 1
                have f0 := hbC.frozen 0
                have f1 := hbC.frozen 1
                simp only [List.getElem?_toArray, List.getElem?_cons_zero, List.getElem?_cons_succ] at c0 c1
                try rw [X1.out, X2.out]
                refine (HPY.out _).mono ?_
                rintro e wQ ⟨rfl, hwQ⟩
                obtain rfl := hwQ
                go_wp2_with fail
                try rw [X1.out]
                refine (HLW.out _).mono ?_
                rintro e wN ⟨rfl, hdN⟩
                clear c0 c1 f0 f1
                replace hbC := hbC.upd (Upd.of_below hdN Nope) id
                replace hblC := hblC.trans (hdN.mono hblC.size)
                clear hdN
                have c0 := hbC.cell 0
                have c1 := hbC.cell 1
                have f0 := hbC.frozen 0
                have f1 := hbC.frozen 1
                simp only [List.getElem?_toArray, List.getElem?_cons_zero, List.getElem?_cons_succ] at c0 c1
                go_wp2_with fail
                refine (none_any _).mono ?_
                rintro e wN ⟨rfl, hdN⟩
                clear c0 c1 f0 f1
                replace hbC := hbC.upd (Upd.of_below hdN Nope) id
                replace hblC := hblC.trans (hdN.mono hblC.size)
                clear hdN
                have c0 := hbC.cell 0
                have c1 := hbC.cell 1
                have f0 := hbC.frozen 0
                have f1 := hbC.frozen 1
                simp only [List.getElem?_toArray, List.getElem?_cons_zero, List.getElem?_cons_succ] at c0 c1
                go_wp2_with fail
                obtain ⟨W4, hW4, d0, d1, hd4⟩ := par_fin hbC hblC (.string ⟨#[]⟩) (.string ⟨#[]⟩)
                rw [hW4]
                exact bodyPost_ret (v := .tuple #[.agg #[.string ⟨#[]⟩, .string ⟨#[]⟩], .string ⟨#[]⟩, .int .i64 2]) (by simp [results, Tryd.results11, go_sem, d0, d1]) rfl ⟨by rw [HRn.out]; rfl, hd4⟩
  · have hn : ∀ r, s.data.toList ≠ 60 :: r := fun r h => h60 ⟨bs r, h⟩
    have hRn : R = .no := by
      rw [← hR]
      cases hl : s.data.toList with
      | nil => rfl
      | cons b r =>
        have hb : ¬ b = 60 := fun e => hn r (by rw [hl, e])
        show (if b = 60 then _ else PR.no) = _
        rw [if_neg hb]
    have HRn := Lib.hid hRn
    have HP := Lib.hid (fun W => pre_no s 60 hn W)
    clear hR hRn hn h60
    go_enter Tryd.func11, Tryd.ntmps11
    go_wp2_with fail
    generalize w.alloc (.cells #[.string ⟨#[]⟩, .string ⟨#[]⟩] 23) = wC at hbC hblC ⊢
    have c0 := hbC.cell 0
    have c1 := hbC.cell 1
    have f0 := hbC.frozen 0
    have f1 := hbC.frozen 1
    simp only [List.getElem?_toArray, List.getElem?_cons_zero, List.getElem?_cons_succ] at c0 c1
    refine (HP.out _).mono ?_
    rintro e wQ ⟨rfl, hwQ⟩
    obtain rfl := hwQ
    go_wp2_with fail
    refine (none_any _).mono ?_
    rintro e wN ⟨rfl, hdN⟩
    clear c0 c1 f0 f1
    replace hbC := hbC.upd (Upd.of_below hdN Nope) id
    replace hblC := hblC.trans (hdN.mono hblC.size)
    clear hdN
    have c0 := hbC.cell 0
    have c1 := hbC.cell 1
    have f0 := hbC.frozen 0
    have f1 := hbC.frozen 1
    simp only [List.getElem?_toArray, List.getElem?_cons_zero, List.getElem?_cons_succ] at c0 c1
    go_wp2_with fail
    obtain ⟨W4, hW4, d0, d1, hd4⟩ := par_fin hbC hblC (.string ⟨#[]⟩) (.string ⟨#[]⟩)
    rw [hW4]
    exact bodyPost_ret (v := .tuple #[.agg #[.string ⟨#[]⟩, .string ⟨#[]⟩], .string ⟨#[]⟩, .int .i64 2]) (by simp [results, Tryd.results11, go_sem, d0, d1]) rfl ⟨by rw [HRn.out]; rfl, hd4⟩
end Go.Proofs.YthfmjiafdfoajaaDoor
