/- PathJoins: its walk. -/
import Derived.Test.YthfmjiafdfoajaaDoorCtr
import Derived.Test.YthfmjiafdfoajaaDoorOpn
set_option linter.unusedVariables false
set_option linter.unusedSimpArgs false
namespace Go.Proofs.YthfmjiafdfoajaaDoor
open Go.RowKit Go.Shelf

theorem joinT_nil : joinT [] = [] := rfl
theorem joinT_one (p : Pt) : joinT [p] = prT p := by unfold joinT; rw [List.map_cons, List.map_nil]; exact Lib.join_one _ _
theorem joinT_more (p q : Pt) (r : List Pt) : joinT (p :: q :: r) = prT p ++ 32 :: joinT (q :: r) := by
  unfold joinT
  rw [List.map_cons, List.map_cons, Lib.join_cons, Lib.join_cons]
  simp [Lib.joinTail]
theorem joinE_take {L : List Pt} {k : Nat} (h : k < L.length) : joinE (L.take (k + 1)) = if joinE (L.take k) = 0 then prE L[k] else joinE (L.take k) := by
  rw [List.take_succ_eq_append_getElem h]
  generalize L.take k = a
  induction a with
  | nil =>
    show (if prE L[k] ≠ 0 then prE L[k] else 0) = if (0 : Nat) = 0 then prE L[k] else 0
    rw [if_pos rfl]
    by_cases h0 : prE L[k] = 0
    · rw [if_neg (by simp [h0]), h0]
    · rw [if_pos h0]
  | cons q r ih =>
    rw [List.cons_append]
    have e1 : ∀ x, joinE (q :: x) = if prE q ≠ 0 then prE q else joinE x := fun _ => rfl
    rw [e1, e1]
    by_cases h0 : prE q = 0
    · have n0 : ¬ prE q ≠ 0 := fun h => h h0
      rw [if_neg n0, if_neg n0, ih]
    · rw [if_pos h0, if_pos h0, if_neg h0]
theorem joinE_zero {L : List Pt} (h : joinE L = 0) : ∀ p ∈ L, prE p = 0 := by
  induction L with
  | nil => intro p hp; cases hp
  | cons q r ih =>
    unfold joinE at h
    by_cases h0 : prE q = 0
    · rw [if_neg (by simp [h0])] at h
      intro p hp
      rcases List.mem_cons.1 hp with rfl | hp
      · exact h0
      · exact ih h p hp
    · rw [if_pos h0] at h; exact absurd h h0
theorem joinT_len {L : List Pt} (h : ∀ p ∈ L, p.1.size ≤ 500 ∧ p.2.size ≤ 500) (hl : L.length ≤ 30) : (joinT L).length ≤ 60000 := by
  have := join_len (L.map prT) 1505 (fun x hx => by
    obtain ⟨p, hp, rfl⟩ := List.mem_map.1 hx
    have h1 := prT_len p
    have h2 := h p hp
    omega)
  rw [List.length_map] at this
  have h3 : L.length * (1505 + 1) ≤ 30 * 1506 := Nat.mul_le_mul hl (Nat.le_refl _)
  unfold joinT
  omega
theorem infoP : (Tryd.prog.info? 23).map (fun i => (i.zero, i.size, i.bytes)) = some (some (.agg #[.string ByteArray.empty, .string ByteArray.empty]), 2, 32) := by kernel_rfl
/-- append([]Path{}, l...). -/
theorem copy_pts {w : World} {A : Option Addr} {cap : Nat} {L : List Pt} (hr : RdS 2 Pc w A L) (hn : A = none → cap = 0) (hl : L.length ≤ 30) :
    ∃ B cap' w', (Builtin.append_ #[44, 44] 44 #[.slice (some ⟨w.heap.size, 0, none⟩) 0 0, .slice A L.length cap]).run Tryd.prog (w.alloc (.cells #[] 23)) = .ok (.slice B L.length cap') w' ∧ RdS 2 Pc w' B L ∧ Upd w w' Nope := by
  obtain ⟨i0, hi, hz0, hz1, hz2⟩ := info_parts infoP
  have hown : (w.alloc (.cells #[] 23)).ownsRow w.heap.size 23 2 (.slice (some ⟨w.heap.size, 0, none⟩) 0 0) 0 (([] : List Pt).flatMap Pc) :=
    ⟨by simp, .inr ⟨w.heap.size, 0, #[], rfl, Nat.le_refl _, heap_alloc_new w _, Nat.le_refl _, by simp [maxLen], by simp, by simp⟩⟩
  obtain ⟨v', w', h1, h2, h3, h4⟩ := append_rowS (f := Pc) (fun _ => rfl) (by decide) (P := Tryd.prog) w.heap.size 44 Tryd.underlying44 hi hz0 hz1 hz2 rfl (fun x u hu => by simp [Pc] at hu; rcases hu with rfl | rfl <;> rfl) hown (hr.nn ((Upd.refl w Nope).alloc (.cells #[] 23))) hn (by unfold maxLen; omega) (by omega) (by simp)
  rw [Nat.zero_add, List.nil_append] at h2
  obtain ⟨B, cap', rfl, _, hb, _⟩ := rdS_of_owns (f := Pc) (fun _ => rfl) (by decide) h2
  exact ⟨B, cap', w', h1, hb, ((Upd.refl w Nope).alloc _).grown h3 (fun k e => .inr (by simp [Value.ownBlock] at e; omega))⟩

theorem big30 {L : List Pt} (h : 30 < L.length) (w : World) (A : Option Addr) (cap : Nat) : Calls Tryd.prog 6 #[.slice A L.length cap] w fun e w' => e = .returned (.bool true) ∧ Below w.heap.size w w' := by
  go_enter Tryd.func6, Tryd.ntmps6
  go_wp2_with fail
  refine (awake_any _).mono ?_
  rintro e wN ⟨rfl, hbN⟩
  go_wp2_with fail
  go_ret
  exact ⟨rfl, hbN⟩

set_option maxRecDepth 100000 in
set_option maxHeartbeats 16000000 in
theorem joins_walk (w : World) (A : Option Addr) (cap : Nat) (L : List Pt) (hr : RdS 2 Pc w A L) (hc : L.length ≤ cap) (hm : cap ≤ maxLen) (hokp : ∀ p ∈ L, okP p) (hn : A = none → cap = 0) :
    Calls Tryd.prog 6 #[.slice A L.length cap] w fun e w' => e = .returned (.bool true) ∧ Below w.heap.size w w' := by
  by_cases hbig : 30 < L.length
  · exact big30 hbig w A cap
  · have hl : L.length ≤ 30 := by omega
    have HR := Lib.hid hr
    have HN := Lib.hid hn
    clear hr hokp hc hm hn hbig
    go_enter Tryd.func6, Tryd.ntmps6
    go_wp2_with fail
    refine (awake_any _).mono ?_
    rintro e wN ⟨rfl, hbN⟩
    have hu := (Upd.of_below hbN Nope)
    clear hbN
    go_wp2_with fail
    go_loopw [3, 4] (fun f i wr => ∃ (k : Nat), k ≤ L.length ∧ i = .int .i64 k ∧ f = .int .i64 (joinE (L.take k)) ∧ (∀ p ∈ L.take k, p.1.size ≤ 500 ∧ p.2.size ≤ 500) ∧ Upd w wr Nope) (fun f i wr => L.length - (intOf i).toNat)
    case atStart => exact ⟨0, Nat.zero_le _, rfl, rfl, by simp, hu⟩
    case round =>
      clear hu
      obtain ⟨k, hk, rfl, rfl, hz, hu⟩ := hrel
      by_cases hlt : k < L.length
      · obtain ⟨ad, rfl⟩ : ∃ ad, A = some ad := by
          obtain ⟨ad, e, _⟩ := HR.out k hlt
          exact ⟨ad, e⟩
        have hrw := HR.out.nn hu
        obtain ⟨lo, hlo⟩ : ∃ x, L[k].1 = x := ⟨_, rfl⟩
        obtain ⟨dom, hdom⟩ : ∃ x, L[k].2 = x := ⟨_, rfl⟩
        have hp : L[k] = (lo, dom) := by rw [← hlo, ← hdom]
        have c0 := hrw.f0 hlt (v := .string lo) (by rw [hp]; rfl)
        have c1 := hrw.fs hlt 0 (v := .string dom) (by rw [hp]; rfl)
        have hts : L.take (k + 1) = L.take k ++ [(lo, dom)] := by rw [List.take_succ_eq_append_getElem hlt, hp]
        have hjt := joinE_take hlt
        rw [hp] at hjt
        have hbf := hu.below (fun _ h => h.elim)
        by_cases hsz : lo.size ≤ 500 ∧ dom.size ≤ 500
        · obtain ⟨s1, s2⟩ := hsz
          have HRI := Lib.hid (fun W => right_any lo dom W (by omega) (by omega))
          have hpe : prE (lo, dom) = rightN lo dom := rfl
          rw [hpe] at hjt
          have HZ : Hid (∀ p ∈ L.take (k + 1), p.1.size ≤ 500 ∧ p.2.size ≤ 500) := Lib.hid (by
            rw [hts]
            intro p hp
            rcases List.mem_append.1 hp with hp | hp
            · exact hz p hp
            · rw [List.mem_singleton.1 hp]; exact ⟨s1, s2⟩)
          generalize rightN lo dom = E at HRI hjt
          have HJ := Lib.hid hjt
          clear hpe hjt hts hz hrw hlo hdom hp hbf
          generalize joinE (L.take k) = J at HJ
          by_cases hJ : J = 0
          · subst hJ
            have HJ2 := HJ.out
            simp only [if_true] at HJ2
            have HJ3 := Lib.hid HJ2
            clear HJ HJ2
            go_wp2_with fail
            refine (HRI.out _).mono ?_
            rintro e w2 ⟨rfl, hb2⟩
            have hu2 := hu.nn (Upd.of_below hb2 Nope)
            clear hu hb2 c0 c1
            go_wp2_with fail
            go_roundw
            case rel => exact ⟨k + 1, by omega, by go_num, by rw [HJ3.out], HZ.out, hu2⟩
            case measure => simp [intOf]; omega
          · have HJ3 : Hid (joinE (L.take (k + 1)) = J) := Lib.hid (by rw [HJ.out, if_neg hJ])
            have x1 : ¬ ((J : Int) = 0) := by omega
            have x2 : ((J : Int) == 0) = false := by simpa using x1
            clear HJ hJ
            go_wp2_with fail
            refine (HRI.out _).mono ?_
            rintro e w2 ⟨rfl, hb2⟩
            have hu2 := hu.nn (Upd.of_below hb2 Nope)
            clear hu hb2 c0 c1
            go_wp2_with fail
            go_roundw
            case rel => exact ⟨k + 1, by omega, by go_num, by rw [HJ3.out], HZ.out, hu2⟩
            case measure => simp [intOf]; omega
        · clear hjt hts hz hlo hdom hp hrw
          rcases (show 500 < lo.size ∨ (lo.size ≤ 500 ∧ 500 < dom.size) by omega) with s1 | ⟨s1, s2⟩
          all_goals
            clear hsz
            go_wp2_with fail
            go_ret
            exact ⟨rfl, hbf⟩
      · obtain rfl : k = L.length := by omega
        rw [List.take_of_length_le (Nat.le_refl _)] at hz ⊢
        have hrw := HR.out.nn hu
        obtain ⟨B, cap', w4, hap, hB, hu4⟩ := copy_pts hrw HN.out hl
        have hJ := fun W (h : RdS 2 Pc W B L) => join_any W B cap' L h hl hz
        have hbig := joinT_len hz hl
        have HZ := Lib.hid hz
        have hu5 := hu.nn hu4
        clear hz hrw
        by_cases hE : joinE L = 0
        · have hall := joinE_zero hE
          have hjv : joinV L = .tuple #[.string (bs (joinT L)), .int .i64 0] := by unfold joinV; rw [if_pos hE]
          rw [hjv] at hJ
          have HJ := Lib.hid (hJ w4 hB)
          have HALL := Lib.hid hall
          obtain ⟨T, hT⟩ : ∃ T, bs (joinT L) = T := ⟨_, rfl⟩
          rw [hT] at HJ
          have hTd : T.data.toList = joinT (L.drop 0) := by rw [← hT]; rfl
          have HTD := Lib.hid hTd
          have HE := Lib.hid hE
          have HBIG := Lib.hid hbig
          clear hJ hall hjv hE hT hTd hbig hu hu4 hB
          go_wp2_with (at_builtin; refine wpList_append_eq _ _ rfl rfl hap rfl rfl rfl ?_)
          clear hap
          refine HJ.out.mono ?_
          rintro e w5 ⟨rfl, hb5⟩
          have hu6 := hu5.nn (Upd.of_below hb5 Nope)
          clear hb5 hu5
          rw [HE.out]
          go_wp2_with fail
          go_loopw [6, 8] (fun sv i wr => ∃ (k : Nat) (S : ByteArray), k ≤ L.length ∧ i = .int .i64 k ∧ sv = .string S ∧ S.data.toList = joinT (L.drop k) ∧ Upd w wr Nope) (fun sv i wr => L.length - (intOf i).toNat)
          case atStart => exact ⟨0, T, Nat.zero_le _, rfl, rfl, HTD.out, hu6⟩
          case round =>
            clear hu6
            obtain ⟨k, S, hk, rfl, rfl, hS, hu⟩ := hrel
            by_cases hlt : k < L.length
            · obtain ⟨ad, rfl⟩ : ∃ ad, A = some ad := by
                obtain ⟨ad, e, _⟩ := HR.out k hlt
                exact ⟨ad, e⟩
              have hrw := HR.out.nn hu
              obtain ⟨lo, hlo⟩ : ∃ x, L[k].1 = x := ⟨_, rfl⟩
              obtain ⟨dom, hdom⟩ : ∃ x, L[k].2 = x := ⟨_, rfl⟩
              have hp : L[k] = (lo, dom) := by rw [← hlo, ← hdom]
              have c0 := hrw.f0 hlt (v := .string lo) (by rw [hp]; rfl)
              have c1 := hrw.fs hlt 0 (v := .string dom) (by rw [hp]; rfl)
              have hbl := hrw.lt hlt (j := 0) (v := .string lo) (by rw [hp]; rfl)
              have hsz := HZ.out L[k] (List.getElem_mem _)
              have h0 := HALL.out L[k] (List.getElem_mem _)
              have hdr : L.drop k = L[k] :: L.drop (k + 1) := List.drop_eq_getElem_cons hlt
              rw [hp] at hsz h0 hdr
              have s1 : lo.size ≤ 500 := hsz.1
              have s2 : dom.size ≤ 500 := hsz.2
              obtain ⟨X, E, HX⟩ := print_c lo dom (by omega) (by omega)
              have hX0 : E = 0 := by rw [HX.eq, ← rightN_eq]; exact h0
              have hXd : X.data.toList = prT (lo, dom) := by rw [HX.ok hX0, ← printL_eq]; rfl
              have hSl : S.size ≤ 60000 := by
                have h1 := joinT_len (L := L.drop k) (fun p hp => HZ.out p (List.mem_of_mem_drop hp)) (by rw [List.length_drop]; omega)
                rw [← hS, data_len] at h1
                exact h1
              by_cases hlast : k + 1 < L.length
              · have hdr2 : L.drop (k + 1) = L[k + 1] :: L.drop (k + 2) := List.drop_eq_getElem_cons hlast
                obtain ⟨R, hR⟩ : ∃ R, bs (32 :: joinT (L.drop (k + 1))) = R := ⟨_, rfl⟩
                have hRd : R.data.toList = 32 :: joinT (L.drop (k + 1)) := by rw [← hR]; rfl
                have hSR : S.data.toList = X.data.toList ++ R.data.toList := by
                  rw [hS, hdr, hRd, hXd, hdr2, joinT_more]
                have HP := read_back HX hX0 hSR (by omega)
                have hRs : 0 < R.size := by have := congrArg List.length hRd; rw [data_len, List.length_cons] at this; omega
                have hR1 : 1 ≤ R.size := hRs
                have hR0 : R[0] = 32 := by rw [← gd_eq R 0 hRs, hRd]; rfl
                have r1 : ((R[0].toNat : Int) != 32) = false := by rw [hR0]; decide
                have r2 : ((R[0].toNat : Int) == 32) = true := by rw [hR0]; decide
                obtain ⟨S2, hS2⟩ : ∃ S2, R.extract 1 R.size = S2 := ⟨_, rfl⟩
                have hS2d : S2.data.toList = joinT (L.drop (k + 1)) := by rw [← hS2, ext_drop, hRd]; rfl
                have HS2 := Lib.hid hS2
                have HS2D := Lib.hid hS2d
                have HPC := Lib.hid HP.call
                have hlast' : (k : Int) + 1 < (L.length : Int) := by omega
                clear hS hrw hlo hdom hp hsz h0 hdr HX hX0 hXd hSl hdr2 hR hRd hSR HP hR0 hS2 hS2d
                go_wp2_with fail
                refine (HPC.out _).mono ?_
                rintro e w7 ⟨rfl, hb7⟩
                replace c0 := (Upd.of_below hb7 Nope).cell c0 id
                replace c1 := (Upd.of_below hb7 Nope).cell c1 id
                have hbl7 : ad.block < w7.heap.size := Nat.lt_of_lt_of_le hbl hb7.size
                have hu7 := hu.nn (Upd.of_below hb7 Nope)
                clear hu hb7 hbl
                go_upto_region 23 with (fail)
                have kz := Blk.new w7 #[.string lo, .string dom] 23
                have hu8 := hu7.alloc (.cells #[.string lo, .string dom] 23)
                replace c0 := ((Upd.refl w7 Nope).alloc (.cells #[.string lo, .string dom] 23)).cell c0 id
                replace c1 := ((Upd.refl w7 Nope).alloc (.cells #[.string lo, .string dom] 23)).cell c1 id
                generalize hg7 : w7.heap.size = g7 at kz ⊢
                generalize w7.alloc (.cells #[.string lo, .string dom] 23) = w8 at kz hu8 c0 c1 ⊢
                have kz0 := kz.cell 0
                have kz1 := kz.cell 1
                simp only [List.getElem?_toArray, List.getElem?_cons_zero, List.getElem?_cons_succ] at kz0 kz1
                clear kz hu7 hbl7 hg7
                go_quiet ((fail))
                have hu9 := hu8.drewN
                go_wp2_with fail
                rw [show R.extract 1 R.size = S2 from HS2.out]
                go_roundw
                case rel => exact ⟨k + 1, S2, by omega, by go_num, rfl, HS2D.out, hu9 _⟩
                case measure => simp [intOf]; omega
              · have hdr2 : L.drop (k + 1) = [] := List.drop_of_length_le (by omega)
                have hSR : S.data.toList = X.data.toList ++ (⟨#[]⟩ : ByteArray).data.toList := by
                  rw [hS, hdr, hXd, hdr2, joinT_one]; simp
                have HP := read_back HX hX0 hSR (by omega)
                have HPC := Lib.hid HP.call
                have HD2 := Lib.hid hdr2
                have hlast' : ¬ ((k : Int) + 1 < (L.length : Int)) := by omega
                clear hS hrw hlo hdom hp hsz h0 hdr HX hX0 hXd hSl hdr2 hSR HP
                go_wp2_with fail
                refine (HPC.out _).mono ?_
                rintro e w7 ⟨rfl, hb7⟩
                replace c0 := (Upd.of_below hb7 Nope).cell c0 id
                replace c1 := (Upd.of_below hb7 Nope).cell c1 id
                have hbl7 : ad.block < w7.heap.size := Nat.lt_of_lt_of_le hbl hb7.size
                have hu7 := hu.nn (Upd.of_below hb7 Nope)
                clear hu hb7 hbl
                go_upto_region 23 with (fail)
                have kz := Blk.new w7 #[.string lo, .string dom] 23
                have hu8 := hu7.alloc (.cells #[.string lo, .string dom] 23)
                replace c0 := ((Upd.refl w7 Nope).alloc (.cells #[.string lo, .string dom] 23)).cell c0 id
                replace c1 := ((Upd.refl w7 Nope).alloc (.cells #[.string lo, .string dom] 23)).cell c1 id
                generalize hg7 : w7.heap.size = g7 at kz ⊢
                generalize w7.alloc (.cells #[.string lo, .string dom] 23) = w8 at kz hu8 c0 c1 ⊢
                have kz0 := kz.cell 0
                have kz1 := kz.cell 1
                simp only [List.getElem?_toArray, List.getElem?_cons_zero, List.getElem?_cons_succ] at kz0 kz1
                clear kz hu7 hbl7 hg7
                go_quiet ((fail))
                have hu9 := hu8.drewN
                go_wp2_with fail
                go_roundw
                case rel => exact ⟨k + 1, ⟨#[]⟩, by omega, by go_num, rfl, by rw [HD2.out]; rfl, hu9 _⟩
                case measure => simp [intOf]; omega
            · obtain rfl : k = L.length := by omega
              rw [List.drop_of_length_le (Nat.le_refl _), joinT_nil] at hS
              have hSe : S = ⟨#[]⟩ := bytes_eq hS
              subst hSe
              clear hS
              go_wp2_with fail
              go_ret
              exact ⟨by first | rfl | simp, hu.below (fun _ h => h.elim)⟩
        · have hjv : joinV L = .tuple #[.string ⟨#[]⟩, .int .i64 (joinE L)] := by unfold joinV; rw [if_neg hE]
          rw [hjv] at hJ
          have HJ := Lib.hid (hJ w4 hB)
          clear hJ hjv hu hu4 hB hbig
          generalize joinE L = E at hE HJ ⊢
          have x1 : ¬ ((E : Int) = 0) := by omega
          have x2 : ((E : Int) != 0) = true := by simpa using x1
          clear hE
          go_wp2_with (at_builtin; refine wpList_append_eq _ _ rfl rfl hap rfl rfl rfl ?_)
          clear hap
          refine HJ.out.mono ?_
          rintro e w5 ⟨rfl, hb5⟩
          have hu6 := hu5.nn (Upd.of_below hb5 Nope)
          go_wp2_with fail
          go_ret
          exact ⟨by first | rfl | simp, hu6.below (fun _ h => h.elim)⟩
end Go.Proofs.YthfmjiafdfoajaaDoor
