/- PathBack: its walk. -/
import Derived.Test.YthfmjiafdfoajaaDoorCtr
import Derived.Test.YthfmjiafdfoajaaDoorOpn
set_option linter.unusedVariables false
set_option linter.unusedSimpArgs false
namespace Go.Proofs.YthfmjiafdfoajaaDoor
open Go.RowKit Go.Shelf

set_option maxRecDepth 100000 in
set_option maxHeartbeats 16000000 in
theorem back_big (w : World) (p1 p2 q1 q2 s behind : ByteArray)
    (hbig : 500 < p1.size ∨ 500 < p2.size ∨ 500 < q1.size ∨ 500 < q2.size ∨ 1500 < s.size ∨ 500 < behind.size) :
    Calls Tryd.prog 4 #[.agg #[.string p1, .string p2], .agg #[.string q1, .string q2], .string s, .string behind] w fun e w' => e = .returned (.bool true) ∧ Below w.heap.size w w' := by
  have kp : Blk ((w.alloc (.cells #[.string p1, .string p2] 23)).alloc (.cells #[.string q1, .string q2] 23)) w.heap.size #[.string p1, .string p2] 23 := (Blk.new _ _ _).alloc _
  have kq : Blk ((w.alloc (.cells #[.string p1, .string p2] 23)).alloc (.cells #[.string q1, .string q2] 23)) (w.heap.size + 1) #[.string q1, .string q2] 23 := by
    have := Blk.new (w.alloc (.cells #[.string p1, .string p2] 23)) #[.string q1, .string q2] 23
    rwa [World.size_alloc] at this
  have hu : Upd w ((w.alloc (.cells #[.string p1, .string p2] 23)).alloc (.cells #[.string q1, .string q2] 23)) Nope := ((Upd.refl w _).alloc _).alloc _
  go_enter Tryd.func4, Tryd.ntmps4
  go_wp2_with fail
  generalize (w.alloc (.cells #[.string p1, .string p2] 23)).alloc (.cells #[.string q1, .string q2] 23) = wC at kp kq hu ⊢
  refine (awake_any _).mono ?_
  rintro e wN ⟨rfl, hbN⟩
  replace kp := kp.upd (Upd.of_below hbN Nope) id
  replace kq := kq.upd (Upd.of_below hbN Nope) id
  replace hu := hu.nn (Upd.of_below hbN Nope)
  clear hbN
  have kp0 := kp.cell 0
  have kp1 := kp.cell 1
  have kpl := kp.lt
  have kq0 := kq.cell 0
  have kq1 := kq.cell 1
  have kql := kq.lt
  simp only [List.getElem?_toArray, List.getElem?_cons_zero, List.getElem?_cons_succ] at kp0 kp1 kq0 kq1

  have hbf := hu.below (fun _ h => h.elim)
  rcases (show 500 < p1.size ∨ (p1.size ≤ 500 ∧ 500 < p2.size) ∨ (p1.size ≤ 500 ∧ p2.size ≤ 500 ∧ 500 < q1.size) ∨ (p1.size ≤ 500 ∧ p2.size ≤ 500 ∧ q1.size ≤ 500 ∧ 500 < q2.size) ∨ (p1.size ≤ 500 ∧ p2.size ≤ 500 ∧ q1.size ≤ 500 ∧ q2.size ≤ 500 ∧ 1500 < s.size) ∨ (p1.size ≤ 500 ∧ p2.size ≤ 500 ∧ q1.size ≤ 500 ∧ q2.size ≤ 500 ∧ s.size ≤ 1500 ∧ 500 < behind.size) by omega) with x | ⟨x1, x⟩ | ⟨x1, x2, x⟩ | ⟨x1, x2, x3, x⟩ | ⟨x1, x2, x3, x4, x⟩ | ⟨x1, x2, x3, x4, x5, x⟩
  all_goals
    clear hbig
    go_wp2_with fail
    go_ret
    exact ⟨rfl, hbf⟩

set_option maxRecDepth 100000 in
set_option maxHeartbeats 16000000 in
theorem back_small (w : World) (p1 p2 q1 q2 s behind : ByteArray) (h1 : p1.size ≤ 500) (h2 : p2.size ≤ 500) (h3 : q1.size ≤ 500) (h4 : q2.size ≤ 500) (h5 : s.size ≤ 1500) (h6 : behind.size ≤ 500) :
    Calls Tryd.prog 4 #[.agg #[.string p1, .string p2], .agg #[.string q1, .string q2], .string s, .string behind] w fun e w' => e = .returned (.bool true) ∧ Below w.heap.size w w' := by
  have kp : Blk ((w.alloc (.cells #[.string p1, .string p2] 23)).alloc (.cells #[.string q1, .string q2] 23)) w.heap.size #[.string p1, .string p2] 23 := (Blk.new _ _ _).alloc _
  have kq : Blk ((w.alloc (.cells #[.string p1, .string p2] 23)).alloc (.cells #[.string q1, .string q2] 23)) (w.heap.size + 1) #[.string q1, .string q2] 23 := by
    have := Blk.new (w.alloc (.cells #[.string p1, .string p2] 23)) #[.string q1, .string q2] 23
    rwa [World.size_alloc] at this
  have hu : Upd w ((w.alloc (.cells #[.string p1, .string p2] 23)).alloc (.cells #[.string q1, .string q2] 23)) Nope := ((Upd.refl w _).alloc _).alloc _
  obtain ⟨A, E, HP⟩ := print_c p1 p2 (by omega) (by omega)
  obtain ⟨B, F, HQ⟩ := print_c q1 q2 (by omega) (by omega)
  obtain ⟨x1, x2, rest, ee, HX⟩ := parse_c s (by omega)
  have hAs := HP.size
  obtain ⟨c, hc⟩ : ∃ c, (A ++ behind : ByteArray) = c := ⟨_, rfl⟩
  have hcd : c.data.toList = A.data.toList ++ behind.data.toList := by rw [← hc]; simp [ByteArray.data_append]
  have hcs : c.size = A.size + behind.size := by
    have := congrArg List.length hcd
    rwa [List.length_append, data_len, data_len, data_len] at this
  have HC := Lib.hid (fun hE : E = 0 => read_back HP hE hcd (by omega))
  have HCE := Lib.hid hc
  clear hc hcd hcs
  by_cases he : ee = 0
  · obtain ⟨hr, hrs, hex⟩ := HX.sound he
    have hxs := right_size hr
    rw [data_len, data_len] at hxs
    obtain ⟨T, E', HT⟩ := print_c x1 x2 (by omega) (by omega)
    have hE' : E' = 0 := by rw [HT.eq, hr]
    have HY := read_back (c := T) (behind := ⟨#[]⟩) HT hE' (by simp) (by have := HT.size; omega)
    subst he hE'
    obtain ⟨d, hd⟩ : ∃ d, s.size - rest.size = d := ⟨_, rfl⟩
    rw [hd] at hex
    have hd2 : (s.size : Int) - (rest.size : Int) = (d : Int) := by omega
    have hd3 : d ≤ s.size := by omega
    have HD2 := Lib.hid hd2
    have HEX := Lib.hid hex
    clear hr hxs hd hd2 hex
    go_enter Tryd.func4, Tryd.ntmps4
    go_wp2_with fail
    generalize (w.alloc (.cells #[.string p1, .string p2] 23)).alloc (.cells #[.string q1, .string q2] 23) = wC at kp kq hu ⊢
    refine (awake_any _).mono ?_
    rintro e wN ⟨rfl, hbN⟩
    replace kp := kp.upd (Upd.of_below hbN Nope) id
    replace kq := kq.upd (Upd.of_below hbN Nope) id
    replace hu := hu.nn (Upd.of_below hbN Nope)
    clear hbN
    have kp0 := kp.cell 0
    have kp1 := kp.cell 1
    have kpl := kp.lt
    have kq0 := kq.cell 0
    have kq1 := kq.cell 1
    have kql := kq.lt
    simp only [List.getElem?_toArray, List.getElem?_cons_zero, List.getElem?_cons_succ] at kp0 kp1 kq0 kq1

    go_wp2_with fail
    clear kp0 kp1 kpl kq0 kq1 kql

    refine (HX.call _).mono ?_
    rintro e wN ⟨rfl, hbN⟩
    replace kp := kp.upd (Upd.of_below hbN Nope) id
    replace kq := kq.upd (Upd.of_below hbN Nope) id
    replace hu := hu.nn (Upd.of_below hbN Nope)
    clear hbN
    have kp0 := kp.cell 0
    have kp1 := kp.cell 1
    have kpl := kp.lt
    have kq0 := kq.cell 0
    have kq1 := kq.cell 1
    have kql := kq.lt
    simp only [List.getElem?_toArray, List.getElem?_cons_zero, List.getElem?_cons_succ] at kp0 kp1 kq0 kq1

    go_wp2_with fail
    clear kp0 kp1 kpl kq0 kq1 kql

    have kx := Blk.new wN #[.string x1, .string x2] 23
    replace hu := hu.alloc (.cells #[.string x1, .string x2] 23)
    replace kp := kp.alloc (.cells #[.string x1, .string x2] 23)
    replace kq := kq.alloc (.cells #[.string x1, .string x2] 23)
    obtain ⟨gkx, hgkx⟩ : ∃ g, wN.heap.size = g := ⟨_, rfl⟩
    rw [hgkx] at kx
    try rw [hgkx]
    generalize wN.alloc (.cells #[.string x1, .string x2] 23) = wN at hu kp kq kx ⊢
    clear hgkx

    refine (HT.call _).mono ?_
    rintro e wN ⟨rfl, hbN⟩
    replace kp := kp.upd (Upd.of_below hbN Nope) id
    replace kq := kq.upd (Upd.of_below hbN Nope) id
    replace kx := kx.upd (Upd.of_below hbN Nope) id
    replace hu := hu.nn (Upd.of_below hbN Nope)
    clear hbN
    have kp0 := kp.cell 0
    have kp1 := kp.cell 1
    have kpl := kp.lt
    have kq0 := kq.cell 0
    have kq1 := kq.cell 1
    have kql := kq.lt
    have kx0 := kx.cell 0
    have kx1 := kx.cell 1
    have kxl := kx.lt
    simp only [List.getElem?_toArray, List.getElem?_cons_zero, List.getElem?_cons_succ] at kp0 kp1 kq0 kq1 kx0 kx1

    go_wp2_with fail
    clear kp0 kp1 kpl kq0 kq1 kql kx0 kx1 kxl

    refine (HY.call _).mono ?_
    rintro e wN ⟨rfl, hbN⟩
    replace kp := kp.upd (Upd.of_below hbN Nope) id
    replace kq := kq.upd (Upd.of_below hbN Nope) id
    replace kx := kx.upd (Upd.of_below hbN Nope) id
    replace hu := hu.nn (Upd.of_below hbN Nope)
    clear hbN
    have kp0 := kp.cell 0
    have kp1 := kp.cell 1
    have kpl := kp.lt
    have kq0 := kq.cell 0
    have kq1 := kq.cell 1
    have kql := kq.lt
    have kx0 := kx.cell 0
    have kx1 := kx.cell 1
    have kxl := kx.lt
    simp only [List.getElem?_toArray, List.getElem?_cons_zero, List.getElem?_cons_succ] at kp0 kp1 kq0 kq1 kx0 kx1

    go_wp2_with fail
    clear kp0 kp1 kpl kq0 kq1 kql kx0 kx1 kxl

    have ky := Blk.new wN #[.string x1, .string x2] 23
    replace hu := hu.alloc (.cells #[.string x1, .string x2] 23)
    replace kp := kp.alloc (.cells #[.string x1, .string x2] 23)
    replace kq := kq.alloc (.cells #[.string x1, .string x2] 23)
    replace kx := kx.alloc (.cells #[.string x1, .string x2] 23)
    obtain ⟨gky, hgky⟩ : ∃ g, wN.heap.size = g := ⟨_, rfl⟩
    rw [hgky] at ky
    try rw [hgky]
    generalize wN.alloc (.cells #[.string x1, .string x2] 23) = wN at hu kp kq kx ky ⊢
    clear hgky

    refine (HT.right _).mono ?_
    rintro e wN ⟨rfl, hbN⟩
    replace kp := kp.upd (Upd.of_below hbN Nope) id
    replace kq := kq.upd (Upd.of_below hbN Nope) id
    replace kx := kx.upd (Upd.of_below hbN Nope) id
    replace ky := ky.upd (Upd.of_below hbN Nope) id
    replace hu := hu.nn (Upd.of_below hbN Nope)
    clear hbN
    have kp0 := kp.cell 0
    have kp1 := kp.cell 1
    have kpl := kp.lt
    have kq0 := kq.cell 0
    have kq1 := kq.cell 1
    have kql := kq.lt
    simp only [List.getElem?_toArray, List.getElem?_cons_zero, List.getElem?_cons_succ] at kp0 kp1 kq0 kq1

    have hd2 := HD2.out
    have hex := HEX.out
    go_wp2_with fail
    clear hd2 hex kx ky
    clear kp0 kp1 kpl kq0 kq1 kql

    refine (HP.call _).mono ?_
    rintro e wN ⟨rfl, hbN⟩
    replace kp := kp.upd (Upd.of_below hbN Nope) id
    replace kq := kq.upd (Upd.of_below hbN Nope) id
    replace hu := hu.nn (Upd.of_below hbN Nope)
    clear hbN
    have kp0 := kp.cell 0
    have kp1 := kp.cell 1
    have kpl := kp.lt
    have kq0 := kq.cell 0
    have kq1 := kq.cell 1
    have kql := kq.lt
    simp only [List.getElem?_toArray, List.getElem?_cons_zero, List.getElem?_cons_succ] at kp0 kp1 kq0 kq1
    go_wp2_with fail
    clear kp0 kp1 kpl kq0 kq1 kql
    refine (HQ.call _).mono ?_
    rintro e wN ⟨rfl, hbN⟩
    replace kp := kp.upd (Upd.of_below hbN Nope) id
    replace kq := kq.upd (Upd.of_below hbN Nope) id
    replace hu := hu.nn (Upd.of_below hbN Nope)
    clear hbN
    have kp0 := kp.cell 0
    have kp1 := kp.cell 1
    have kpl := kp.lt
    have kq0 := kq.cell 0
    have kq1 := kq.cell 1
    have kql := kq.lt
    simp only [List.getElem?_toArray, List.getElem?_cons_zero, List.getElem?_cons_succ] at kp0 kp1 kq0 kq1
    by_cases hE : E = 0
    · subst hE
      have HCc := HC.out (by trivial)
      by_cases hF : F = 0
      · subst hF
        by_cases hpq : p1 = q1 ∧ p2 = q2
        · obtain ⟨e1, e2⟩ := hpq
          have hAB : B = A := bytes_eq (by rw [HQ.ok rfl, HP.ok rfl, e1, e2])
          subst e1 e2 hAB
          go_wp2_with fail
          rw [show (B ++ behind : ByteArray) = c from HCE.out]
          clear kp0 kp1 kpl kq0 kq1 kql
          refine (HCc.call _).mono ?_
          rintro e wN ⟨rfl, hbN⟩
          replace kp := kp.upd (Upd.of_below hbN Nope) id
          replace kq := kq.upd (Upd.of_below hbN Nope) id
          replace hu := hu.nn (Upd.of_below hbN Nope)
          clear hbN
          have kp0 := kp.cell 0
          have kp1 := kp.cell 1
          have kpl := kp.lt
          have kq0 := kq.cell 0
          have kq1 := kq.cell 1
          have kql := kq.lt
          simp only [List.getElem?_toArray, List.getElem?_cons_zero, List.getElem?_cons_succ] at kp0 kp1 kq0 kq1
          go_wp2_with fail
          go_ret
          exact ⟨by first | rfl | simp [*], (hu.alloc _).below (fun _ h => h.elim)⟩
        · have hAB : A ≠ B := by
            intro e
            have := print_inj (by rw [← HP.eq]) (by rw [← HQ.eq]) (by rw [← HP.ok rfl, ← HQ.ok rfl, e])
            exact hpq ⟨bytes_eq this.1, bytes_eq this.2⟩
          have hab := toList_ne hAB
          by_cases h1 : p1 = q1
          · subst h1
            have h2 : p2 ≠ q2 := fun e => hpq ⟨rfl, e⟩
            have hx2 := toList_ne h2
            clear hpq hAB h2
            go_wp2_with fail
            rw [show (A ++ behind : ByteArray) = c from HCE.out]
            clear kp0 kp1 kpl kq0 kq1 kql
            refine (HCc.call _).mono ?_
            rintro e wN ⟨rfl, hbN⟩
            replace kp := kp.upd (Upd.of_below hbN Nope) id
            replace kq := kq.upd (Upd.of_below hbN Nope) id
            replace hu := hu.nn (Upd.of_below hbN Nope)
            clear hbN
            have kp0 := kp.cell 0
            have kp1 := kp.cell 1
            have kpl := kp.lt
            have kq0 := kq.cell 0
            have kq1 := kq.cell 1
            have kql := kq.lt
            simp only [List.getElem?_toArray, List.getElem?_cons_zero, List.getElem?_cons_succ] at kp0 kp1 kq0 kq1
            go_wp2_with fail
            go_ret
            exact ⟨by first | rfl | simp [*], (hu.alloc _).below (fun _ h => h.elim)⟩
          · have hx1 := toList_ne h1
            clear hpq hAB h1
            go_wp2_with fail
            rw [show (A ++ behind : ByteArray) = c from HCE.out]
            clear kp0 kp1 kpl kq0 kq1 kql
            refine (HCc.call _).mono ?_
            rintro e wN ⟨rfl, hbN⟩
            replace kp := kp.upd (Upd.of_below hbN Nope) id
            replace kq := kq.upd (Upd.of_below hbN Nope) id
            replace hu := hu.nn (Upd.of_below hbN Nope)
            clear hbN
            have kp0 := kp.cell 0
            have kp1 := kp.cell 1
            have kpl := kp.lt
            have kq0 := kq.cell 0
            have kq1 := kq.cell 1
            have kql := kq.lt
            simp only [List.getElem?_toArray, List.getElem?_cons_zero, List.getElem?_cons_succ] at kp0 kp1 kq0 kq1
            go_wp2_with fail
            go_ret
            exact ⟨by first | rfl | simp [*], (hu.alloc _).below (fun _ h => h.elim)⟩
      · have x1 : ¬ ((F : Int) = 0) := by omega
        have x2 : ((F : Int) != 0) = true := by simpa using x1
        clear hF
        go_wp2_with fail
        rw [show (A ++ behind : ByteArray) = c from HCE.out]
        clear kp0 kp1 kpl kq0 kq1 kql
        refine (HCc.call _).mono ?_
        rintro e wN ⟨rfl, hbN⟩
        replace kp := kp.upd (Upd.of_below hbN Nope) id
        replace kq := kq.upd (Upd.of_below hbN Nope) id
        replace hu := hu.nn (Upd.of_below hbN Nope)
        clear hbN
        have kp0 := kp.cell 0
        have kp1 := kp.cell 1
        have kpl := kp.lt
        have kq0 := kq.cell 0
        have kq1 := kq.cell 1
        have kql := kq.lt
        simp only [List.getElem?_toArray, List.getElem?_cons_zero, List.getElem?_cons_succ] at kp0 kp1 kq0 kq1
        go_wp2_with fail
        go_ret
        exact ⟨by first | rfl | simp [*], (hu.alloc _).below (fun _ h => h.elim)⟩
    · have hA := HP.no hE
      subst hA
      have x1 : ¬ ((E : Int) = 0) := by omega
      have x2 : ((E : Int) != 0) = true := by simpa using x1
      clear hE
      go_wp2_with fail
      clear kp0 kp1 kpl kq0 kq1 kql
      refine (HP.right _).mono ?_
      rintro e wN ⟨rfl, hbN⟩
      replace kp := kp.upd (Upd.of_below hbN Nope) id
      replace kq := kq.upd (Upd.of_below hbN Nope) id
      replace hu := hu.nn (Upd.of_below hbN Nope)
      clear hbN
      have kp0 := kp.cell 0
      have kp1 := kp.cell 1
      have kpl := kp.lt
      have kq0 := kq.cell 0
      have kq1 := kq.cell 1
      have kql := kq.lt
      simp only [List.getElem?_toArray, List.getElem?_cons_zero, List.getElem?_cons_succ] at kp0 kp1 kq0 kq1
      go_wp2_with fail
      go_ret
      exact ⟨by first | rfl | simp [*], hu.below (fun _ h => h.elim)⟩
  · have z1 : ¬ ((ee : Int) = 0) := by omega
    have z2 : ((ee : Int) == 0) = false := by simpa using z1
    clear he
    go_enter Tryd.func4, Tryd.ntmps4
    go_wp2_with fail
    generalize (w.alloc (.cells #[.string p1, .string p2] 23)).alloc (.cells #[.string q1, .string q2] 23) = wC at kp kq hu ⊢
    refine (awake_any _).mono ?_
    rintro e wN ⟨rfl, hbN⟩
    replace kp := kp.upd (Upd.of_below hbN Nope) id
    replace kq := kq.upd (Upd.of_below hbN Nope) id
    replace hu := hu.nn (Upd.of_below hbN Nope)
    clear hbN
    have kp0 := kp.cell 0
    have kp1 := kp.cell 1
    have kpl := kp.lt
    have kq0 := kq.cell 0
    have kq1 := kq.cell 1
    have kql := kq.lt
    simp only [List.getElem?_toArray, List.getElem?_cons_zero, List.getElem?_cons_succ] at kp0 kp1 kq0 kq1

    go_wp2_with fail
    clear kp0 kp1 kpl kq0 kq1 kql

    refine (HX.call _).mono ?_
    rintro e wN ⟨rfl, hbN⟩
    replace kp := kp.upd (Upd.of_below hbN Nope) id
    replace kq := kq.upd (Upd.of_below hbN Nope) id
    replace hu := hu.nn (Upd.of_below hbN Nope)
    clear hbN
    have kp0 := kp.cell 0
    have kp1 := kp.cell 1
    have kpl := kp.lt
    have kq0 := kq.cell 0
    have kq1 := kq.cell 1
    have kql := kq.lt
    simp only [List.getElem?_toArray, List.getElem?_cons_zero, List.getElem?_cons_succ] at kp0 kp1 kq0 kq1

    go_wp2_with fail
    clear kp0 kp1 kpl kq0 kq1 kql

    have kx := Blk.new wN #[.string x1, .string x2] 23
    replace hu := hu.alloc (.cells #[.string x1, .string x2] 23)
    replace kp := kp.alloc (.cells #[.string x1, .string x2] 23)
    replace kq := kq.alloc (.cells #[.string x1, .string x2] 23)
    obtain ⟨gkx, hgkx⟩ : ∃ g, wN.heap.size = g := ⟨_, rfl⟩
    rw [hgkx] at kx
    try rw [hgkx]
    generalize wN.alloc (.cells #[.string x1, .string x2] 23) = wN at hu kp kq kx ⊢
    clear hgkx

    clear kx
    refine (HP.call _).mono ?_
    rintro e wN ⟨rfl, hbN⟩
    replace kp := kp.upd (Upd.of_below hbN Nope) id
    replace kq := kq.upd (Upd.of_below hbN Nope) id
    replace hu := hu.nn (Upd.of_below hbN Nope)
    clear hbN
    have kp0 := kp.cell 0
    have kp1 := kp.cell 1
    have kpl := kp.lt
    have kq0 := kq.cell 0
    have kq1 := kq.cell 1
    have kql := kq.lt
    simp only [List.getElem?_toArray, List.getElem?_cons_zero, List.getElem?_cons_succ] at kp0 kp1 kq0 kq1
    go_wp2_with fail
    clear kp0 kp1 kpl kq0 kq1 kql
    refine (HQ.call _).mono ?_
    rintro e wN ⟨rfl, hbN⟩
    replace kp := kp.upd (Upd.of_below hbN Nope) id
    replace kq := kq.upd (Upd.of_below hbN Nope) id
    replace hu := hu.nn (Upd.of_below hbN Nope)
    clear hbN
    have kp0 := kp.cell 0
    have kp1 := kp.cell 1
    have kpl := kp.lt
    have kq0 := kq.cell 0
    have kq1 := kq.cell 1
    have kql := kq.lt
    simp only [List.getElem?_toArray, List.getElem?_cons_zero, List.getElem?_cons_succ] at kp0 kp1 kq0 kq1
    by_cases hE : E = 0
    · subst hE
      have HCc := HC.out (by trivial)
      by_cases hF : F = 0
      · subst hF
        by_cases hpq : p1 = q1 ∧ p2 = q2
        · obtain ⟨e1, e2⟩ := hpq
          have hAB : B = A := bytes_eq (by rw [HQ.ok rfl, HP.ok rfl, e1, e2])
          subst e1 e2 hAB
          go_wp2_with fail
          rw [show (B ++ behind : ByteArray) = c from HCE.out]
          clear kp0 kp1 kpl kq0 kq1 kql
          refine (HCc.call _).mono ?_
          rintro e wN ⟨rfl, hbN⟩
          replace kp := kp.upd (Upd.of_below hbN Nope) id
          replace kq := kq.upd (Upd.of_below hbN Nope) id
          replace hu := hu.nn (Upd.of_below hbN Nope)
          clear hbN
          have kp0 := kp.cell 0
          have kp1 := kp.cell 1
          have kpl := kp.lt
          have kq0 := kq.cell 0
          have kq1 := kq.cell 1
          have kql := kq.lt
          simp only [List.getElem?_toArray, List.getElem?_cons_zero, List.getElem?_cons_succ] at kp0 kp1 kq0 kq1
          go_wp2_with fail
          go_ret
          exact ⟨by first | rfl | simp [*], (hu.alloc _).below (fun _ h => h.elim)⟩
        · have hAB : A ≠ B := by
            intro e
            have := print_inj (by rw [← HP.eq]) (by rw [← HQ.eq]) (by rw [← HP.ok rfl, ← HQ.ok rfl, e])
            exact hpq ⟨bytes_eq this.1, bytes_eq this.2⟩
          have hab := toList_ne hAB
          by_cases h1 : p1 = q1
          · subst h1
            have h2 : p2 ≠ q2 := fun e => hpq ⟨rfl, e⟩
            have hx2 := toList_ne h2
            clear hpq hAB h2
            go_wp2_with fail
            rw [show (A ++ behind : ByteArray) = c from HCE.out]
            clear kp0 kp1 kpl kq0 kq1 kql
            refine (HCc.call _).mono ?_
            rintro e wN ⟨rfl, hbN⟩
            replace kp := kp.upd (Upd.of_below hbN Nope) id
            replace kq := kq.upd (Upd.of_below hbN Nope) id
            replace hu := hu.nn (Upd.of_below hbN Nope)
            clear hbN
            have kp0 := kp.cell 0
            have kp1 := kp.cell 1
            have kpl := kp.lt
            have kq0 := kq.cell 0
            have kq1 := kq.cell 1
            have kql := kq.lt
            simp only [List.getElem?_toArray, List.getElem?_cons_zero, List.getElem?_cons_succ] at kp0 kp1 kq0 kq1
            go_wp2_with fail
            go_ret
            exact ⟨by first | rfl | simp [*], (hu.alloc _).below (fun _ h => h.elim)⟩
          · have hx1 := toList_ne h1
            clear hpq hAB h1
            go_wp2_with fail
            rw [show (A ++ behind : ByteArray) = c from HCE.out]
            clear kp0 kp1 kpl kq0 kq1 kql
            refine (HCc.call _).mono ?_
            rintro e wN ⟨rfl, hbN⟩
            replace kp := kp.upd (Upd.of_below hbN Nope) id
            replace kq := kq.upd (Upd.of_below hbN Nope) id
            replace hu := hu.nn (Upd.of_below hbN Nope)
            clear hbN
            have kp0 := kp.cell 0
            have kp1 := kp.cell 1
            have kpl := kp.lt
            have kq0 := kq.cell 0
            have kq1 := kq.cell 1
            have kql := kq.lt
            simp only [List.getElem?_toArray, List.getElem?_cons_zero, List.getElem?_cons_succ] at kp0 kp1 kq0 kq1
            go_wp2_with fail
            go_ret
            exact ⟨by first | rfl | simp [*], (hu.alloc _).below (fun _ h => h.elim)⟩
      · have x1 : ¬ ((F : Int) = 0) := by omega
        have x2 : ((F : Int) != 0) = true := by simpa using x1
        clear hF
        go_wp2_with fail
        rw [show (A ++ behind : ByteArray) = c from HCE.out]
        clear kp0 kp1 kpl kq0 kq1 kql
        refine (HCc.call _).mono ?_
        rintro e wN ⟨rfl, hbN⟩
        replace kp := kp.upd (Upd.of_below hbN Nope) id
        replace kq := kq.upd (Upd.of_below hbN Nope) id
        replace hu := hu.nn (Upd.of_below hbN Nope)
        clear hbN
        have kp0 := kp.cell 0
        have kp1 := kp.cell 1
        have kpl := kp.lt
        have kq0 := kq.cell 0
        have kq1 := kq.cell 1
        have kql := kq.lt
        simp only [List.getElem?_toArray, List.getElem?_cons_zero, List.getElem?_cons_succ] at kp0 kp1 kq0 kq1
        go_wp2_with fail
        go_ret
        exact ⟨by first | rfl | simp [*], (hu.alloc _).below (fun _ h => h.elim)⟩
    · have hA := HP.no hE
      subst hA
      have x1 : ¬ ((E : Int) = 0) := by omega
      have x2 : ((E : Int) != 0) = true := by simpa using x1
      clear hE
      go_wp2_with fail
      clear kp0 kp1 kpl kq0 kq1 kql
      refine (HP.right _).mono ?_
      rintro e wN ⟨rfl, hbN⟩
      replace kp := kp.upd (Upd.of_below hbN Nope) id
      replace kq := kq.upd (Upd.of_below hbN Nope) id
      replace hu := hu.nn (Upd.of_below hbN Nope)
      clear hbN
      have kp0 := kp.cell 0
      have kp1 := kp.cell 1
      have kpl := kp.lt
      have kq0 := kq.cell 0
      have kq1 := kq.cell 1
      have kql := kq.lt
      simp only [List.getElem?_toArray, List.getElem?_cons_zero, List.getElem?_cons_succ] at kp0 kp1 kq0 kq1
      go_wp2_with fail
      go_ret
      exact ⟨by first | rfl | simp [*], hu.below (fun _ h => h.elim)⟩

theorem back_walk (w : World) (p : Pt) (okp : okP p) (q : Pt) (okq : okP q) (s : ByteArray) (hs : s.size ≤ 140737488351232) (behind : ByteArray) (hb : behind.size ≤ 140737488351232) :
    Calls Tryd.prog 4 #[.agg #[.string p.1, .string p.2], .agg #[.string q.1, .string q.2], .string s, .string behind] w fun e w' => e = .returned (.bool true) ∧ Below w.heap.size w w' := by
  by_cases h : 500 < p.1.size ∨ 500 < p.2.size ∨ 500 < q.1.size ∨ 500 < q.2.size ∨ 1500 < s.size ∨ 500 < behind.size
  · exact back_big w p.1 p.2 q.1 q.2 s behind h
  · exact back_small w p.1 p.2 q.1 q.2 s behind (by omega) (by omega) (by omega) (by omega) (by omega) (by omega)
end Go.Proofs.YthfmjiafdfoajaaDoor
