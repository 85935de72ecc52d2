/- The reference: Print. -/
import Derived.Test.YthfmjiafdfoajaaDoorRf4
set_option linter.unusedVariables false
set_option linter.unusedSimpArgs false
namespace Go.Proofs.YthfmjiafdfoajaaDoor
open Go.RowKit Go.Shelf

/-- A literal row of bytes. -/
theorem own_lit (w : World) (B : Nat) (hB : B ≤ w.heap.size) (ys : List UInt8) (hy : ys ≠ []) (hl : ys.length ≤ 1000) (cs : Array Value) (hcs : cs.toList = ys.map u8v) (m : Nat) (hm : m = ys.length) :
    (w.alloc (.cells cs 5)).ownsRow B 5 1 (.slice (some ⟨w.heap.size, 0, none⟩) m m) m (ys.map u8v) := by
  subst hm
  have hsz : cs.size = ys.length := by
    have := congrArg List.length hcs
    simpa using this
  refine ⟨by simp, .inr ⟨w.heap.size, ys.length, cs, rfl, hB, heap_alloc_new w _, Nat.le_refl _, ?_, ?_, ?_⟩⟩
  · unfold maxLen; omega
  · omega
  · rw [Nat.mul_one, hcs, ← List.length_map (f := u8v), List.take_length]
theorem esc_snoc (l : List UInt8) (k : Nat) (h : k < l.length) : (l.take (k + 1)).flatMap escB = (l.take k).flatMap escB ++ escB (l.getD k 0) := by
  rw [take_snoc l k h, List.flatMap_append]
  simp

set_option maxRecDepth 100000 in
set_option maxHeartbeats 16000000 in
theorem rprint_any (lo dom : ByteArray) (hlo : lo.size ≤ 600) (hdm : dom.size ≤ 600) (w : World) : Calls Tryd.prog 10 #[.agg #[.string lo, .string dom]] w fun e w' =>
    e = .returned (if rightL lo.data.toList dom.data.toList = 0 then .tuple #[.string (bs (printT lo.data.toList dom.data.toList)), .int .i64 0] else .tuple #[.string ⟨#[]⟩, .int .i64 (rightL lo.data.toList dom.data.toList)]) ∧ Upd w w' Nope := by
  have hu0 : Upd w (w.alloc (.cells #[.string lo, .string dom] 25)) Nope := (Upd.refl _ _).alloc _
  have kp := Blk.new w #[.string lo, .string dom] 25
  have hB := fun W => rright_any lo dom (by omega) (by omega) W
  obtain ⟨R, hR⟩ : ∃ R, rightL lo.data.toList dom.data.toList = R := ⟨_, rfl⟩
  rw [hR] at hB ⊢
  have HB := Lib.hid hB
  obtain ⟨T, hT⟩ : ∃ T, bs (printT lo.data.toList dom.data.toList) = T := ⟨_, rfl⟩
  rw [hT]
  have hTd : T.data.toList = printT lo.data.toList dom.data.toList := by rw [← hT]; rfl
  clear hB hR hT
  by_cases hE : R = 0
  · subst hE
    rw [if_pos rfl]
    by_cases hd0 : dom.toList = []
    · have hde : dom.data.toList = [] := (nil_iff dom).1 hd0
      have hd1 : dom.toList.isEmpty = true := by rw [hd0]; rfl
      have HT : Hid ((⟨#[60]⟩ ++ lo ++ ⟨#[62]⟩ : ByteArray) = T) := Lib.hid (bytes_eq (by rw [hTd]; simp [printT, hde, ByteArray.data_append]))
      clear hTd hde
      go_enter Tryd.func10, Tryd.ntmps10
      go_wp2_with fail
      obtain ⟨gp, hgp⟩ : ∃ g, w.heap.size = g := ⟨_, rfl⟩
      rw [hgp] at kp
      try rw [hgp]
      generalize w.alloc (.cells #[.string lo, .string dom] 25) = W0 at kp hu0 ⊢
      have hgl : w.heap.size ≤ gp := Nat.le_of_eq hgp
      clear hgp
      refine (HB.out _).mono ?_
      rintro e wN ⟨rfl, hbN⟩
      replace kp := kp.upd hbN id
      have hu := hu0.nn hbN
      clear hbN
      have c0 := kp.cell 0
      have c1 := kp.cell 1
      have cl := kp.lt
      simp only [List.getElem?_toArray, List.getElem?_cons_zero, List.getElem?_cons_succ] at c0 c1
      go_wp2_with fail
      go_ret2
      exact ⟨by rw [← HT.out]; rfl, hu⟩
    · have hde : dom.data.toList ≠ [] := fun h => hd0 ((nil_iff dom).2 h)
      have hd1 : dom.toList.isEmpty = false := by simpa using hd0
      have hA := fun W => ratoms_any lo (by omega) W
      cases hat : atomsL lo.data.toList with
      | true =>
        rw [hat] at hA
        have HA := Lib.hid hA
        have HT : Hid ((⟨#[60]⟩ ++ lo ++ ⟨#[64]⟩ ++ dom ++ ⟨#[62]⟩ : ByteArray) = T) := Lib.hid (bytes_eq (by rw [hTd]; unfold printT; rw [if_neg hde, if_pos hat]; simp [ByteArray.data_append]))
        clear hTd hde hA hat
        go_enter Tryd.func10, Tryd.ntmps10
        go_wp2_with fail
        obtain ⟨gp, hgp⟩ : ∃ g, w.heap.size = g := ⟨_, rfl⟩
        rw [hgp] at kp
        try rw [hgp]
        generalize w.alloc (.cells #[.string lo, .string dom] 25) = W0 at kp hu0 ⊢
        have hgl : w.heap.size ≤ gp := Nat.le_of_eq hgp
        clear hgp
        refine (HB.out _).mono ?_
        rintro e wN ⟨rfl, hbN⟩
        replace kp := kp.upd hbN id
        have hu := hu0.nn hbN
        clear hbN
        have c0 := kp.cell 0
        have c1 := kp.cell 1
        have cl := kp.lt
        simp only [List.getElem?_toArray, List.getElem?_cons_zero, List.getElem?_cons_succ] at c0 c1
        go_wp2_with fail
        refine (HA.out _).mono ?_
        rintro e wN ⟨rfl, hbN⟩
        clear c0 c1 cl
        replace kp := kp.upd hbN id
        replace hu := hu.nn hbN
        clear hbN
        have c0 := kp.cell 0
        have c1 := kp.cell 1
        have cl := kp.lt
        simp only [List.getElem?_toArray, List.getElem?_cons_zero, List.getElem?_cons_succ] at c0 c1
        go_wp2_with fail
        go_ret2
        exact ⟨by rw [← HT.out]; rfl, hu⟩
      | false =>
        rw [hat] at hA
        have HA := Lib.hid hA
        obtain ⟨Q, hQ⟩ : ∃ Q, bs (60 :: 34 :: lo.data.toList.flatMap escB) = Q := ⟨_, rfl⟩
        have hQs : Q.size ≤ 1300 := by
          rw [← hQ, bs_size]
          have := esc_len lo.data.toList
          rw [data_len] at this
          simp only [List.length_cons]
          omega
        have HT : Hid ((Q ++ bs [34] ++ ⟨#[64]⟩ ++ dom ++ ⟨#[62]⟩ : ByteArray) = T) := Lib.hid (bytes_eq (by rw [hTd, ← hQ]; unfold printT; rw [if_neg hde, hat]; simp [ByteArray.data_append, bs, quoteL]))
        have HQ := Lib.hid hQ
        have hlen : lo.data.toList.length = lo.size := rfl
        clear hTd hde hA hat hQ
        go_enter Tryd.func10, Tryd.ntmps10
        go_wp2_with fail
        obtain ⟨gp, hgp⟩ : ∃ g, w.heap.size = g := ⟨_, rfl⟩
        rw [hgp] at kp
        try rw [hgp]
        generalize w.alloc (.cells #[.string lo, .string dom] 25) = W0 at kp hu0 ⊢
        have hgl : w.heap.size ≤ gp := Nat.le_of_eq hgp
        clear hgp
        refine (HB.out _).mono ?_
        rintro e wN ⟨rfl, hbN⟩
        replace kp := kp.upd hbN id
        have hu := hu0.nn hbN
        clear hbN
        have c0 := kp.cell 0
        have c1 := kp.cell 1
        have cl := kp.lt
        simp only [List.getElem?_toArray, List.getElem?_cons_zero, List.getElem?_cons_succ] at c0 c1
        go_wp2_with fail
        refine (HA.out _).mono ?_
        rintro e wN ⟨rfl, hbN⟩
        clear c0 c1 cl
        replace kp := kp.upd hbN id
        replace hu := hu.nn hbN
        clear hbN
        have c0 := kp.cell 0
        have c1 := kp.cell 1
        have cl := kp.lt
        simp only [List.getElem?_toArray, List.getElem?_cons_zero, List.getElem?_cons_succ] at c0 c1
        go_wp2_with fail
        have hown := own_lit wN (gp + 1) cl [60, 34] (by simp) (by simp) #[.int .u8 60, .int .u8 34] rfl 2 rfl
        replace hu := hu.alloc (.cells #[.int .u8 60, .int .u8 34] 5)
        replace kp := kp.alloc (.cells #[.int .u8 60, .int .u8 34] 5)
        generalize hgq : wN.heap.size = gq at hown ⊢
        generalize wN.alloc (.cells #[.int .u8 60, .int .u8 34] 5) = wC at hown hu kp ⊢
        clear c0 c1 cl hgq
        go_loopw [5, 6] (fun ov iv wr => ∃ (k : Nat), k ≤ lo.size ∧ iv = .int .i64 k ∧ wr.ownsRow (gp + 1) 5 1 ov (60 :: 34 :: (lo.data.toList.take k).flatMap escB).length ((60 :: 34 :: (lo.data.toList.take k).flatMap escB).map u8v) ∧ Blk wr gp #[.string lo, .string dom] 25 ∧ Upd w wr Nope) (fun ov iv wr => lo.size - (intOf iv).toNat)
        case atStart => exact ⟨0, Nat.zero_le _, rfl, hown, kp, hu⟩
        case round =>
          clear hown kp hu
          obtain ⟨k, hk, rfl, hown, kp, hu⟩ := hrel
          have hel := esc_len (lo.data.toList.take k)
          rw [List.length_take, hlen, Nat.min_eq_left hk] at hel
          have hol : (60 :: 34 :: (lo.data.toList.take k).flatMap escB).length ≤ 2 + 2 * k := by simp only [List.length_cons]; omega
          have c0 := kp.cell 0
          have c1 := kp.cell 1
          have cl := kp.lt
          simp only [List.getElem?_toArray, List.getElem?_cons_zero, List.getElem?_cons_succ] at c0 c1
          by_cases hlt : k < lo.size
          · have hsn := esc_snoc lo.data.toList k hlt
            rw [gd_eq lo k hlt] at hsn
            have hcs : (60 :: 34 :: (lo.data.toList.take (k + 1)).flatMap escB) = (60 :: 34 :: (lo.data.toList.take k).flatMap escB) ++ escB lo[k] := by rw [hsn]; rfl
            generalize (60 :: 34 :: (lo.data.toList.take k).flatMap escB) = out at hown hol hcs
            have hltv := hown.lt
            have hgu : gp + 1 ≤ wr.heap.size := cl
            by_cases hq : lo[k] = 34 ∨ lo[k] = 92
            · have hes : escB lo[k] = [92] ++ [lo[k]] := by unfold escB; rw [if_pos hq]; rfl
              rw [hes, ← List.append_assoc] at hcs
              obtain ⟨v', w2, hap, hown2, hu2, hb2⟩ := appB hown [92] (by simp) hgu (by simp; omega) #[.int .u8 92] rfl 1 rfl
              have kp2 := kp.upd hu2 (fun e => by have := (hltv gp e).1; omega)
              have hu2' : Upd w w2 Nope := hu.trans hu2 (fun _ _ h => h) (fun i hi e => by have h1 := (hltv i e).1; omega)
              have hltv2 := hown2.lt
              have hgu2 : gp + 1 ≤ w2.heap.size := kp2.lt
              obtain ⟨v'', w3, hap2, hown3, hu3, _⟩ := appB hown2 [lo[k]] (by simp) hgu2 (by simp; omega) #[.int .u8 lo[k].toNat] rfl 1 rfl
              have kp3 := kp2.upd hu3 (fun e => by have := (hltv2 gp e).1; omega)
              have hu3' : Upd w w3 Nope := hu2'.trans hu3 (fun _ _ h => h) (fun i hi e => by have h1 := (hltv2 i e).1; omega)
              have HO3 : Hid (w3.ownsRow (gp + 1) 5 1 v'' (60 :: 34 :: (lo.data.toList.take (k + 1)).flatMap escB).length ((60 :: 34 :: (lo.data.toList.take (k + 1)).flatMap escB).map u8v)) := Lib.hid (by
                rw [hcs]
                have e : (out ++ [92] ++ [lo[k]]).length = out.length + 1 + 1 := by simp
                rw [e]; exact hown3)
              have d0 := kp2.cell 0
              have dl := kp2.lt
              simp only [List.getElem?_toArray, List.getElem?_cons_zero] at d0
              clear hsn hcs hes hown hown2 hown3 hltv hltv2 hu hu2 hu2' hb2 kp kp2 hel hol
              rcases hq with hq | hq
              · have hx : ((lo[k].toNat : Int) == 34) = true := by rw [hq]; decide
                clear hq
                go_wp2_with (at_builtin; refine wpList_append_eq _ _ rfl rfl hap rfl rfl rfl ?_; go_wp2_with (at_builtin; refine wpList_append_eq _ _ rfl rfl hap2 rfl rfl rfl ?_))
                go_roundw
                case rel => exact ⟨k + 1, by omega, by go_num, HO3.out, kp3, hu3'⟩
                case measure => simp [intOf]; omega
              · have hx : ((lo[k].toNat : Int) == 34) = false := by rw [hq]; decide
                have hx2 : ((lo[k].toNat : Int) == 92) = true := by rw [hq]; decide
                clear hq
                go_wp2_with (at_builtin; refine wpList_append_eq _ _ rfl rfl hap rfl rfl rfl ?_; go_wp2_with (at_builtin; refine wpList_append_eq _ _ rfl rfl hap2 rfl rfl rfl ?_))
                go_roundw
                case rel => exact ⟨k + 1, by omega, by go_num, HO3.out, kp3, hu3'⟩
                case measure => simp [intOf]; omega
            · have hes : escB lo[k] = [lo[k]] := by unfold escB; rw [if_neg hq]
              rw [hes] at hcs
              obtain ⟨v', w2, hap, hown2, hu2, hb2⟩ := appB hown [lo[k]] (by simp) hgu (by simp; omega) #[.int .u8 lo[k].toNat] rfl 1 rfl
              have kp2 := kp.upd hu2 (fun e => by have := (hltv gp e).1; omega)
              have hu2' : Upd w w2 Nope := hu.trans hu2 (fun _ _ h => h) (fun i hi e => by have h1 := (hltv i e).1; omega)
              have HO3 : Hid (w2.ownsRow (gp + 1) 5 1 v' (60 :: 34 :: (lo.data.toList.take (k + 1)).flatMap escB).length ((60 :: 34 :: (lo.data.toList.take (k + 1)).flatMap escB).map u8v)) := Lib.hid (by
                rw [hcs]
                have e : (out ++ [lo[k]]).length = out.length + 1 := by simp
                rw [e]; exact hown2)
              have hx : ((lo[k].toNat : Int) == 34) = false := by
                rw [beq_eq_false_iff_ne]; exact fun h => hq (.inl (u8_of (n := 34) (by decide) h))
              have hx2 : ((lo[k].toNat : Int) == 92) = false := by
                rw [beq_eq_false_iff_ne]; exact fun h => hq (.inr (u8_of (n := 92) (by decide) h))
              clear hsn hcs hes hown hown2 hltv hu hu2 hb2 kp hel hol hq
              go_wp2_with (at_builtin; refine wpList_append_eq _ _ rfl rfl hap rfl rfl rfl ?_)
              go_roundw
              case rel => exact ⟨k + 1, by omega, by go_num, HO3.out, kp2, hu2'⟩
              case measure => simp [intOf]; omega
          · obtain rfl : k = lo.size := by omega
            rw [List.take_of_length_le (Nat.le_of_eq hlen)] at hown
            have hcv := strB hown
            rw [HQ.out] at hcv
            have hl2 := own_lit wr 0 (Nat.zero_le _) [34] (by simp) (by simp) #[.int .u8 34] rfl 1 rfl
            have hcv2 := strB hl2
            have hu2 := hu.alloc (.cells #[.int .u8 34] 5)
            obtain ⟨q34, hq34⟩ : ∃ q, bs [34] = q := ⟨_, rfl⟩
            have hq34s : q34.size = 1 := by rw [← hq34]; rfl
            have hq34s' : q34.size ≤ 1 := by omega
            rw [hq34] at hcv2 HT
            clear hown hl2 hel hol hq34 hq34s
            go_wp2_with fail
            go_ret2
            exact ⟨by rw [← HT.out]; rfl, hu2⟩
  · rw [if_neg hE]
    have x1 : ¬ ((R : Int) = 0) := by omega
    have x2 : ((R : Int) != 0) = true := by simpa using x1
    clear hTd hE
    go_enter Tryd.func10, Tryd.ntmps10
    go_wp2_with fail
    obtain ⟨gp, hgp⟩ : ∃ g, w.heap.size = g := ⟨_, rfl⟩
    rw [hgp] at kp
    try rw [hgp]
    generalize w.alloc (.cells #[.string lo, .string dom] 25) = W0 at kp hu0 ⊢
    have hgl : w.heap.size ≤ gp := Nat.le_of_eq hgp
    clear hgp
    refine (HB.out _).mono ?_
    rintro e wN ⟨rfl, hbN⟩
    replace kp := kp.upd hbN id
    have hu := hu0.nn hbN
    clear hbN
    have c0 := kp.cell 0
    have c1 := kp.cell 1
    have cl := kp.lt
    simp only [List.getElem?_toArray, List.getElem?_cons_zero, List.getElem?_cons_succ] at c0 c1
    go_wp2_with fail
    go_ret2
    exact ⟨rfl, hu⟩
end Go.Proofs.YthfmjiafdfoajaaDoor
