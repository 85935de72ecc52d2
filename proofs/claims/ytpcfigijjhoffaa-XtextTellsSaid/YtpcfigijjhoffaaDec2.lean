/- The contract of Decode. -/
import Derived.Test.YtpcfigijjhoffaaDec
import Derived.Deep.LoopGhost
set_option linter.unusedVariables false
set_option linter.unusedSimpArgs false
namespace Go.Proofs.Ytpcfigijjhoffaa
open Go.RowKit

theorem dgV_lt (l : List UInt8) : dgV l < 16 := by
  cases l with
  | nil => simp [dgV]
  | cons c r =>
    unfold dgV
    simp only []
    cases h : val c with
    | none => simp
    | some x => simpa using valN_lt h
theorem decL_two (r : List UInt8) : decL (43 :: r) = if dgB (dgB false r) r.tail then none else (decL r.tail.tail).map (UInt8.ofNat (16 * dgV r + dgV r.tail) :: ·) := by
  match r with
  | [] => rw [decL_short [] (by simp)]; rfl
  | [x] => rw [decL_short [x] (by simp)]; simp [dgB]
  | x :: y :: r =>
    rw [decL_plus]
    simp only [dgB, dgV, List.tail_cons]
    rcases Option.eq_none_or_eq_some (val x) with hx | ⟨p, hx⟩ <;> rcases Option.eq_none_or_eq_some (val y) with hy | ⟨q, hy⟩ <;> simp [hx, hy]
def decRet (l : List UInt8) : Value := match decL l with
  | some o => .tuple #[.string ⟨o.toArray⟩, .int .i64 0]
  | none => .tuple #[.string ⟨#[]⟩, .int .i64 2]
/-- What is left to tell, with what was told so far. -/
def rest (bad : Bool) (out r : List UInt8) : Option (List UInt8) := if bad then none else (decL r).map (out ++ ·)

theorem or_u8 (a b : Nat) (ha : a < 16) (hb : b < 16) : bits .or .u8 ((a : Int) * 16) (b : Int) = ((16 * a + b : Nat) : Int) := by
  have h := bits_join .u8 8 (by decide) (fun n h h' => by rw [IntKind.wrap_u8]; omega) 4 ((a : Int) * 16) (b : Int) (by omega) (by omega) (by omega) (by omega) (by omega) (by omega)
  rw [h]
  omega

set_option maxHeartbeats 4000000 in
set_option maxRecDepth 20000 in
theorem decode_any (s : ByteArray) (w : World) (hs : s.size ≤ 1000000) : Calls Try.prog 8 #[.string s] w fun e w' => e = .returned (decRet s.data.toList) ∧ Upd w w' Nope := by
  go_enter Try.func8, Try.ntmps8
  go_wp2_with fail
  have hs0 : Blk (((w.alloc (.cells #[.string s] 9)).alloc (.cells #[.pointer none, .slice none 0 0] 35)).alloc (.cells #[.bool false] 4)) w.heap.size #[.string s] 9 := ((Blk.new _ _ _).alloc _).alloc _
  have hb0 : Blk (((w.alloc (.cells #[.string s] 9)).alloc (.cells #[.pointer none, .slice none 0 0] 35)).alloc (.cells #[.bool false] 4)) (w.heap.size + 1 + 1) #[.bool false] 4 := by
    have := Blk.new ((w.alloc (.cells #[.string s] 9)).alloc (.cells #[.pointer none, .slice none 0 0] 35)) #[.bool false] 4
    simpa using this
  have hd0 : Bld (((w.alloc (.cells #[.string s] 9)).alloc (.cells #[.pointer none, .slice none 0 0] 35)).alloc (.cells #[.bool false] 4)) w.heap.size (w.heap.size + 1) (.slice none 0 0) [] := by
    have := (Bld.new (w.alloc (.cells #[.string s] 9)) w.heap.size (by simp)).nope ((Upd.refl _ Nope).alloc (.cells #[.bool false] 4))
    simpa using this
  have hu0 : Upd w (((w.alloc (.cells #[.string s] 9)).alloc (.cells #[.pointer none, .slice none 0 0] 35)).alloc (.cells #[.bool false] 4)) Nope := (((Upd.refl _ _).alloc _).alloc _).alloc _
  generalize (((w.alloc (.cells #[.string s] 9)).alloc (.cells #[.pointer none, .slice none 0 0] 35)).alloc (.cells #[.bool false] 4)) = w0 at hs0 hb0 hd0 hu0 ⊢
  obtain ⟨g, hg⟩ : ∃ g, g = w.heap.size := ⟨_, rfl⟩
  rw [← hg] at hs0 hb0 hd0 ⊢
  obtain ⟨gb, hgb⟩ : ∃ gb, gb = g + 1 + 1 := ⟨_, rfl⟩
  rw [← hgb] at hb0 ⊢
  obtain ⟨gd, hgd⟩ : ∃ gd, gd = g + 1 := ⟨_, rfl⟩
  rw [← hgd] at hd0 ⊢
  have q1 : w.heap.size ≤ g := by omega
  have q2 : g < gd := by omega
  have q3 : gd < gb := by omega
  clear hg hgb hgd
  go_loopg [7] (s.size + 1) (fun kq _ wr => ∃ (r : ByteArray) (bad : Bool) (out : List UInt8) (v : Value), Blk wr g #[.string r] 9 ∧ Blk wr gb #[.bool bad] 4 ∧ Bld wr g gd v out ∧ (∀ q, v.ownBlock = some q → gb + 1 ≤ q) ∧
    Hid (decL s.data.toList = rest bad out r.data.toList) ∧ out.length + r.size ≤ s.size ∧ r.size < kq ∧ Upd w wr Nope)
  case atStart => exact ⟨s, false, [], _, hs0, hb0, hd0, by simp [Value.ownBlock], Lib.hid (by simp [rest]), by simp, by omega, hu0⟩
  case round =>
    clear hs0 hb0 hd0 hu0
    obtain ⟨r, bad, out, v, hs1, hb1, hd1, hv, HD, hlen, hkq, hu⟩ := hrel
    have c0 : wr.cell? ⟨g, 0, none⟩ = some (.string r) := (hs1.cell 0).trans rfl
    have c1 : wr.cell? ⟨gb, 0, none⟩ = some (.bool bad) := (hb1.cell 0).trans rfl
    have f0 := hs1.frozen 0
    have f1 := hb1.frozen 0
    have hlt := hb1.lt
    by_cases hend : bad = true ∨ r.size = 0
    · cases bad with
      | true =>
        have hD := HD.out
        have hfin : decRet s.data.toList = .tuple #[.string ⟨#[]⟩, .int .i64 2] := by unfold decRet; rw [hD]; rfl
        have HF := Lib.hid hfin
        clear hD HD hfin hend
        cases hq : (r.toList == [])
        all_goals
          go_wp2
          go_ret2
          exact ⟨ret_eq (by rw [HF.out]; rfl), hu⟩
      | false =>
        have hl : r.data.toList = [] := List.eq_nil_of_length_eq_zero (by rw [data_len]; simpa using hend)
        have hq : (r.toList == []) = true := by rw [ByteArray.toList_eq, hl]; rfl
        have hD := HD.out
        rw [hl] at hD
        have hfin : decRet s.data.toList = .tuple #[.string ⟨out.toArray⟩, .int .i64 0] := by unfold decRet; rw [hD]; simp [rest, decL]
        have HF := Lib.hid hfin
        clear hD HD hfin hend hl
        go_wp2_with fail
        refine (bld_string wr _ _ v _ hd1 (by omega)).mono ?_
        rintro e w2 ⟨rfl, hd2⟩
        go_wp2
        go_ret2
        exact ⟨ret_eq (by rw [HF.out]; rfl), Upd.of_below ((hu.below (fun _ h => h.elim)).trans (hd2.mono (by omega))) Nope⟩
    · have hbad : bad = false := by cases bad <;> simp_all
      subst hbad
      have hr0 : ¬ r.size = 0 := by omega
      cases hl : r.data.toList with
      | nil => exact absurd (by rw [← data_len, hl]; rfl) hr0
      | cons c t =>
        have hq : (r.toList == []) = false := by rw [ByteArray.toList_eq, hl]; rfl
        have hix := index0 r c t hl
        have hsl : (1 : Int) ≤ r.size := by omega
        have htl : r.extract 1 r.size = tl r := rfl
        have htls := tl_size r
        have htll : (tl r).data.toList = t := by rw [tl_list, hl]; rfl
        have hD := HD.out
        rw [hl] at hD
        have HD2 := Lib.hid hD
        have HT := Lib.hid htll
        have hcl := c.toNat_lt
        clear hD HD hl htll
        have hpl := fun w => plain_any c.toNat w (by omega)
        have hset : Blk (wr.setCell ⟨g, 0, none⟩ (.string (tl r))) g #[.string (tl r)] 9 := by simpa using hs1.set 0 (.string (tl r))
        have hset2 := hb1.far (p := ⟨g, 0, none⟩) (by simp; omega) (.string (tl r))
        have hupd : Upd wr (wr.setCell ⟨g, 0, none⟩ (.string (tl r))) (fun k => k = g) := (Upd.refl _ _).set _ _ (.inl rfl)
        have hset3 := hd1.upd hupd (by omega) (fun i hi => by have := hv i hi; omega)
        have hu1 := hu.trans hupd (H := Nope) (fun _ _ h => h) (fun i hi h => by omega)
        clear hupd hs1 hb1 hd1 hu
        go_wp2_with fail
        generalize wr.setCell ⟨g, 0, none⟩ (.string (tl r)) = wa at hset hset2 hset3 hu1 ⊢
        clear c0 c1 f0 f1 hix htl hq
        refine (hpl wa).mono ?_
        rintro e w1 ⟨rfl, hw1⟩
        obtain rfl : wa = w1 := hw1.symm
        clear hpl
        have hlt1 := hset2.lt
        generalize hz : tl r = r1 at hset hset2 hset3 htls HT
        have HZ := Lib.hid hz
        clear hz
        by_cases hp : plainN c.toNat = true
        · have hD3 : decL s.data.toList = rest false (out ++ [c]) r1.data.toList := by
            rw [HD2.out, HT.out]
            unfold rest
            rw [decL_plain _ (show plainB c = true from hp)]
            cases decL t <;> simp
          have HD3 := Lib.hid hD3
          rw [hp]
          clear hD3 HD2 hp
          go_wp2_with fail
          refine (bld_writeByte wa _ _ v out hset3 c _ rfl (by omega) (by omega)).mono ?_
          rintro e w3 ⟨rfl, v3, hb3, hu3, hl3⟩
          have n1 := hset.upd hu3 (fun h => by
            rcases h with h | h
            · omega
            · have := hv _ h; omega)
          have n2 := hset2.upd hu3 (fun h => by
            rcases h with h | h
            · omega
            · have := hv _ h; omega)
          have n3 := bld_step hu1 (by omega) (fun k h => by have := hv k h; omega) hu3
          have n4 := own_step hv (by omega) hl3
          clear hset hset2 hset3 hu1 hu3 hl3 hv
          go_wp2
          cases gk with
          | zero => omega
          | succ gk =>
            go_roundg gk
            case measure => omega
            case rel => exact ⟨r1, false, out ++ [c], v3, n1, n2, hb3, n4, HD3, by simp; omega, by omega, n3⟩
        · have hp : plainN c.toNat = false := by simpa using hp
          by_cases h43 : c = 43
          · have h4 : ((c.toNat : Int) == 43) = true := by rw [h43]; rfl
            have hD3 := HD2.out
            rw [h43] at hD3
            unfold rest at hD3
            rw [decL_two t, ← HT.out] at hD3
            have HD3 := Lib.hid hD3
            rw [hp]
            clear hD3 HD2 HT hp
            go_wp2_with fail
            refine wp_loop_rounds 3 ?_
            rw [rounds_succ]
            go_wp2_with fail
            refine (dig_any g gb r1 false wa hset hset2 (by omega)).mono ?_
            rintro e w1 ⟨rfl, m1, m2, m3⟩
            have m4 := hset3.upd m3 (by omega) (fun i hi => by have := hv i hi; omega)
            have m5 := hu1.trans m3 (H := Nope) (fun _ _ h => h) (fun i hi h => by omega)
            clear hset hset2 hset3 hu1 m3
            have v1 := dgV_lt r1.data.toList
            have z1 := tl_size r1
            have z2 := tl_size (tl r1)
            have e1 := tl_list r1
            have e2 := tl_list (tl r1)
            have HE1 := Lib.hid e1
            have HE2 := Lib.hid e2
            clear e1 e2
            generalize hV1 : dgV r1.data.toList = V1 at v1
            have HV1 := Lib.hid hV1
            clear hV1
            go_wp2_with fail
            have ho0 := or_u8 0 V1 (by omega) v1
            rw [show ((0 : Nat) : Int) * 16 = 0 from rfl, show 16 * 0 + V1 = V1 by omega] at ho0
            rw [ho0]
            clear ho0
            rw [rounds_succ]
            go_wp2_with fail
            refine (dig_any g gb (tl r1) (dgB false r1.data.toList) w1 m1 m2 (by omega)).mono ?_
            rintro e w2 ⟨rfl, k1, k2, k3⟩
            have k4 := m4.upd k3 (by omega) (fun i hi => by have := hv i hi; omega)
            have k5 := m5.trans k3 (H := Nope) (fun _ _ h => h) (fun i hi h => by omega)
            clear m1 m2 m4 m5 k3
            have v2 := dgV_lt (tl r1).data.toList
            generalize hV2 : dgV (tl r1).data.toList = V2 at v2
            have HV2 := Lib.hid hV2
            clear hV2
            have ho1 := or_u8 V1 V2 v1 v2
            go_wp2_with fail
            rw [show (16 * (V1 : Int) + V2) = ((16 * V1 + V2 : Nat) : Int) by omega]
            clear ho1
            rw [rounds_succ]
            go_wp2_with fail
            have hw2 := k2.lt
            refine (bld_writeByte w2 _ _ v out k4 (UInt8.ofNat (16 * V1 + V2)) _ (by simp; omega) (by omega) (by omega)).mono ?_
            rintro e w3 ⟨rfl, v3, hb3, hu3, hl3⟩
            have n1 := k1.upd hu3 (fun h => by
              rcases h with h | h
              · omega
              · have := hv _ h; omega)
            have n2 := k2.upd hu3 (fun h => by
              rcases h with h | h
              · omega
              · have := hv _ h; omega)
            have n3 := bld_step k5 (by omega) (fun k h => by have := hv k h; omega) hu3
            have n4 := own_step hv (by omega) hl3
            clear k1 k2 k4 k5 hu3 hl3 hv
            have hfin : decL s.data.toList = rest (dgB (dgB false r1.data.toList) (tl r1).data.toList) (out ++ [UInt8.ofNat (16 * V1 + V2)]) (tl (tl r1)).data.toList := by
              have h := HD3.out
              rw [h, HE2.out, HE1.out, ← HV1.out, ← HV2.out, HE1.out]
              simp only [rest, Bool.false_eq_true, if_false]
              by_cases hx : dgB (dgB false r1.data.toList) r1.data.toList.tail = true
              · rw [if_pos hx, if_pos hx]; rfl
              · rw [if_neg hx, if_neg hx]
                cases decL r1.data.toList.tail.tail <;> simp
            have HFIN := Lib.hid hfin
            clear hfin
            generalize dgB (dgB false r1.data.toList) (tl r1).data.toList = bb at n2 HFIN
            generalize tl (tl r1) = r3 at n1 HFIN z2
            go_wp2
            cases gk with
            | zero => omega
            | succ gk =>
              go_roundg gk
              case measure => omega
              case rel => exact ⟨r3, bb, _, v3, n1, n2, hb3, n4, HFIN, by simp; omega, by omega, n3⟩
          · have hD3 : decL s.data.toList = rest true out r1.data.toList := by
              rw [HD2.out]
              unfold rest
              rw [decL_bad _ (show plainB c = false from hp) h43]
              rfl
            have HD3 := Lib.hid hD3
            rw [hp]
            have h4 : ((c.toNat : Int) == 43) = false := beq_false_of_ne (fun e => h43 (UInt8.toNat.inj (by simpa using (by omega : c.toNat = 43))))
            have d1 : wa.cell? ⟨gb, 0, none⟩ = some (.bool false) := (hset2.cell 0).trans rfl
            have d2 := hset2.frozen 0
            have n1 := hset.far (p := ⟨gb, 0, none⟩) (by simp; omega) (.bool true)
            have n2 : Blk (wa.setCell ⟨gb, 0, none⟩ (.bool true)) gb #[.bool true] 4 := by simpa using hset2.set 0 (.bool true)
            have hupd : Upd wa (wa.setCell ⟨gb, 0, none⟩ (.bool true)) (fun k => k = gb) := (Upd.refl _ _).set _ _ (.inl rfl)
            have n3 := hset3.upd hupd (by omega) (fun i hi => by have := hv i hi; omega)
            have n4 := hu1.trans hupd (H := Nope) (fun _ _ h => h) (fun i hi h => by omega)
            clear hD3 HD2 hp hupd hset hset2 hset3 hu1
            go_wp2
            cases gk with
            | zero => omega
            | succ gk =>
              go_roundg gk
              case measure => omega
              case rel => exact ⟨r1, true, out, v, n1, n2, n3, hv, HD3, by omega, by omega, n4⟩
end Go.Proofs.Ytpcfigijjhoffaa
