/- The law DiskRoom. -/
import Derived.Test.YtkglcgekpgcdpaaScr
import Derived.Test.YtkglcgekpgcdpaaSeq
import Derived.IntWalk
set_option linter.unusedVariables false
set_option linter.unusedSimpArgs false
namespace Go.Proofs.Ytkglcgekpgcdpaa
open Go.RowKit

set_option maxRecDepth 100000 in
set_option maxHeartbeats 40000000 in
theorem room_walk (w : World) (room : Int) (hroom : (Lit.int .i64 room).wf = true) (A : Option Addr) (cap : Nat) (l : List Ac) (hl : RdA w A l) (hlc : l.length ≤ cap) (hcm : cap ≤ maxLen) (hok : ∀ a ∈ l, a.ok) :
    Calls Try.prog 4 #[.int .i64 room, .slice A l.length cap] w fun e w' => e = .returned (.bool true) ∧ Below w.heap.size w w' := by
  suffices h : Calls Try.prog 4 #[.int .i64 room, .slice A l.length cap] w fun e w' => e = .returned (.bool true) ∧ Upd w w' Nope from h.mono fun e w' ⟨h1, h2⟩ => ⟨h1, h2.below (fun _ h => h.elim)⟩
  have HL := Lib.hid hl
  have HOK := Lib.hid hok
  have hlen : l.length ≤ maxLen := by omega
  clear hl hok
  cases hf : fewR l with
  | false =>
    have HF := Lib.hid hf
    clear hf
    go_enter Try.func4, Try.ntmps4
    go_wp2_with fail
    refine (awake_any w).mono ?_
    rintro e w1 ⟨rfl, u1⟩
    have hc := few_any (cap := cap) (HL.out.nn u1) hlen
    rw [HF.out] at hc
    have HC := Lib.hid hc
    clear hc
    go_wp2_with fail
    refine HC.out.mono ?_
    rintro e w2 ⟨rfl, hw⟩
    obtain rfl : w1 = w2 := hw.symm
    go_wp2
    go_returns
    exact ⟨rfl, u1⟩
  | true =>
    obtain ⟨hl200, hshort⟩ := few_of hf
    have HSH := Lib.hid hshort
    have HF := Lib.hid hf
    clear hf hshort
    by_cases hr : newOk room = true
    · have hr' : 1 ≤ room ∧ room ≤ 1048576 := by simpa [newOk] using hr
      have d1 : decide (room < 1) = false := by simp; omega
      have d2 : decide (1048576 < room) = false := by simp; omega
      have HR := Lib.hid hr
      have HR' := Lib.hid hr'
      clear hr hr' hroom
      go_enter Try.func4, Try.ntmps4
      go_wp2_with fail
      refine (awake_any w).mono ?_
      rintro e w1 ⟨rfl, u1⟩
      have hc := few_any (cap := cap) (HL.out.nn u1) hlen
      rw [HF.out] at hc
      have HC := Lib.hid hc
      clear hc
      go_wp2_with fail
      refine HC.out.mono ?_
      rintro e w2 ⟨rfl, hw⟩
      obtain rfl : w1 = w2 := hw.symm
      clear HC
      go_wp2_with fail
      refine (new_any room w1).mono ?_
      rintro e w2 ⟨_, hn, u2⟩
      obtain ⟨g, q, rfl, h2, lg, lb⟩ := hn HR.out
      have H2 := Lib.hid h2
      clear h2 hn
      have V2 := u1.nn u2
      have lg : w.heap.size ≤ g := Nat.le_trans u1.size lg
      have lb : w.heap.size ≤ q := Nat.le_trans u1.size lb
      clear u1 u2
      have hfit0 : (⟨room, [], false, 0, 0, 0⟩ : Dk).fit := ⟨⟨Int.le_refl _, (by show (0 : Int) ≤ 4611686018427387904; decide), (by show (-9223372036854775808 : Int) ≤ 0; decide), (by show (0 : Int) ≤ 9223372036854775807; decide), by simp⟩, HR'.out.1, HR'.out.2, by have := HR'.out.1; simp [sumL]; omega, by simp⟩
      have F0 := Lib.hid hfit0
      clear hfit0
      go_wp2_with fail
      go_loopw [7] (fun i wr => ∃ (k : Nat) (d : Dk), k ≤ l.length ∧ i = .int .i64 k ∧ DK wr g q d ∧ d.fit ∧ d.ch ≤ k ∧ d.room = room ∧ Upd w wr Nope) (fun i _ => l.length - (intOf i).toNat)
      case atStart => exact ⟨0, _, Nat.zero_le _, rfl, H2.out, F0.out, Int.le_refl _, rfl, V2⟩
      case round =>
        obtain ⟨k, d, hk, rfl, hd, hfit, hch, hdr, hu⟩ := hrel
        by_cases hlt : k < l.length
        · have hL := HL.out.nn hu
          obtain ⟨ad, rfl, _⟩ := hL k hlt
          have c0 := hL.f0 hlt rfl
          have c1 := hL.fs hlt 0 rfl
          have c2 := hL.fs hlt 1 rfl
          have c3 := hL.fs hlt 2 rfl
          have c4 := hL.fs hlt 3 rfl
          have hs := (HSH.out _ (List.getElem_mem hlt)).2
          have hao := HOK.out _ (List.getElem_mem hlt)
          simp only [Nat.zero_add, Nat.reduceAdd] at c1 c2 c3 c4
          generalize l[k] = a at c0 c1 c2 c3 c4 hs hao
          have HLT := Lib.hid hlt
          have HL200 := Lib.hid hl200
          have HD := Lib.hid hd
          have HFI := Lib.hid hfit
          have HCH := Lib.hid hch
          have HDR := Lib.hid hdr
          have HA := Lib.hid hao
          have HS := Lib.hid hs
          clear hL hd hfit hch hdr hao hs
          have hsum := fun (d' : Dk) (h : d'.fit) => (show sumL d'.L ≤ 4611686018427387904 by have := h.sum; have := h.r1; omega)
          have hlen' := fun (d' : Dk) (h : d'.fit) => (show d'.L.length ≤ 100000 by have := h.len; omega)
          have HSUM := Lib.hid hsum
          have HLEN := Lib.hid hlen'
          clear hsum hlen'
          go_wp2_with fail
          have hB := Blk.new wr #[.int .i64 a.k, .string a.n, .string a.s, .int .i64 a.ca, .int .i64 a.ck] 33
          have u3 : Upd wr (wr.alloc (.cells #[.int .i64 a.k, .string a.n, .string a.s, .int .i64 a.ca, .int .i64 a.ck] 33)) Nope := (Upd.refl wr _).alloc _
          have hd3 := HD.out.nn u3
          have v3 := hu.nn u3
          have ng : wr.heap.size ≠ g := by have := HD.out.blk.lt; omega
          have nq : wr.heap.size ≠ q := by have := HD.out.mp.lt; omega
          clear u3
          generalize wr.alloc (.cells #[.int .i64 a.k, .string a.n, .string a.s, .int .i64 a.ca, .int .i64 a.ck] 33) = w3 at hB hd3 v3 ⊢
          generalize wr.heap.size = gb at hB ng nq ⊢
          have D3 := Lib.hid hd3
          have B3 := Lib.hid hB
          clear hd3 hB HD
          have hU := used_any D3.out (HSUM.out d HFI.out)
          have HU := Lib.hid hU
          clear hU
          refine HU.out.mono ?_
          rintro e w4 ⟨rfl, u4⟩
          clear HU
          have D4 := Lib.hid (D3.out.nn u4)
          have B4 := Lib.hid (B3.out.upd u4 id)
          have v4 := v3.nn u4
          clear D3 B3 v3 u4
          have hU := list_any D4.out (HLEN.out d HFI.out)
          have HU := Lib.hid hU
          clear hU
          go_wp2_with fail
          refine HU.out.mono ?_
          rintro e w5 ⟨A1, cap1, l1, he, _, hp, u5, _⟩
          have hp := hp.length_eq
          rw [List.length_map] at hp
          rw [hp] at he
          subst he
          clear HU hp
          have D5 := Lib.hid (D4.out.nn u5)
          have B5 := Lib.hid (B4.out.upd u5 id)
          have v5 := v4.nn u5
          clear D4 B4 v4 u5
          have x1 : w5.cell? ⟨gb, 1, none⟩ = some (.string a.n) := (B5.out.cell 1).trans rfl
          have hU := read_any D5.out a.n
          have HU := Lib.hid hU
          clear hU
          go_wp2_with fail
          refine HU.out.mono ?_
          rintro e w6 ⟨rfl, u6⟩
          clear HU
          have D6 := Lib.hid (D5.out.nn u6)
          have B6 := Lib.hid (B5.out.upd u6 id)
          have v6 := v5.nn u6
          clear D5 B5 v5 u6 x1
          have y0 : w6.cell? ⟨gb, 0, none⟩ = some (.int .i64 a.k) := (B6.out.cell 0).trans rfl
          have y1 : w6.cell? ⟨gb, 1, none⟩ = some (.string a.n) := (B6.out.cell 1).trans rfl
          have y2 : w6.cell? ⟨gb, 2, none⟩ = some (.string a.s) := (B6.out.cell 2).trans rfl
          have y3 : w6.cell? ⟨gb, 3, none⟩ = some (.int .i64 a.ca) := (B6.out.cell 3).trans rfl
          have y4 : w6.cell? ⟨gb, 4, none⟩ = some (.int .i64 a.ck) := (B6.out.cell 4).trans rfl
          have hC := does_any D6.out HFI.out a HA.out HS.out
          have HC := Lib.hid hC
          clear hC
          go_wp2_with fail
          refine HC.out.mono ?_
          rintro e w7 ⟨rfl, hd7, u7⟩
          have hfits := does_fits HFI.out D6.out.mp.apart a.n a.s HCH.out a.k a.ca a.ck HS.out HA.out.1.1 HA.out.1.2
          have hlaw := room_law HFI.out D6.out.mp.apart a.k a.n a.s a.ca a.ck HS.out
          generalize (findR d [] a.n).1.s = old at hlaw ⊢
          generalize doesR d a.k a.n a.s a.ca a.ck = R at hd7 hfits hlaw ⊢
          obtain ⟨d7, f⟩ := R
          simp only at hd7 hfits hlaw ⊢
          have hfit7 := fit_of_fits hfits HFI.out (by omega)
          have hch7 := hfits.ch1
          have hr7 := hfits.room
          have hsum7 := hfits.sum
          have hlen7 := hfits.len
          have F7 := Lib.hid hfit7
          have HCH7 := Lib.hid hch7
          have HR7 := Lib.hid hr7
          rw [HDR.out] at hsum7
          have hcs : d.L.length ≤ 128 := HFI.out.len
          have hsum0 := sumL_nn d.L
          have hsum1 := HFI.out.sum
          have hsr := HR'.out
          have B7 := Lib.hid (B6.out.upd u7 (by omega))
          have D7 := Lib.hid hd7
          have v7 := v6.trans u7 (fun _ _ h => h) (fun i hi h => by omega)
          rw [HDR.out] at hsum1
          clear HC u7 y0 y1 y2 y3 y4 B6 D6 v6 hd7 hfits hfit7 hch7 hr7
          have hU := used_any D7.out (HSUM.out d7 F7.out)
          have HU := Lib.hid hU
          clear hU
          have t1 : decide (room < sumL d7.L) = false := by simpa using hsum7
          have t2 : decide (128 < (d7.L.length : Int)) = false := by simp; omega
          go_wp2_with fail
          refine HU.out.mono ?_
          rintro e w8 ⟨rfl, u8⟩
          clear HU
          have D8 := Lib.hid (D7.out.nn u8)
          have B8 := Lib.hid (B7.out.upd u8 id)
          have v8 := v7.nn u8
          clear D7 B7 v7 u8
          have hU := list_any D8.out (HLEN.out d7 F7.out)
          have HU := Lib.hid hU
          clear hU
          go_wp2_with fail
          refine HU.out.mono ?_
          rintro e w9 ⟨A2, cap2, l2, he, _, hp, u9, _⟩
          have hp := hp.length_eq
          rw [List.length_map] at hp
          rw [hp] at he
          subst he
          clear HU hp
          have D9 := Lib.hid (D8.out.nn u9)
          have B9 := Lib.hid (B8.out.upd u9 id)
          have v9 := v8.nn u9
          clear D8 B8 v8 u9
          have hU := used_any D9.out (HSUM.out d7 F7.out)
          have HU := Lib.hid hU
          clear hU
          have z0 : w9.cell? ⟨gb, 0, none⟩ = some (.int .i64 a.k) := (B9.out.cell 0).trans rfl
          have z2 : w9.cell? ⟨gb, 2, none⟩ = some (.string a.s) := (B9.out.cell 2).trans rfl
          obtain ⟨law1, law2⟩ := hlaw
          by_cases hf0 : f = 0
          · subst hf0
            have hl2 := law2 rfl
            clear law1 law2
            have HSM := Lib.hid (HSUM.out d7 F7.out)
            have HLN := Lib.hid (HLEN.out d7 F7.out)
            obtain ⟨ka, hka⟩ : ∃ ka, a.k = ka := ⟨_, rfl⟩
            rw [hka] at z0 hl2
            clear hka
            go_wp2_with fail
            clear t1 t2
            by_cases k0 : ka = 0
            · subst k0
              have e1 := hl2.1 rfl
              have t3 : (sumL d7.L != sumL d.L + (a.s.size : Int)) = false := by simpa using e1
              clear hl2
              have hs2 := HS.out
              have hw : IntKind.i64.wrap (sumL d.L + (a.s.size : Int)) = sumL d.L + (a.s.size : Int) := IntWalk.i64_in _ (by omega)
              clear e1 hs2 hsum7 hsum1 hsum0 hsr hlen7 hcs hl200 hlc hcm hlen
              have Z0 := fun x : UW w9 => x.cell z0
              have Z2 := fun x : UW w9 => x.cell z2
              refine region_seq [([0, 1, 2, 3, 4, 5, 6, 7, 8, 10, 11, 12, 13, 14], 9), ([15, 16, 17, 18, 19, 20, 21, 22, 23, 24, 25, 26, 28, 29, 30, 31], 27), ([32, 33, 34, 37, 38], 35), ([36, 39, 40, 41, 42, 43, 44, 45, 46, 47, 48, 49, 50, 51, 52, 54], 53)] [55, 56, 57] (by kernel_rfl) (fun w' => ∃ x : UW w9, w' = x.val) (by kernel_rfl) (fun _ _ d _ _ h => by cases d <;> exact h) ⟨⟨w9.drew, (Upd.refl _ _).drew⟩, rfl⟩ ?_
              simp only [segsAt_cons, segsAt_nil, opsAt_cons, opsAt_nil, List.getElem?_toArray, List.getElem?_cons_zero, List.getElem?_cons_succ, consO_some, pairO_some]
              refine wpS_seg ?_
              repeat (first | go_big_quiet_skip | (go_big_quiet_want; go_big_quiet_op; go_big_quiet_on))
              refine wpQuiet_nil ?_
              go_wp2_with fail
              refine (used_any (D9.out.nn ((Upd.refl _ _).drew)) HSM.out).mono ?_
              rintro e w10 ⟨rfl, u10⟩
              go_wp2_with fail
              refine ⟨⟨⟨w10, ((Upd.refl _ _).drew).nn u10⟩, rfl⟩, ?_⟩
              refine wpS_seg ?_
              repeat (first | go_big_quiet_skip | (go_big_quiet_want; go_big_quiet_op; go_big_quiet_on))
              refine wpQuiet_nil ?_
              go_wp2_with fail
              refine ⟨⟨⟨w10, ((Upd.refl _ _).drew).nn u10⟩, rfl⟩, ?_⟩
              refine wpS_seg ?_
              repeat (first | go_big_quiet_skip | (go_big_quiet_want; go_big_quiet_op; go_big_quiet_on))
              refine wpQuiet_nil ?_
              go_wp2_with fail
              refine ⟨⟨⟨w10, ((Upd.refl _ _).drew).nn u10⟩, rfl⟩, ?_⟩
              refine wpS_seg ?_
              repeat (first | go_big_quiet_skip | (go_big_quiet_want; go_big_quiet_op; go_big_quiet_on))
              refine wpQuiet_nil ?_
              go_wp2_with fail
              refine ⟨⟨⟨w10, ((Upd.refl _ _).drew).nn u10⟩, rfl⟩, ?_⟩
              refine wpS_last ?_
              repeat (first | go_big_quiet_skip | (go_big_quiet_want; go_big_quiet_op; go_big_quiet_on))
              refine wpQuiet_nil ?_
              have hl200 := HL200.out
              have hlt := HLT.out
              go_wp2
              go_roundw
              case rel => exact ⟨k + 1, d7, HLT.out, by go_num, D9.out.nn (((Upd.refl _ _).drew).nn u10), F7.out, by have := HCH7.out; omega, by rw [HR7.out, HDR.out], v9.nn (((Upd.refl _ _).drew).nn u10)⟩
              case measure => have := HLT.out; simp [intOf]; omega
            have k0' : (ka == 0) = false := by simpa using k0
            by_cases k3 : ka = 3
            · subst k3
              obtain ⟨e1, e2⟩ := hl2.2.1 rfl
              clear hl2 k0
              have t3 : (sumL d7.L != sumL d.L - (old.size : Int)) = false := by simpa using e1
              have t4 : ((d7.L.length : Int) != (d.L.length : Int) - 1) = false := by simpa using e2
              have hs7 := sumL_nn d7.L
              have hw : IntKind.i64.wrap (sumL d.L - (old.size : Int)) = sumL d.L - (old.size : Int) := IntWalk.i64_in _ (by omega)
              have hw2 : IntKind.i64.wrap ((d.L.length : Int) - 1) = (d.L.length : Int) - 1 := IntWalk.i64_in _ (by omega)
              clear e1 e2 hs7 hsum7 hsum1 hsum0 hsr hlen7 hcs hl200 hlc hcm hlen
              have Z0 := fun x : UW w9 => x.cell z0
              have Z2 := fun x : UW w9 => x.cell z2
              refine region_seq [([0, 1, 2, 3, 4, 5, 6, 7, 8, 10, 11, 12, 13, 14], 9), ([15, 16, 17, 18, 19, 20, 21, 22, 23, 24, 25, 26, 28, 29, 30, 31], 27), ([32, 33, 34, 37, 38], 35), ([36, 39, 40, 41, 42, 43, 44, 45, 46, 47, 48, 49, 50, 51, 52, 54], 53)] [55, 56, 57] (by kernel_rfl) (fun w' => ∃ x : UW w9, w' = x.val) (by kernel_rfl) (fun _ _ d _ _ h => by cases d <;> exact h) ⟨⟨w9.drew, (Upd.refl _ _).drew⟩, rfl⟩ ?_
              simp only [segsAt_cons, segsAt_nil, opsAt_cons, opsAt_nil, List.getElem?_toArray, List.getElem?_cons_zero, List.getElem?_cons_succ, consO_some, pairO_some]
              refine wpS_seg ?_
              repeat (first | go_big_quiet_skip | (go_big_quiet_want; go_big_quiet_op; go_big_quiet_on))
              refine wpQuiet_nil ?_
              go_wp2_with fail
              refine ⟨⟨⟨w9.drew, (Upd.refl _ _).drew⟩, rfl⟩, ?_⟩
              refine wpS_seg ?_
              repeat (first | go_big_quiet_skip | (go_big_quiet_want; go_big_quiet_op; go_big_quiet_on))
              refine wpQuiet_nil ?_
              go_wp2_with fail
              refine (used_any (D9.out.nn ((Upd.refl _ _).drew)) HSM.out).mono ?_
              rintro e w10 ⟨rfl, u10⟩
              go_wp2_with fail
              refine ⟨⟨⟨w10, ((Upd.refl _ _).drew).nn u10⟩, rfl⟩, ?_⟩
              refine wpS_seg ?_
              repeat (first | go_big_quiet_skip | (go_big_quiet_want; go_big_quiet_op; go_big_quiet_on))
              refine wpQuiet_nil ?_
              go_wp2_with fail
              refine (list_any (D9.out.nn (((Upd.refl _ _).drew).nn u10)) HLN.out).mono ?_
              rintro e w11 ⟨A3, cap3, l3, he, _, hp, u11, _⟩
              have hp := hp.length_eq
              rw [List.length_map] at hp
              rw [hp] at he
              subst he
              clear hp
              go_wp2_with fail
              refine ⟨⟨⟨w11, (((Upd.refl _ _).drew).nn u10).nn u11⟩, rfl⟩, ?_⟩
              refine wpS_seg ?_
              repeat (first | go_big_quiet_skip | (go_big_quiet_want; go_big_quiet_op; go_big_quiet_on))
              refine wpQuiet_nil ?_
              go_wp2_with fail
              refine ⟨⟨⟨w11, (((Upd.refl _ _).drew).nn u10).nn u11⟩, rfl⟩, ?_⟩
              refine wpS_last ?_
              repeat (first | go_big_quiet_skip | (go_big_quiet_want; go_big_quiet_op; go_big_quiet_on))
              refine wpQuiet_nil ?_
              have hl200 := HL200.out
              have hlt := HLT.out
              go_wp2
              go_roundw
              case rel => exact ⟨k + 1, d7, HLT.out, by go_num, D9.out.nn ((((Upd.refl _ _).drew).nn u10).nn u11), F7.out, by have := HCH7.out; omega, by rw [HR7.out, HDR.out], v9.nn ((((Upd.refl _ _).drew).nn u10).nn u11)⟩
              case measure => have := HLT.out; simp [intOf]; omega
            have k3' : (ka == 3) = false := by simpa using k3
            by_cases k1 : ka = 1
            · subst k1
              have e1 := hl2.2.2 rfl
              have t3 : (sumL d7.L != sumL d.L) = false := by simpa using e1
              clear e1 hl2 k0 k3 hsum7 hsum1 hsum0 hsr hlen7 hcs hl200 hlc hcm hlen
              have Z0 := fun x : UW w9 => x.cell z0
              have Z2 := fun x : UW w9 => x.cell z2
              refine region_seq [([0, 1, 2, 3, 4, 5, 6, 7, 8, 10, 11, 12, 13, 14], 9), ([15, 16, 17, 18, 19, 20, 21, 22, 23, 24, 25, 26, 28, 29, 30, 31], 27), ([32, 33, 34, 37, 38], 35), ([36, 39, 40, 41, 42, 43, 44, 45, 46, 47, 48, 49, 50, 51, 52, 54], 53)] [55, 56, 57] (by kernel_rfl) (fun w' => ∃ x : UW w9, w' = x.val) (by kernel_rfl) (fun _ _ d _ _ h => by cases d <;> exact h) ⟨⟨w9.drew, (Upd.refl _ _).drew⟩, rfl⟩ ?_
              simp only [segsAt_cons, segsAt_nil, opsAt_cons, opsAt_nil, List.getElem?_toArray, List.getElem?_cons_zero, List.getElem?_cons_succ, consO_some, pairO_some]
              refine wpS_seg ?_
              repeat (first | go_big_quiet_skip | (go_big_quiet_want; go_big_quiet_op; go_big_quiet_on))
              refine wpQuiet_nil ?_
              go_wp2_with fail
              refine ⟨⟨⟨w9.drew, (Upd.refl _ _).drew⟩, rfl⟩, ?_⟩
              refine wpS_seg ?_
              repeat (first | go_big_quiet_skip | (go_big_quiet_want; go_big_quiet_op; go_big_quiet_on))
              refine wpQuiet_nil ?_
              go_wp2_with fail
              refine ⟨⟨⟨w9.drew, (Upd.refl _ _).drew⟩, rfl⟩, ?_⟩
              refine wpS_seg ?_
              repeat (first | go_big_quiet_skip | (go_big_quiet_want; go_big_quiet_op; go_big_quiet_on))
              refine wpQuiet_nil ?_
              go_wp2_with fail
              refine ⟨⟨⟨w9.drew, (Upd.refl _ _).drew⟩, rfl⟩, ?_⟩
              refine wpS_seg ?_
              repeat (first | go_big_quiet_skip | (go_big_quiet_want; go_big_quiet_op; go_big_quiet_on))
              refine wpQuiet_nil ?_
              go_wp2_with fail
              refine (used_any (D9.out.nn ((Upd.refl _ _).drew)) HSM.out).mono ?_
              rintro e w10 ⟨rfl, u10⟩
              go_wp2_with fail
              refine ⟨⟨⟨w10, ((Upd.refl _ _).drew).nn u10⟩, rfl⟩, ?_⟩
              refine wpS_last ?_
              repeat (first | go_big_quiet_skip | (go_big_quiet_want; go_big_quiet_op; go_big_quiet_on))
              refine wpQuiet_nil ?_
              have hl200 := HL200.out
              have hlt := HLT.out
              go_wp2
              go_roundw
              case rel => exact ⟨k + 1, d7, HLT.out, by go_num, D9.out.nn (((Upd.refl _ _).drew).nn u10), F7.out, by have := HCH7.out; omega, by rw [HR7.out, HDR.out], v9.nn (((Upd.refl _ _).drew).nn u10)⟩
              case measure => have := HLT.out; simp [intOf]; omega
            have k1' : (ka == 1) = false := by simpa using k1
            clear k0 k3 k1 hl2 hsum7 hsum1 hsum0 hsr hlen7 hcs hl200 hlc hcm hlen
            have Z0 := fun x : UW w9 => x.cell z0
            have Z2 := fun x : UW w9 => x.cell z2
            refine region_seq [([0, 1, 2, 3, 4, 5, 6, 7, 8, 10, 11, 12, 13, 14], 9), ([15, 16, 17, 18, 19, 20, 21, 22, 23, 24, 25, 26, 28, 29, 30, 31], 27), ([32, 33, 34, 37, 38], 35), ([36, 39, 40, 41, 42, 43, 44, 45, 46, 47, 48, 49, 50, 51, 52, 54], 53)] [55, 56, 57] (by kernel_rfl) (fun w' => ∃ x : UW w9, w' = x.val) (by kernel_rfl) (fun _ _ d _ _ h => by cases d <;> exact h) ⟨⟨w9.drew, (Upd.refl _ _).drew⟩, rfl⟩ ?_
            simp only [segsAt_cons, segsAt_nil, opsAt_cons, opsAt_nil, List.getElem?_toArray, List.getElem?_cons_zero, List.getElem?_cons_succ, consO_some, pairO_some]
            refine wpS_seg ?_
            repeat (first | go_big_quiet_skip | (go_big_quiet_want; go_big_quiet_op; go_big_quiet_on))
            refine wpQuiet_nil ?_
            go_wp2_with fail
            refine ⟨⟨⟨w9.drew, (Upd.refl _ _).drew⟩, rfl⟩, ?_⟩
            refine wpS_seg ?_
            repeat (first | go_big_quiet_skip | (go_big_quiet_want; go_big_quiet_op; go_big_quiet_on))
            refine wpQuiet_nil ?_
            go_wp2_with fail
            refine ⟨⟨⟨w9.drew, (Upd.refl _ _).drew⟩, rfl⟩, ?_⟩
            refine wpS_seg ?_
            repeat (first | go_big_quiet_skip | (go_big_quiet_want; go_big_quiet_op; go_big_quiet_on))
            refine wpQuiet_nil ?_
            go_wp2_with fail
            refine ⟨⟨⟨w9.drew, (Upd.refl _ _).drew⟩, rfl⟩, ?_⟩
            refine wpS_seg ?_
            repeat (first | go_big_quiet_skip | (go_big_quiet_want; go_big_quiet_op; go_big_quiet_on))
            refine wpQuiet_nil ?_
            go_wp2_with fail
            refine ⟨⟨⟨w9.drew, (Upd.refl _ _).drew⟩, rfl⟩, ?_⟩
            refine wpS_last ?_
            repeat (first | go_big_quiet_skip | (go_big_quiet_want; go_big_quiet_op; go_big_quiet_on))
            refine wpQuiet_nil ?_
            have hl200 := HL200.out
            have hlt := HLT.out
            go_wp2
            go_roundw
            case rel => exact ⟨k + 1, d7, HLT.out, by go_num, D9.out.nn ((Upd.refl _ _).drew), F7.out, by have := HCH7.out; omega, by rw [HR7.out, HDR.out], v9.nn ((Upd.refl _ _).drew)⟩
            case measure => have := HLT.out; simp [intOf]; omega
          · have hf0' : (f == 0) = false := by simpa using hf0
            have hf0n : (f != 0) = true := by simpa using hf0
            have HSM := Lib.hid (HSUM.out d7 F7.out)
            have HLN := Lib.hid (HLEN.out d7 F7.out)
            have hl1 := law1 hf0
            clear law1 law2
            obtain ⟨ka, hka⟩ : ∃ ka, a.k = ka := ⟨_, rfl⟩
            rw [hka] at z0
            clear hka
            by_cases hf7 : f = 7
            · subst hf7
              clear hl1 hf0
              go_wp2_with fail
              clear t1 t2
              by_cases k0 : ka = 0
              · subst k0
                clear hsum7 hsum1 hsum0 hsr hlen7 hcs hl200 hlc hcm hlen
                have Z0 := fun x : UW w9 => x.cell z0
                have Z2 := fun x : UW w9 => x.cell z2
                refine region_seq [([0, 1, 2, 3, 4, 5, 6, 7, 8, 10, 11, 12, 13, 14], 9), ([15, 16, 17, 18, 19, 20, 21, 22, 23, 24, 25, 26, 28, 29, 30, 31], 27), ([32, 33, 34, 37, 38], 35), ([36, 39, 40, 41, 42, 43, 44, 45, 46, 47, 48, 49, 50, 51, 52, 54], 53)] [55, 56, 57] (by kernel_rfl) (fun w' => ∃ x : UW w9, w' = x.val) (by kernel_rfl) (fun _ _ d _ _ h => by cases d <;> exact h) ⟨⟨w9.drew, (Upd.refl _ _).drew⟩, rfl⟩ ?_
                simp only [segsAt_cons, segsAt_nil, opsAt_cons, opsAt_nil, List.getElem?_toArray, List.getElem?_cons_zero, List.getElem?_cons_succ, consO_some, pairO_some]
                refine wpS_seg ?_
                repeat (first | go_big_quiet_skip | (go_big_quiet_want; go_big_quiet_op; go_big_quiet_on))
                refine wpQuiet_nil ?_
                go_wp2_with fail
                refine ⟨⟨⟨w9.drew, (Upd.refl _ _).drew⟩, rfl⟩, ?_⟩
                refine wpS_seg ?_
                repeat (first | go_big_quiet_skip | (go_big_quiet_want; go_big_quiet_op; go_big_quiet_on))
                refine wpQuiet_nil ?_
                go_wp2_with fail
                refine ⟨⟨⟨w9.drew, (Upd.refl _ _).drew⟩, rfl⟩, ?_⟩
                refine wpS_seg ?_
                repeat (first | go_big_quiet_skip | (go_big_quiet_want; go_big_quiet_op; go_big_quiet_on))
                refine wpQuiet_nil ?_
                go_wp2_with fail
                refine ⟨⟨⟨w9.drew, (Upd.refl _ _).drew⟩, rfl⟩, ?_⟩
                refine wpS_seg ?_
                repeat (first | go_big_quiet_skip | (go_big_quiet_want; go_big_quiet_op; go_big_quiet_on))
                refine wpQuiet_nil ?_
                go_wp2_with fail
                refine ⟨⟨⟨w9.drew, (Upd.refl _ _).drew⟩, rfl⟩, ?_⟩
                refine wpS_last ?_
                repeat (first | go_big_quiet_skip | (go_big_quiet_want; go_big_quiet_op; go_big_quiet_on))
                refine wpQuiet_nil ?_
                have hl200 := HL200.out
                have hlt := HLT.out
                go_wp2
                go_roundw
                case rel => exact ⟨k + 1, d7, HLT.out, by go_num, D9.out.nn ((Upd.refl _ _).drew), F7.out, by have := HCH7.out; omega, by rw [HR7.out, HDR.out], v9.nn ((Upd.refl _ _).drew)⟩
                case measure => have := HLT.out; simp [intOf]; omega
              have k0' : (ka == 0) = false := by simpa using k0
              by_cases k3 : ka = 3
              · subst k3
                clear k0 hsum7 hsum1 hsum0 hsr hlen7 hcs hl200 hlc hcm hlen
                have Z0 := fun x : UW w9 => x.cell z0
                have Z2 := fun x : UW w9 => x.cell z2
                refine region_seq [([0, 1, 2, 3, 4, 5, 6, 7, 8, 10, 11, 12, 13, 14], 9), ([15, 16, 17, 18, 19, 20, 21, 22, 23, 24, 25, 26, 28, 29, 30, 31], 27), ([32, 33, 34, 37, 38], 35), ([36, 39, 40, 41, 42, 43, 44, 45, 46, 47, 48, 49, 50, 51, 52, 54], 53)] [55, 56, 57] (by kernel_rfl) (fun w' => ∃ x : UW w9, w' = x.val) (by kernel_rfl) (fun _ _ d _ _ h => by cases d <;> exact h) ⟨⟨w9.drew, (Upd.refl _ _).drew⟩, rfl⟩ ?_
                simp only [segsAt_cons, segsAt_nil, opsAt_cons, opsAt_nil, List.getElem?_toArray, List.getElem?_cons_zero, List.getElem?_cons_succ, consO_some, pairO_some]
                refine wpS_seg ?_
                repeat (first | go_big_quiet_skip | (go_big_quiet_want; go_big_quiet_op; go_big_quiet_on))
                refine wpQuiet_nil ?_
                go_wp2_with fail
                refine ⟨⟨⟨w9.drew, (Upd.refl _ _).drew⟩, rfl⟩, ?_⟩
                refine wpS_seg ?_
                repeat (first | go_big_quiet_skip | (go_big_quiet_want; go_big_quiet_op; go_big_quiet_on))
                refine wpQuiet_nil ?_
                go_wp2_with fail
                refine ⟨⟨⟨w9.drew, (Upd.refl _ _).drew⟩, rfl⟩, ?_⟩
                refine wpS_seg ?_
                repeat (first | go_big_quiet_skip | (go_big_quiet_want; go_big_quiet_op; go_big_quiet_on))
                refine wpQuiet_nil ?_
                go_wp2_with fail
                refine ⟨⟨⟨w9.drew, (Upd.refl _ _).drew⟩, rfl⟩, ?_⟩
                refine wpS_seg ?_
                repeat (first | go_big_quiet_skip | (go_big_quiet_want; go_big_quiet_op; go_big_quiet_on))
                refine wpQuiet_nil ?_
                go_wp2_with fail
                refine ⟨⟨⟨w9.drew, (Upd.refl _ _).drew⟩, rfl⟩, ?_⟩
                refine wpS_last ?_
                repeat (first | go_big_quiet_skip | (go_big_quiet_want; go_big_quiet_op; go_big_quiet_on))
                refine wpQuiet_nil ?_
                have hl200 := HL200.out
                have hlt := HLT.out
                go_wp2
                go_roundw
                case rel => exact ⟨k + 1, d7, HLT.out, by go_num, D9.out.nn ((Upd.refl _ _).drew), F7.out, by have := HCH7.out; omega, by rw [HR7.out, HDR.out], v9.nn ((Upd.refl _ _).drew)⟩
                case measure => have := HLT.out; simp [intOf]; omega
              have k3' : (ka == 3) = false := by simpa using k3
              by_cases k1 : ka = 1
              · subst k1
                clear k0 k3 hsum7 hsum1 hsum0 hsr hlen7 hcs hl200 hlc hcm hlen
                have Z0 := fun x : UW w9 => x.cell z0
                have Z2 := fun x : UW w9 => x.cell z2
                refine region_seq [([0, 1, 2, 3, 4, 5, 6, 7, 8, 10, 11, 12, 13, 14], 9), ([15, 16, 17, 18, 19, 20, 21, 22, 23, 24, 25, 26, 28, 29, 30, 31], 27), ([32, 33, 34, 37, 38], 35), ([36, 39, 40, 41, 42, 43, 44, 45, 46, 47, 48, 49, 50, 51, 52, 54], 53)] [55, 56, 57] (by kernel_rfl) (fun w' => ∃ x : UW w9, w' = x.val) (by kernel_rfl) (fun _ _ d _ _ h => by cases d <;> exact h) ⟨⟨w9.drew, (Upd.refl _ _).drew⟩, rfl⟩ ?_
                simp only [segsAt_cons, segsAt_nil, opsAt_cons, opsAt_nil, List.getElem?_toArray, List.getElem?_cons_zero, List.getElem?_cons_succ, consO_some, pairO_some]
                refine wpS_seg ?_
                repeat (first | go_big_quiet_skip | (go_big_quiet_want; go_big_quiet_op; go_big_quiet_on))
                refine wpQuiet_nil ?_
                go_wp2_with fail
                refine ⟨⟨⟨w9.drew, (Upd.refl _ _).drew⟩, rfl⟩, ?_⟩
                refine wpS_seg ?_
                repeat (first | go_big_quiet_skip | (go_big_quiet_want; go_big_quiet_op; go_big_quiet_on))
                refine wpQuiet_nil ?_
                go_wp2_with fail
                refine ⟨⟨⟨w9.drew, (Upd.refl _ _).drew⟩, rfl⟩, ?_⟩
                refine wpS_seg ?_
                repeat (first | go_big_quiet_skip | (go_big_quiet_want; go_big_quiet_op; go_big_quiet_on))
                refine wpQuiet_nil ?_
                go_wp2_with fail
                refine ⟨⟨⟨w9.drew, (Upd.refl _ _).drew⟩, rfl⟩, ?_⟩
                refine wpS_seg ?_
                repeat (first | go_big_quiet_skip | (go_big_quiet_want; go_big_quiet_op; go_big_quiet_on))
                refine wpQuiet_nil ?_
                go_wp2_with fail
                refine ⟨⟨⟨w9.drew, (Upd.refl _ _).drew⟩, rfl⟩, ?_⟩
                refine wpS_last ?_
                repeat (first | go_big_quiet_skip | (go_big_quiet_want; go_big_quiet_op; go_big_quiet_on))
                refine wpQuiet_nil ?_
                have hl200 := HL200.out
                have hlt := HLT.out
                go_wp2
                go_roundw
                case rel => exact ⟨k + 1, d7, HLT.out, by go_num, D9.out.nn ((Upd.refl _ _).drew), F7.out, by have := HCH7.out; omega, by rw [HR7.out, HDR.out], v9.nn ((Upd.refl _ _).drew)⟩
                case measure => have := HLT.out; simp [intOf]; omega
              have k1' : (ka == 1) = false := by simpa using k1
              clear k0 k3 k1 hsum7 hsum1 hsum0 hsr hlen7 hcs hl200 hlc hcm hlen
              have Z0 := fun x : UW w9 => x.cell z0
              have Z2 := fun x : UW w9 => x.cell z2
              refine region_seq [([0, 1, 2, 3, 4, 5, 6, 7, 8, 10, 11, 12, 13, 14], 9), ([15, 16, 17, 18, 19, 20, 21, 22, 23, 24, 25, 26, 28, 29, 30, 31], 27), ([32, 33, 34, 37, 38], 35), ([36, 39, 40, 41, 42, 43, 44, 45, 46, 47, 48, 49, 50, 51, 52, 54], 53)] [55, 56, 57] (by kernel_rfl) (fun w' => ∃ x : UW w9, w' = x.val) (by kernel_rfl) (fun _ _ d _ _ h => by cases d <;> exact h) ⟨⟨w9.drew, (Upd.refl _ _).drew⟩, rfl⟩ ?_
              simp only [segsAt_cons, segsAt_nil, opsAt_cons, opsAt_nil, List.getElem?_toArray, List.getElem?_cons_zero, List.getElem?_cons_succ, consO_some, pairO_some]
              refine wpS_seg ?_
              repeat (first | go_big_quiet_skip | (go_big_quiet_want; go_big_quiet_op; go_big_quiet_on))
              refine wpQuiet_nil ?_
              go_wp2_with fail
              refine ⟨⟨⟨w9.drew, (Upd.refl _ _).drew⟩, rfl⟩, ?_⟩
              refine wpS_seg ?_
              repeat (first | go_big_quiet_skip | (go_big_quiet_want; go_big_quiet_op; go_big_quiet_on))
              refine wpQuiet_nil ?_
              go_wp2_with fail
              refine ⟨⟨⟨w9.drew, (Upd.refl _ _).drew⟩, rfl⟩, ?_⟩
              refine wpS_seg ?_
              repeat (first | go_big_quiet_skip | (go_big_quiet_want; go_big_quiet_op; go_big_quiet_on))
              refine wpQuiet_nil ?_
              go_wp2_with fail
              refine ⟨⟨⟨w9.drew, (Upd.refl _ _).drew⟩, rfl⟩, ?_⟩
              refine wpS_seg ?_
              repeat (first | go_big_quiet_skip | (go_big_quiet_want; go_big_quiet_op; go_big_quiet_on))
              refine wpQuiet_nil ?_
              go_wp2_with fail
              refine ⟨⟨⟨w9.drew, (Upd.refl _ _).drew⟩, rfl⟩, ?_⟩
              refine wpS_last ?_
              repeat (first | go_big_quiet_skip | (go_big_quiet_want; go_big_quiet_op; go_big_quiet_on))
              refine wpQuiet_nil ?_
              have hl200 := HL200.out
              have hlt := HLT.out
              go_wp2
              go_roundw
              case rel => exact ⟨k + 1, d7, HLT.out, by go_num, D9.out.nn ((Upd.refl _ _).drew), F7.out, by have := HCH7.out; omega, by rw [HR7.out, HDR.out], v9.nn ((Upd.refl _ _).drew)⟩
              case measure => have := HLT.out; simp [intOf]; omega
            · have hf7' : (f == 7) = false := by simpa using hf7
              have hf7n : (f != 7) = true := by simpa using hf7
              obtain ⟨e1, e2⟩ := hl1 hf7
              have e2' : (d7.L.length : Int) = d.L.length := by omega
              clear hl1 hf0 hf7 e2
              have s1 : (sumL d7.L != sumL d.L) = false := by simpa using e1
              have s2 : ((d7.L.length : Int) != (d.L.length : Int)) = false := by simpa using e2'
              clear e1 e2'
              go_wp2_with fail
              refine HU.out.mono ?_
              rintro e w10 ⟨rfl, u10⟩
              have D10 := Lib.hid (D9.out.nn u10)
              have v10 := v9.nn u10
              have z0 := u10.cell z0 id
              have z2 := u10.cell z2 id
              clear D9 v9 u10 B9
              have hU := list_any D10.out HLN.out
              have HU := Lib.hid hU
              clear hU
              go_wp2_with fail
              refine HU.out.mono ?_
              rintro e w9' ⟨A2, cap2, l2, he, _, hp, u9, _⟩
              have hp := hp.length_eq
              rw [List.length_map] at hp
              rw [hp] at he
              subst he
              clear HU hp
              have D9 := Lib.hid (D10.out.nn u9)
              have v9 := v10.nn u9
              have z0 := u9.cell z0 id
              have z2 := u9.cell z2 id
              clear D10 v10 u9
              go_wp2_with fail
              clear t1 t2
              by_cases k0 : ka = 0
              · subst k0
                clear hsum7 hsum1 hsum0 hsr hlen7 hcs hl200 hlc hcm hlen
                have Z0 := fun x : UW w9' => x.cell z0
                have Z2 := fun x : UW w9' => x.cell z2
                refine region_seq [([0, 1, 2, 3, 4, 5, 6, 7, 8, 10, 11, 12, 13, 14], 9), ([15, 16, 17, 18, 19, 20, 21, 22, 23, 24, 25, 26, 28, 29, 30, 31], 27), ([32, 33, 34, 37, 38], 35), ([36, 39, 40, 41, 42, 43, 44, 45, 46, 47, 48, 49, 50, 51, 52, 54], 53)] [55, 56, 57] (by kernel_rfl) (fun w' => ∃ x : UW w9', w' = x.val) (by kernel_rfl) (fun _ _ d _ _ h => by cases d <;> exact h) ⟨⟨w9'.drew, (Upd.refl _ _).drew⟩, rfl⟩ ?_
                simp only [segsAt_cons, segsAt_nil, opsAt_cons, opsAt_nil, List.getElem?_toArray, List.getElem?_cons_zero, List.getElem?_cons_succ, consO_some, pairO_some]
                refine wpS_seg ?_
                repeat (first | go_big_quiet_skip | (go_big_quiet_want; go_big_quiet_op; go_big_quiet_on))
                refine wpQuiet_nil ?_
                go_wp2_with fail
                refine ⟨⟨⟨w9'.drew, (Upd.refl _ _).drew⟩, rfl⟩, ?_⟩
                refine wpS_seg ?_
                repeat (first | go_big_quiet_skip | (go_big_quiet_want; go_big_quiet_op; go_big_quiet_on))
                refine wpQuiet_nil ?_
                go_wp2_with fail
                refine ⟨⟨⟨w9'.drew, (Upd.refl _ _).drew⟩, rfl⟩, ?_⟩
                refine wpS_seg ?_
                repeat (first | go_big_quiet_skip | (go_big_quiet_want; go_big_quiet_op; go_big_quiet_on))
                refine wpQuiet_nil ?_
                go_wp2_with fail
                refine ⟨⟨⟨w9'.drew, (Upd.refl _ _).drew⟩, rfl⟩, ?_⟩
                refine wpS_seg ?_
                repeat (first | go_big_quiet_skip | (go_big_quiet_want; go_big_quiet_op; go_big_quiet_on))
                refine wpQuiet_nil ?_
                go_wp2_with fail
                refine ⟨⟨⟨w9'.drew, (Upd.refl _ _).drew⟩, rfl⟩, ?_⟩
                refine wpS_last ?_
                repeat (first | go_big_quiet_skip | (go_big_quiet_want; go_big_quiet_op; go_big_quiet_on))
                refine wpQuiet_nil ?_
                have hl200 := HL200.out
                have hlt := HLT.out
                go_wp2
                go_roundw
                case rel => exact ⟨k + 1, d7, HLT.out, by go_num, D9.out.nn ((Upd.refl _ _).drew), F7.out, by have := HCH7.out; omega, by rw [HR7.out, HDR.out], v9.nn ((Upd.refl _ _).drew)⟩
                case measure => have := HLT.out; simp [intOf]; omega
              have k0' : (ka == 0) = false := by simpa using k0
              by_cases k3 : ka = 3
              · subst k3
                clear k0 hsum7 hsum1 hsum0 hsr hlen7 hcs hl200 hlc hcm hlen
                have Z0 := fun x : UW w9' => x.cell z0
                have Z2 := fun x : UW w9' => x.cell z2
                refine region_seq [([0, 1, 2, 3, 4, 5, 6, 7, 8, 10, 11, 12, 13, 14], 9), ([15, 16, 17, 18, 19, 20, 21, 22, 23, 24, 25, 26, 28, 29, 30, 31], 27), ([32, 33, 34, 37, 38], 35), ([36, 39, 40, 41, 42, 43, 44, 45, 46, 47, 48, 49, 50, 51, 52, 54], 53)] [55, 56, 57] (by kernel_rfl) (fun w' => ∃ x : UW w9', w' = x.val) (by kernel_rfl) (fun _ _ d _ _ h => by cases d <;> exact h) ⟨⟨w9'.drew, (Upd.refl _ _).drew⟩, rfl⟩ ?_
                simp only [segsAt_cons, segsAt_nil, opsAt_cons, opsAt_nil, List.getElem?_toArray, List.getElem?_cons_zero, List.getElem?_cons_succ, consO_some, pairO_some]
                refine wpS_seg ?_
                repeat (first | go_big_quiet_skip | (go_big_quiet_want; go_big_quiet_op; go_big_quiet_on))
                refine wpQuiet_nil ?_
                go_wp2_with fail
                refine ⟨⟨⟨w9'.drew, (Upd.refl _ _).drew⟩, rfl⟩, ?_⟩
                refine wpS_seg ?_
                repeat (first | go_big_quiet_skip | (go_big_quiet_want; go_big_quiet_op; go_big_quiet_on))
                refine wpQuiet_nil ?_
                go_wp2_with fail
                refine ⟨⟨⟨w9'.drew, (Upd.refl _ _).drew⟩, rfl⟩, ?_⟩
                refine wpS_seg ?_
                repeat (first | go_big_quiet_skip | (go_big_quiet_want; go_big_quiet_op; go_big_quiet_on))
                refine wpQuiet_nil ?_
                go_wp2_with fail
                refine ⟨⟨⟨w9'.drew, (Upd.refl _ _).drew⟩, rfl⟩, ?_⟩
                refine wpS_seg ?_
                repeat (first | go_big_quiet_skip | (go_big_quiet_want; go_big_quiet_op; go_big_quiet_on))
                refine wpQuiet_nil ?_
                go_wp2_with fail
                refine ⟨⟨⟨w9'.drew, (Upd.refl _ _).drew⟩, rfl⟩, ?_⟩
                refine wpS_last ?_
                repeat (first | go_big_quiet_skip | (go_big_quiet_want; go_big_quiet_op; go_big_quiet_on))
                refine wpQuiet_nil ?_
                have hl200 := HL200.out
                have hlt := HLT.out
                go_wp2
                go_roundw
                case rel => exact ⟨k + 1, d7, HLT.out, by go_num, D9.out.nn ((Upd.refl _ _).drew), F7.out, by have := HCH7.out; omega, by rw [HR7.out, HDR.out], v9.nn ((Upd.refl _ _).drew)⟩
                case measure => have := HLT.out; simp [intOf]; omega
              have k3' : (ka == 3) = false := by simpa using k3
              by_cases k1 : ka = 1
              · subst k1
                clear k0 k3 hsum7 hsum1 hsum0 hsr hlen7 hcs hl200 hlc hcm hlen
                have Z0 := fun x : UW w9' => x.cell z0
                have Z2 := fun x : UW w9' => x.cell z2
                refine region_seq [([0, 1, 2, 3, 4, 5, 6, 7, 8, 10, 11, 12, 13, 14], 9), ([15, 16, 17, 18, 19, 20, 21, 22, 23, 24, 25, 26, 28, 29, 30, 31], 27), ([32, 33, 34, 37, 38], 35), ([36, 39, 40, 41, 42, 43, 44, 45, 46, 47, 48, 49, 50, 51, 52, 54], 53)] [55, 56, 57] (by kernel_rfl) (fun w' => ∃ x : UW w9', w' = x.val) (by kernel_rfl) (fun _ _ d _ _ h => by cases d <;> exact h) ⟨⟨w9'.drew, (Upd.refl _ _).drew⟩, rfl⟩ ?_
                simp only [segsAt_cons, segsAt_nil, opsAt_cons, opsAt_nil, List.getElem?_toArray, List.getElem?_cons_zero, List.getElem?_cons_succ, consO_some, pairO_some]
                refine wpS_seg ?_
                repeat (first | go_big_quiet_skip | (go_big_quiet_want; go_big_quiet_op; go_big_quiet_on))
                refine wpQuiet_nil ?_
                go_wp2_with fail
                refine ⟨⟨⟨w9'.drew, (Upd.refl _ _).drew⟩, rfl⟩, ?_⟩
                refine wpS_seg ?_
                repeat (first | go_big_quiet_skip | (go_big_quiet_want; go_big_quiet_op; go_big_quiet_on))
                refine wpQuiet_nil ?_
                go_wp2_with fail
                refine ⟨⟨⟨w9'.drew, (Upd.refl _ _).drew⟩, rfl⟩, ?_⟩
                refine wpS_seg ?_
                repeat (first | go_big_quiet_skip | (go_big_quiet_want; go_big_quiet_op; go_big_quiet_on))
                refine wpQuiet_nil ?_
                go_wp2_with fail
                refine ⟨⟨⟨w9'.drew, (Upd.refl _ _).drew⟩, rfl⟩, ?_⟩
                refine wpS_seg ?_
                repeat (first | go_big_quiet_skip | (go_big_quiet_want; go_big_quiet_op; go_big_quiet_on))
                refine wpQuiet_nil ?_
                go_wp2_with fail
                refine ⟨⟨⟨w9'.drew, (Upd.refl _ _).drew⟩, rfl⟩, ?_⟩
                refine wpS_last ?_
                repeat (first | go_big_quiet_skip | (go_big_quiet_want; go_big_quiet_op; go_big_quiet_on))
                refine wpQuiet_nil ?_
                have hl200 := HL200.out
                have hlt := HLT.out
                go_wp2
                go_roundw
                case rel => exact ⟨k + 1, d7, HLT.out, by go_num, D9.out.nn ((Upd.refl _ _).drew), F7.out, by have := HCH7.out; omega, by rw [HR7.out, HDR.out], v9.nn ((Upd.refl _ _).drew)⟩
                case measure => have := HLT.out; simp [intOf]; omega
              have k1' : (ka == 1) = false := by simpa using k1
              clear k0 k3 k1 hsum7 hsum1 hsum0 hsr hlen7 hcs hl200 hlc hcm hlen
              have Z0 := fun x : UW w9' => x.cell z0
              have Z2 := fun x : UW w9' => x.cell z2
              refine region_seq [([0, 1, 2, 3, 4, 5, 6, 7, 8, 10, 11, 12, 13, 14], 9), ([15, 16, 17, 18, 19, 20, 21, 22, 23, 24, 25, 26, 28, 29, 30, 31], 27), ([32, 33, 34, 37, 38], 35), ([36, 39, 40, 41, 42, 43, 44, 45, 46, 47, 48, 49, 50, 51, 52, 54], 53)] [55, 56, 57] (by kernel_rfl) (fun w' => ∃ x : UW w9', w' = x.val) (by kernel_rfl) (fun _ _ d _ _ h => by cases d <;> exact h) ⟨⟨w9'.drew, (Upd.refl _ _).drew⟩, rfl⟩ ?_
              simp only [segsAt_cons, segsAt_nil, opsAt_cons, opsAt_nil, List.getElem?_toArray, List.getElem?_cons_zero, List.getElem?_cons_succ, consO_some, pairO_some]
              refine wpS_seg ?_
              repeat (first | go_big_quiet_skip | (go_big_quiet_want; go_big_quiet_op; go_big_quiet_on))
              refine wpQuiet_nil ?_
              go_wp2_with fail
              refine ⟨⟨⟨w9'.drew, (Upd.refl _ _).drew⟩, rfl⟩, ?_⟩
              refine wpS_seg ?_
              repeat (first | go_big_quiet_skip | (go_big_quiet_want; go_big_quiet_op; go_big_quiet_on))
              refine wpQuiet_nil ?_
              go_wp2_with fail
              refine ⟨⟨⟨w9'.drew, (Upd.refl _ _).drew⟩, rfl⟩, ?_⟩
              refine wpS_seg ?_
              repeat (first | go_big_quiet_skip | (go_big_quiet_want; go_big_quiet_op; go_big_quiet_on))
              refine wpQuiet_nil ?_
              go_wp2_with fail
              refine ⟨⟨⟨w9'.drew, (Upd.refl _ _).drew⟩, rfl⟩, ?_⟩
              refine wpS_seg ?_
              repeat (first | go_big_quiet_skip | (go_big_quiet_want; go_big_quiet_op; go_big_quiet_on))
              refine wpQuiet_nil ?_
              go_wp2_with fail
              refine ⟨⟨⟨w9'.drew, (Upd.refl _ _).drew⟩, rfl⟩, ?_⟩
              refine wpS_last ?_
              repeat (first | go_big_quiet_skip | (go_big_quiet_want; go_big_quiet_op; go_big_quiet_on))
              refine wpQuiet_nil ?_
              have hl200 := HL200.out
              have hlt := HLT.out
              go_wp2
              go_roundw
              case rel => exact ⟨k + 1, d7, HLT.out, by go_num, D9.out.nn ((Upd.refl _ _).drew), F7.out, by have := HCH7.out; omega, by rw [HR7.out, HDR.out], v9.nn ((Upd.refl _ _).drew)⟩
              case measure => have := HLT.out; simp [intOf]; omega
        · obtain rfl : k = l.length := by omega
          clear hd hfit hch hdr
          go_wp2
          go_ret
          exact ⟨rfl, hu⟩
    · have hr' : ¬ (1 ≤ room ∧ room ≤ 1048576) := by simpa [newOk] using hr
      have hrr : room < 1 ∨ 1048576 < room := by omega
      clear hr' hr hroom
      rcases hrr with hrr | hrr
      · have d1 : decide (room < 1) = true := by simpa using hrr
        clear hrr
        go_enter Try.func4, Try.ntmps4
        go_wp2_with fail
        refine (awake_any w).mono ?_
        rintro e w1 ⟨rfl, u1⟩
        have hc := few_any (cap := cap) (HL.out.nn u1) hlen
        rw [HF.out] at hc
        have HC := Lib.hid hc
        clear hc
        go_wp2_with fail
        refine HC.out.mono ?_
        rintro e w2 ⟨rfl, hw⟩
        obtain rfl : w1 = w2 := hw.symm
        go_wp2
        go_returns
        exact ⟨rfl, u1⟩
      · have d1 : decide (room < 1) = false := by simp; omega
        have d2 : decide (1048576 < room) = true := by simpa using hrr
        clear hrr
        go_enter Try.func4, Try.ntmps4
        go_wp2_with fail
        refine (awake_any w).mono ?_
        rintro e w1 ⟨rfl, u1⟩
        have hc := few_any (cap := cap) (HL.out.nn u1) hlen
        rw [HF.out] at hc
        have HC := Lib.hid hc
        clear hc
        go_wp2_with fail
        refine HC.out.mono ?_
        rintro e w2 ⟨rfl, hw⟩
        obtain rfl : w1 = w2 := hw.symm
        go_wp2
        go_returns
        exact ⟨rfl, u1⟩
end Go.Proofs.Ytkglcgekpgcdpaa
