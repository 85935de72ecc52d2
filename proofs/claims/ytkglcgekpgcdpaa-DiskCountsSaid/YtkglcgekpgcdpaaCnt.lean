/- The law DiskCounts. -/
import Derived.Test.YtkglcgekpgcdpaaScr
set_option linter.unusedVariables false
set_option linter.unusedSimpArgs false
namespace Go.Proofs.Ytkglcgekpgcdpaa
open Go.RowKit

/-- What the law says at a round's head: so many have gone well, the disk is on, the cut is as it was set. -/
structure CntInv (at_ keep : Int) (k n : Nat) (d : Dk) : Prop where
  fit : d.fit
  off : d.off = false
  ch : d.ch = n
  nk : n ≤ k
  lt : (n : Int) < at_
  at_ : d.at_ = at_
  keep : d.keep = keep
  room : d.room = 1048576
  sum : sumL d.L ≤ 2000 * k
/-- One act: it goes well, and one more is counted; or it is refused, and nothing has turned; or it is the one that fails. -/
theorem cnt_step {at_ keep : Int} {k n : Nat} {d : Dk} (h : CntInv at_ keep k n d) (ha : Apart d.L) {kd : Int} (k0 : 0 ≤ kd) (k3 : kd ≤ 3) (name s : ByteArray) (ca ck : Int) (hs : s.size ≤ 2000) (hk : k ≤ 1000) :
    ((doesR d kd name s ca ck).2 = 0 ∧ (n : Int) + 1 < at_ ∧ CntInv at_ keep (k + 1) (n + 1) (doesR d kd name s ca ck).1) ∨
    ((doesR d kd name s ca ck).2 ≠ 0 ∧ (doesR d kd name s ca ck).2 ≠ 7 ∧ CntInv at_ keep (k + 1) n (doesR d kd name s ca ck).1) ∨
    ((doesR d kd name s ca ck).2 = 7 ∧ (n : Int) = at_ - 1 ∧ (doesR d kd name s ca ck).1.off = true ∧ (doesR d kd name s ca ck).1.ch = at_ ∧ (doesR d kd name s ca ck).1.at_ = 0 ∧ (doesR d kd name s ca ck).1.fit ∧ sumL (doesR d kd name s ca ck).1.L ≤ 2000 * (k + 1) ∧ (doesR d kd name s ca ck).1.room = 1048576) := by
  have hsum := h.sum
  have hch := h.ch
  have hnk := h.nk
  rcases (does_chg h.fit ha name s k0 k3 ca ck hs).out with ⟨h1, h2, h3⟩ | ⟨ho, first, L', h1, h2, h3, h4, h5, h6, h7, h8⟩
  · refine .inr (.inl ⟨h2, h3 h.off, ?_⟩)
    rw [h1]
    exact ⟨h.fit, h.off, h.ch, by omega, h.lt, h.at_, h.keep, h.room, by omega⟩
  · have hL' : sumL L' ≤ 2000 * (k + 1) := by
      have : kd = 0 ∨ kd = 1 ∨ kd = 2 ∨ kd = 3 := by omega
      rcases this with rfl | rfl | rfl | rfl
      · have := h5 rfl; omega
      · have := h7 rfl; omega
      · have := h8 rfl; omega
      · have := (h6 rfl).1; omega
    have hfits := Fits.change (k := k) h.fit (by omega) first h2 h3 h4
    have hfit := fit_of_fits hfits h.fit (by omega)
    have hroom := hfits.room
    rw [h.room] at hroom
    rw [h1]
    rcases change_code d first L' with ⟨c, e⟩ | ⟨c, e, e2⟩
    · refine .inr (.inr ⟨c, by rw [h.at_] at e; omega, ?_⟩)
      have hat := h.at_
      unfold changeR at hfit hroom ⊢
      rw [if_pos e] at hfit hroom ⊢
      have key : ∀ f : Dk, f.off = false → f.ch = at_ → sumL f.L ≤ 2000 * (k + 1) → (∀ p ∈ f.L, p.2.ok) → (f.crash d.keep).off = true ∧ (f.crash d.keep).ch = at_ ∧ (f.crash d.keep).at_ = 0 ∧ sumL (f.crash d.keep).L ≤ 2000 * (k + 1) := by
        intro f f1 f2 f3 f4
        unfold Dk.crash
        rw [f1]
        obtain ⟨g1, _⟩ := sum_map_le d.keep f4
        exact ⟨rfl, f2, rfl, by show sumL (crashL _ _) ≤ _; omega⟩
      cases first with
      | true =>
        obtain ⟨q1, q2, q3, q4⟩ := key (d.more.with_ L') ho (by show d.ch + 1 = _; omega) hL' h2
        exact ⟨q1, q2, q3, hfit, q4, hroom⟩
      | false =>
        obtain ⟨q1, q2, q3, q4⟩ := key d.more ho (by show d.ch + 1 = _; omega) (by show sumL d.L ≤ _; omega) h.fit.ok.fs
        exact ⟨q1, q2, q3, hfit, q4, hroom⟩
    · refine .inl ⟨c, by have := h.lt; rw [h.at_] at e2; omega, ?_⟩
      rw [e] at hfit ⊢
      exact ⟨hfit, ho, by show d.ch + 1 = _; omega, by omega, by have := h.lt; rw [h.at_] at e2; omega, h.at_, h.keep, h.room, hL'⟩
theorem CntInv.next {at_ keep : Int} {k n : Nat} {d : Dk} (h : CntInv at_ keep k n d) : CntInv at_ keep (k + 1) n d :=
  ⟨h.fit, h.off, h.ch, by have := h.nk; omega, h.lt, h.at_, h.keep, h.room, by have := h.sum; omega⟩
theorem may_off (l : List ByteArray) : mayE true l = 7 := rfl
theorem does_off {d : Dk} (ho : d.off = true) {kd : Int} (k0 : 0 ≤ kd) (k3 : kd ≤ 3) (name s : ByteArray) (ca ck : Int) : doesR d kd name s ca ck = (d, 7) := by
  have hf : ∀ l n, findR d l n = (noFile, 7) := fun l n => by
    unfold findR
    rw [ho, may_off]
    rfl
  have : kd = 0 ∨ kd = 1 ∨ kd = 2 ∨ kd = 3 := by omega
  rcases this with rfl | rfl | rfl | rfl
  · rw [doesR_0]
    unfold appendR
    rw [ho, may_off]
    rfl
  · rw [doesR_1]
    unfold syncR
    rw [hf]
    rfl
  · rw [doesR_2]
    unfold renameR
    rw [hf]
    rfl
  · rw [doesR_3]
    unfold removeR
    rw [hf]
    rfl
def sagain : ByteArray := ⟨#[97, 103, 97, 105, 110]⟩
theorem again_ok {d : Dk} (ho : d.off = false) (hs : sumL d.L + 1 ≤ d.room) (hl : d.L.length < 128) (hc : d.ch + 1 ≠ d.at_) : (appendR d sagain sx).2 = 0 := by
  unfold appendR
  rw [if_pos (by rw [ho]; decide)]
  have hf : fullB d sagain sx = false := by
    have h1 : decide (d.room - sumL d.L < (sx.size : Int)) = false := by
      have : (sx.size : Int) = 1 := by decide
      rw [this]
      simp
      omega
    have h2 : decide (128 ≤ d.L.length) = false := by simp; omega
    simp [fullB, h1, h2]
  rw [hf]
  unfold changeR
  simp [hc]

set_option maxRecDepth 100000 in
set_option maxHeartbeats 40000000 in
theorem counts_walk (w : World) (at_ : Int) (hat : (Lit.int .i64 at_).wf = true) (keep : Int) (hkeep : (Lit.int .i64 keep).wf = true) (A : Option Addr) (cap : Nat) (l : List Ac) (hl : RdA w A l) (hlc : l.length ≤ cap) (hcm : cap ≤ maxLen) (hok : ∀ a ∈ l, a.ok) :
    Calls Try.prog 3 #[.int .i64 at_, .int .i64 keep, .slice A l.length cap] w fun e w' => e = .returned (.bool true) ∧ Below w.heap.size w w' := by
  suffices h : Calls Try.prog 3 #[.int .i64 at_, .int .i64 keep, .slice A l.length cap] w fun e w' => e = .returned (.bool true) ∧ Upd w w' Nope from h.mono fun e w' ⟨h1, h2⟩ => ⟨h1, h2.below (fun _ h => h.elim)⟩
  have HL := Lib.hid hl
  have HOK := Lib.hid hok
  have hlen : l.length ≤ maxLen := by omega
  have HKB := Lib.hid (wf_i64 hkeep)
  have HAB := Lib.hid (wf_i64 hat)
  clear hl hok hat hkeep
  cases hf : fewR l with
  | false =>
    have HF := Lib.hid hf
    clear hf
    go_enter Try.func3, Try.ntmps3
    go_wp2_with fail
    refine (awake_any w).mono ?_
    rintro e w1 ⟨rfl, u1⟩
    have hc := few_any (cap := cap) (HL.out.nn u1) hlen
    rw [HF.out] at hc
    have HC := Lib.hid hc
    clear hc
    go_wp2_with fail
    refine HC.out.mono ?_
    rintro e w2 ⟨rfl, hw⟩
    obtain rfl : w1 = w2 := hw.symm
    go_wp2
    go_returns
    exact ⟨rfl, u1⟩
  | true =>
    obtain ⟨hl200, hshort⟩ := few_of hf
    have HSH := Lib.hid hshort
    have HF := Lib.hid hf
    have HL200 := Lib.hid hl200
    clear hf hshort hl200
    by_cases ha1 : at_ < 1
    · have d1 : decide (at_ < 1) = true := by simpa using ha1
      clear ha1
      go_enter Try.func3, Try.ntmps3
      go_wp2_with fail
      refine (awake_any w).mono ?_
      rintro e w1 ⟨rfl, u1⟩
      have hc := few_any (cap := cap) (HL.out.nn u1) hlen
      rw [HF.out] at hc
      have HC := Lib.hid hc
      clear hc
      go_wp2_with fail
      refine HC.out.mono ?_
      rintro e w2 ⟨rfl, hw⟩
      obtain rfl : w1 = w2 := hw.symm
      go_wp2
      go_returns
      exact ⟨rfl, u1⟩
    · have d1 : decide (at_ < 1) = false := by simpa using ha1
      have HA1 := Lib.hid ha1
      clear ha1
      go_enter Try.func3, Try.ntmps3
      go_wp2_with fail
      refine (awake_any w).mono ?_
      rintro e w1 ⟨rfl, u1⟩
      have hc := few_any (cap := cap) (HL.out.nn u1) hlen
      rw [HF.out] at hc
      have HC := Lib.hid hc
      clear hc
      go_wp2_with fail
      refine HC.out.mono ?_
      rintro e w2 ⟨rfl, hw⟩
      obtain rfl : w1 = w2 := hw.symm
      clear HC
      go_wp2_with fail
      refine (new_any 1048576 w1).mono ?_
      rintro e w2 ⟨_, hn, u2⟩
      obtain ⟨g, q, rfl, h2, lg, lb⟩ := hn (by decide)
      have H2 := Lib.hid h2
      clear h2 hn
      have V2 := u1.nn u2
      have lg : w.heap.size ≤ g := Nat.le_trans u1.size lg
      have lb : w.heap.size ≤ q := Nat.le_trans u1.size lb
      clear u1 u2
      have hA := arm_any H2.out at_ keep
      have HA := Lib.hid hA
      clear hA
      go_wp2_with fail
      refine HA.out.mono ?_
      rintro e w3 ⟨rfl, h3, u3⟩
      have H3 := Lib.hid (show DK w3 g q ⟨1048576, [], false, at_, keep, 0⟩ from h3)
      have V3 := V2.trans u3 (fun _ _ h => h) (fun i hi h => by omega)
      clear h3 u3 HA H2 V2
      have hci : CntInv at_ keep 0 0 ⟨1048576, [], false, at_, keep, 0⟩ :=
        ⟨⟨⟨Int.le_refl _, (by show (0 : Int) ≤ 4611686018427387904; decide), HKB.out.1, HKB.out.2, by simp⟩, (by show (1 : Int) ≤ 1048576; decide), (by show (1048576 : Int) ≤ 1048576; decide), by simp [sumL], by simp⟩, rfl, rfl, Nat.le_refl _, by have := HA1.out; omega, rfl, rfl, rfl, by simp [sumL]⟩
      have CI := Lib.hid hci
      clear hci
      go_wp2_with fail
      go_loopw [9, 10] (fun s9 i wr => ∃ (k n : Nat) (d : Dk), k ≤ l.length ∧ i = .int .i64 k ∧ s9 = .int .i64 n ∧ DK wr g q d ∧ CntInv at_ keep k n d ∧ Upd w wr Nope) (fun _ i _ => l.length - (intOf i).toNat)
      case atStart => exact ⟨0, 0, _, Nat.zero_le _, rfl, rfl, H3.out, CI.out, V3⟩
      case round =>
        obtain ⟨k, n, d, hk, rfl, rfl, hd, hci, hu⟩ := hrel
        have HK := Lib.hid hk
        have CI := Lib.hid hci
        have D := Lib.hid hd
        have nk : n ≤ 200 := by have := hci.nk; have := HL200.out; omega
        have nat_ : decide (at_ ≤ (n : Int)) = false := by have := hci.lt; simp; omega
        clear hci hd
        by_cases hlt : k < l.length
        · have hL := HL.out.nn hu
          obtain ⟨ad, rfl, _⟩ := hL k hlt
          have c0 := hL.f0 hlt rfl
          have c1 := hL.fs hlt 0 rfl
          have c2 := hL.fs hlt 1 rfl
          have c3 := hL.fs hlt 2 rfl
          have c4 := hL.fs hlt 3 rfl
          have hs := (HSH.out _ (List.getElem_mem hlt)).2
          have hao := HOK.out _ (List.getElem_mem hlt)
          simp only [Nat.zero_add, Nat.reduceAdd] at c1 c2 c3 c4
          have hcs := fun (w' : World) (u : Upd w w' Nope) => (HL.out.nn u)
          have HCS := Lib.hid hcs
          have hk200 : k < 200 := by have := HL200.out; omega
          generalize ha : l[k] = a at c0 c1 c2 c3 c4 hs hao
          have hkk : k + 1 ≤ l.length := hlt
          have HG := Lib.hid ha
          have HAO := Lib.hid hao
          have HS := Lib.hid hs
          have HLT := Lib.hid hlt
          have HKK := Lib.hid hkk
          clear hL hao hs hcs ha hkk
          by_cases hkd : 0 ≤ a.k ∧ a.k ≤ 3
          · have d2 : decide (a.k < 0) = false := by simp; omega
            have d3 : decide (3 < a.k) = false := by simp; omega
            have HKD := Lib.hid hkd
            clear hkd
            have hC := does_any D.out CI.out.fit a HAO.out HS.out
            have HC := Lib.hid hC
            clear hC
            go_wp2_with fail
            refine HC.out.mono ?_
            rintro e w4 ⟨rfl, hd4, u4⟩
            have hstep := cnt_step CI.out D.out.mp.apart HKD.out.1 HKD.out.2 a.n a.s a.ca a.ck HS.out (by omega)
            have hoffs := fun (d' : Dk) (h : d'.off = true) => does_off h HKD.out.1 HKD.out.2 a.n a.s a.ca a.ck
            have HOF := Lib.hid hoffs
            clear hoffs HC
            have H4 := Lib.hid hd4
            have V4 := hu.trans u4 (fun _ _ h => h) (fun i hi h => by omega)
            clear hd4 u4 D CI c0 c1 c2 c3 c4 hu
            rcases hstep with ⟨h1, h2, h3⟩ | ⟨h1, h2, h3⟩ | ⟨h1, h2, h3, h4, h5, h6, h7, h8⟩
            · have H4 := Lib.hid H4.out
              have HX := Lib.hid h3
              generalize doesR d a.k a.n a.s a.ca a.ck = R at h1 h3 H4 HX ⊢
              obtain ⟨d4, f⟩ := R
              simp only at h1 h3 ⊢
              subst h1
              clear h3
              have nat2 : decide (at_ ≤ (n : Int) + 1) = false := by simp; omega
              have hD := down_any H4.out
              have hch := changes_any H4.out
              rw [HX.out.off] at hD
              rw [HX.out.ch] at hch
              have HDn := Lib.hid hD
              have HCh := Lib.hid hch
              clear hD hch h2
              go_wp2_with fail
              refine HDn.out.mono ?_
              rintro e w5 ⟨rfl, hw⟩
              obtain rfl : w4 = w5 := hw.symm
              go_wp2_with fail
              refine HDn.out.mono ?_
              rintro e w5 ⟨rfl, hw⟩
              obtain rfl : w4 = w5 := hw.symm
              go_wp2_with fail
              refine HCh.out.mono ?_
              rintro e w5 ⟨rfl, hw⟩
              obtain rfl : w4 = w5 := hw.symm
              go_wp2
              go_roundw
              case rel => exact ⟨k + 1, n + 1, d4, HKK.out, by go_num, by go_num, H4.out, HX.out, V4⟩
              case measure => have := HLT.out; simp [intOf]; omega
            · have HX := Lib.hid h3
              generalize doesR d a.k a.n a.s a.ca a.ck = R at h1 h2 h3 H4 HX ⊢
              obtain ⟨d4, f⟩ := R
              simp only at h1 h2 h3 ⊢
              clear h3
              have f0 : (f == 0) = false := by simpa using h1
              have f7 : (f == 7) = false := by simpa using h2
              have hD := down_any H4.out
              have hch := changes_any H4.out
              rw [HX.out.off] at hD
              rw [HX.out.ch] at hch
              have HDn := Lib.hid hD
              have HCh := Lib.hid hch
              clear hD hch h1 h2
              go_wp2_with fail
              refine HDn.out.mono ?_
              rintro e w5 ⟨rfl, hw⟩
              obtain rfl : w4 = w5 := hw.symm
              go_wp2_with fail
              refine HDn.out.mono ?_
              rintro e w5 ⟨rfl, hw⟩
              obtain rfl : w4 = w5 := hw.symm
              go_wp2_with fail
              refine HCh.out.mono ?_
              rintro e w5 ⟨rfl, hw⟩
              obtain rfl : w4 = w5 := hw.symm
              go_wp2
              go_roundw
              case rel => exact ⟨k + 1, n, d4, HKK.out, by go_num, by go_num, H4.out, HX.out, V4⟩
              case measure => have := HLT.out; simp [intOf]; omega
            · generalize doesR d a.k a.n a.s a.ca a.ck = R at h1 h3 h4 h5 h6 h7 h8 H4 ⊢
              obtain ⟨d4, f⟩ := R
              simp only at h1 h3 h4 h5 h6 h7 h8 ⊢
              subst h1
              have FI := Lib.hid h6
              have SU := Lib.hid h7
              have RM := Lib.hid h8
              have CH := Lib.hid h4
              have AT := Lib.hid h5
              have hD := down_any H4.out
              have hch := changes_any H4.out
              rw [h3] at hD
              rw [h4] at hch
              have HDn := Lib.hid hD
              have HCh := Lib.hid hch
              have hL := HCS.out w4 V4
              have c0 := hL.f0 HLT.out rfl
              have c1 := hL.fs HLT.out 0 rfl
              have c2 := hL.fs HLT.out 1 rfl
              have c3 := hL.fs HLT.out 2 rfl
              have c4 := hL.fs HLT.out 3 rfl
              simp only [Nat.zero_add, Nat.reduceAdd] at c1 c2 c3 c4
              rw [HG.out] at c0 c1 c2 c3 c4
              have hC := does_any H4.out FI.out a HAO.out HS.out
              rw [HOF.out d4 h3] at hC
              have HC := Lib.hid hC
              have hn1 : ((n : Int) != at_ - 1) = false := by simpa using h2
              have hb1 := HAB.out.2
              have hb0 : 1 ≤ at_ := by have := HA1.out; omega
              clear hD hch h2 h3 h4 h5 h6 h7 h8 hL hC
              go_wp2_with fail
              refine HDn.out.mono ?_
              rintro e w5 ⟨rfl, hw⟩
              obtain rfl : w4 = w5 := hw.symm
              go_wp2_with fail
              refine HDn.out.mono ?_
              rintro e w5 ⟨rfl, hw⟩
              obtain rfl : w4 = w5 := hw.symm
              go_wp2_with fail
              refine HCh.out.mono ?_
              rintro e w5 ⟨rfl, hw⟩
              obtain rfl : w4 = w5 := hw.symm
              go_wp2_with fail
              refine HC.out.mono ?_
              rintro e w6 ⟨rfl, hd6, u6⟩
              have H6 := Lib.hid hd6
              have V6 := V4.trans u6 (fun _ _ h => h) (fun i hi h => by omega)
              clear hd6 u6 c0 c1 c2 c3 c4 HC HCh HDn
              have hch := changes_any H6.out
              rw [CH.out] at hch
              have HCh := Lib.hid hch
              clear hch
              go_wp2_with fail
              refine HCh.out.mono ?_
              rintro e w7 ⟨rfl, hw⟩
              obtain rfl : w6 = w7 := hw.symm
              clear HCh
              have hS := start_any H6.out
              have HS6 := Lib.hid hS
              clear hS
              go_wp2_with fail
              refine HS6.out.mono ?_
              rintro e w7 ⟨rfl, hd7, u7⟩
              have H7 := Lib.hid (show DK w7 g q (startR d4) from hd7)
              have V7 := V6.trans u7 (fun _ _ h => h) (fun i hi h => by omega)
              clear hd7 u7 HS6 V6 H6
              have hfit7 : (startR d4).fit := ⟨⟨FI.out.ok.c0, FI.out.ok.c1, FI.out.ok.k0, FI.out.ok.k1, FI.out.ok.fs⟩, FI.out.r0, FI.out.r1, FI.out.sum, FI.out.len⟩
              have F7 := Lib.hid hfit7
              clear hfit7
              have hU := list_any H7.out (by have := F7.out.len; omega)
              have HU := Lib.hid hU
              clear hU
              go_wp2_with fail
              refine HU.out.mono ?_
              rintro e w8 ⟨A1, cap1, l1, he, _, hp, u8, _⟩
              have hp := hp.length_eq
              rw [List.length_map] at hp
              rw [hp] at he
              subst he
              clear HU hp
              have H8 := Lib.hid (H7.out.nn u8)
              have V8 := V7.nn u8
              clear u8 H7 V7
              have hD := down_any H8.out
              rw [show (startR d4).off = false from rfl] at hD
              have HDn := Lib.hid hD
              clear hD
              by_cases hfull : (startR d4).L.length = 128
              · have hfu : (((startR d4).L.length : Int) == 128) = true := by simp [hfull]
                clear hfull
                go_wp2_with fail
                refine HDn.out.mono ?_
                rintro e w9 ⟨rfl, hw⟩
                obtain rfl : w8 = w9 := hw.symm
                go_wp2
                go_returns
                exact ⟨rfl, V8⟩
              · have hfu : (((startR d4).L.length : Int) == 128) = false := by simp; omega
                have hag := again_ok (d := startR d4) rfl (by have := SU.out; have := RM.out; show sumL d4.L + 1 ≤ d4.room; omega) (by have := F7.out.len; omega) (by show d4.ch + 1 ≠ d4.at_; rw [CH.out, AT.out]; omega)
                have hC := append_any H8.out F7.out sagain sx (by decide)
                rw [hag] at hC
                have HC := Lib.hid hC
                clear hC hag hfull
                go_wp2_with fail
                refine HDn.out.mono ?_
                rintro e w9 ⟨rfl, hw⟩
                obtain rfl : w8 = w9 := hw.symm
                go_wp2_with fail
                refine HC.out.mono ?_
                rintro e w9 ⟨rfl, hd9, u9⟩
                have V9 := V8.trans u9 (fun _ _ h => h) (fun i hi h => by omega)
                clear hd9 u9
                go_wp2
                go_returns
                exact ⟨rfl, V9⟩
          · have hkd' : a.k < 0 ∨ 3 < a.k := by omega
            clear hkd
            rcases hkd' with hkd | hkd
            · have d2 : decide (a.k < 0) = true := by simpa using hkd
              clear hkd
              go_wp2
              go_roundw
              case rel => exact ⟨k + 1, n, d, HKK.out, by go_num, by go_num, D.out, CI.out.next, hu⟩
              case measure => have := HLT.out; simp [intOf]; omega
            · have d2 : decide (a.k < 0) = false := by simp; omega
              have d3 : decide (3 < a.k) = true := by simpa using hkd
              clear hkd
              go_wp2
              go_roundw
              case rel => exact ⟨k + 1, n, d, HKK.out, by go_num, by go_num, D.out, CI.out.next, hu⟩
              case measure => have := HLT.out; simp [intOf]; omega
        · obtain rfl : k = l.length := by omega
          have nlt : decide ((n : Int) < at_) = true := by have := CI.out.lt; simpa using this
          go_wp2
          go_ret
          exact ⟨rfl, hu⟩
end Go.Proofs.Ytkglcgekpgcdpaa
