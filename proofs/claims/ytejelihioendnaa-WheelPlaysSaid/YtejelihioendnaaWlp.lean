/- WheelPlays. -/
import Derived.Test.YtejelihioendnaaWrv
import Derived.Test.YtejelihioendnaaWrs
set_option linter.unusedVariables false
set_option linter.unusedSimpArgs false
namespace Go.Proofs.Ytejelihioendnaa
open Go.RowKit

/-- A wheel, and the reference's. -/
structure WP (w wr : World) (g : Nat) (F : Nat → Prop) (nw : Int) (L : List (Int × Int)) (gm : Nat) (nm : Int) (M : List (Int × Int)) (A : Option Addr) (cap : Nat) : Prop where
  own : Own w wr g F nw L
  blk : Blk wr gm #[.int .i64 nm, .slice A M.length cap] 30
  m0 : w.heap.size ≤ gm
  mF : ¬ F gm
  row : Rw wr A cap M
  rF : ∀ ad, A = some ad → ¬ F ad.block ∧ ad.block ≠ gm
section
variable {w wr w' w'' : World} {g gm : Nat} {F F' : Nat → Prop} {nw nw' nm nm' : Int} {L L' M M' : List (Int × Int)} {A A' : Option Addr} {cap cap' : Nat} (h : WP w wr g F nw L gm nm M A cap)
include h
theorem WP.nn (u : Upd wr w' Nope) : WP w w' g F nw L gm nm M A cap := ⟨h.own.nn u, h.blk.upd u (fun h => h), h.m0, h.mF, h.row.nn u, h.rF⟩
theorem WP.wheel (hg : Gr wr w' F F') (ha : At w' g F' nw' L') : WP w w' g F' nw' L' gm nm M A cap :=
  ⟨h.own.step hg ha, h.blk.upd hg.upd h.mF, h.m0, fun hf => by
    rcases hg.new gm hf with h1 | h1
    · exact h.mF h1
    · have := h.blk.lt; omega, h.row.away hg.upd (fun ad e => (h.rF ad e).1), fun ad e => ⟨fun hf => by
    rcases hg.new _ hf with h1 | h1
    · exact (h.rF ad e).1 h1
    · have := h.row.lt ad e; omega, (h.rF ad e).2⟩⟩
theorem WP.put (u : Upd wr w' Nope) (hr : Rw w' A' cap' M') (hA : ∀ ad, A' = some ad → (∃ ad0, A = some ad0 ∧ ad.block = ad0.block) ∨ wr.heap.size ≤ ad.block) (u2 : Upd w' w'' (fun i => i = gm)) (hb : Blk w'' gm #[.int .i64 nm', .slice A' M'.length cap'] 30) :
    WP w w'' g F nw L gm nm' M' A' cap' := by
  have hF : ∀ i, F i → i < wr.heap.size := fun i hi => h.own.at_.lt hi
  have hne : ∀ ad, A' = some ad → ¬ F ad.block ∧ ad.block ≠ gm := fun ad e => by
    rcases hA ad e with ⟨ad0, e0, e1⟩ | h1
    · rw [e1]; exact h.rF ad0 e0
    · exact ⟨fun hf => by have := hF _ hf; omega, fun e2 => by have := h.blk.lt; omega⟩
  have h1 := h.own.nn u
  exact ⟨⟨h1.at_.apart u2 (fun i hi e => h.mF (e ▸ hi)), h.own.fresh, h1.upd.on u2 h.m0⟩, hb, h.m0, h.mF, hr.away u2 (fun ad e => (hne ad e).2), hne⟩
end
set_option maxRecDepth 1000000 in
set_option maxHeartbeats 8000000 in
theorem wheelPlays_any (w : World) (now : Int) (hnow : (Lit.int .i64 now).wf = true) (A : Option Addr) (cap : Nat) (l : List Ac) (rd : RdA w A l) (hc : l.length ≤ cap) (hm : cap ≤ maxLen) (ok : ∀ y ∈ l, y.ok) :
    Calls Try.prog 3 #[.int .i64 now, .slice A l.length cap] w fun e w' => e = .returned (.bool true) ∧ Below w.heap.size w w' := by
  refine Calls.mono (R := fun e w' => e = .returned (.bool true) ∧ Upd w w' Nope) ?_ (fun e w' ⟨h, u⟩ => ⟨h, u.below (fun _ h => h.elim)⟩)
  have hlm : l.length ≤ 9223372036854775807 := by unfold maxLen at hm; omega
  have HA := Lib.hid (awake_any w)
  have HRD := Lib.hid rd
  have HOK := Lib.hid ok
  clear rd hc hm ok
  go_enter Try.func3, Try.ntmps3
  go_wp2_with fail
  refine HA.out.mono ?_
  rintro e w1 ⟨rfl, u1⟩
  have U1 := Lib.hid u1
  clear HA u1
  by_cases hbig : 100 < l.length
  · have d1 : decide (100 < (l.length : Int)) = true := by simp; omega
    go_wp2_with fail
    go_returns
    exact ⟨rfl, U1.out⟩
  · have d1 : decide (100 < (l.length : Int)) = false := by simp; omega
    have HNW := Lib.hid (at_new now w1)
    go_wp2_with fail
    refine HNW.out.mono ?_
    rintro e w2 ⟨hx0, hx, u2⟩
    by_cases hin : 0 ≤ now ∧ now ≤ 1099511627776
    · have hok : newOk now = true := by simp [newOk]; omega
      have d3 : decide (now < 0) = false := by simp; omega
      have d4 : decide (1099511627776 < now) = false := by simp; omega
      obtain ⟨g, F, rfl, hA, hf⟩ := hx hok
      have hO : Own w w2 g F now [] := ⟨hA, fun i hi => by have := hf i hi; have := U1.out.size; omega, U1.out.nn u2⟩
      have hW0 : WP w (w2.alloc (.cells #[.int .i64 now, .slice none 0 0] 30)) g F now [] w2.heap.size now [] none 0 :=
        ⟨hO.nn ((Upd.refl w2 _).alloc _), Blk.new w2 _ 30, hO.upd.size, fun hf => Nat.lt_irrefl _ (hO.at_.lt hf), ⟨fun i hi => absurd hi (by simp), fun _ => rfl, Nat.le_refl _, by simp [maxLen], fun ad e => by cases e⟩, fun ad e => by cases e⟩
      have HW0 := Lib.hid hW0
      clear hO hW0 hA hf u2 hx HNW hx0
      go_wp2_with fail
      generalize w2.alloc (.cells #[.int .i64 now, .slice none 0 0] 30) = w3 at HW0 ⊢
      generalize w2.heap.size = gm at HW0 ⊢
      clear d1 d3 d4
      go_loopw [8] (fun i wr => ∃ (k : Nat) (F' : Nat → Prop) (nw : Int) (L : List (Int × Int)) (A' : Option Addr) (cap' : Nat), k ≤ l.length ∧ i = .int .i64 k ∧ WP w wr g F' nw L gm nw L A' cap' ∧ L.length ≤ k) (fun i _ => l.length - (intOf i).toNat)
      case atStart => exact ⟨0, F, now, [], none, 0, by omega, rfl, HW0.out, Nat.le_refl _⟩
      case round =>
        clear HW0
        obtain ⟨k, F1, nw, L, A1, cap1, hk, rfl, hW, hLk⟩ := hrel
        by_cases hlt : k < l.length
        · have hL := HRD.out.nn hW.own.upd
          obtain ⟨ad, rfl, _⟩ := hL k hlt
          have c0 := hL.f0 hlt rfl
          have c1 := hL.fs hlt 0 rfl
          have c2 := hL.fs hlt 1 rfl
          have c3 := hL.fs hlt 2 rfl
          have hao := HOK.out _ (List.getElem_mem hlt)
          simp only [Nat.zero_add, Nat.reduceAdd] at c1 c2 c3
          generalize l[k] = a at c0 c1 c2 c3 hao
          have u3 : Upd wr (wr.alloc (.cells #[.int .i64 a.k, .int .i64 a.id, .int .i64 a.n, .int .i64 a.b] 32)) Nope := (Upd.refl wr _).alloc _
          have HB := Lib.hid (Blk.new wr #[.int .i64 a.k, .int .i64 a.id, .int .i64 a.n, .int .i64 a.b] 32)
          have HW := Lib.hid (hW.nn u3)
          have HGF := Lib.hid (show ¬ F1 wr.heap.size from fun hf => Nat.lt_irrefl _ (hW.own.at_.lt hf))
          have HGB := Lib.hid (show wr.heap.size ≠ gm by have := hW.blk.lt; omega)
          have oki := hao.1
          have HN0 := Lib.hid hW.own.at_.n0
          have HSR := Lib.hid hW.own.at_.srt
          have HID := Lib.hid hW.own.at_.ids
          clear hL hW hao u3
          by_cases k0 : a.k = 0
          · have t0 : (a.k == 0) = true := by simpa using k0
            clear k0
            go_upto_region 17 with (fail)
            generalize wr.alloc (.cells #[.int .i64 a.k, .int .i64 a.id, .int .i64 a.n, .int .i64 a.b] 32) = w4 at HB HW ⊢
            generalize wr.heap.size = gb at HB HGF HGB ⊢
            clear c0 c1 c2 c3 t0
            have x1 : w4.cell? ⟨gb, 1, none⟩ = some (.int .i64 a.id) := (HB.out.cell 1).trans rfl
            have x2 : w4.cell? ⟨gb, 2, none⟩ = some (.int .i64 a.n) := (HB.out.cell 2).trans rfl
            have m0 : w4.cell? ⟨gm, 0, none⟩ = some (.int .i64 nw) := (HW.out.blk.cell 0).trans rfl
            have m1 : w4.cell? ⟨gm, 1, none⟩ = some (.slice A1 L.length cap1) := (HW.out.blk.cell 1).trans rfl
            have HCN := Lib.hid (setF_any w4 nw a.id a.n A1 cap1 L HW.out.row (by omega) HID.out HN0.out.1 HN0.out.2)
            go_wp2_with fail
            refine HCN.out.mono ?_
            rintro e w5 ⟨A5, cap5, rfl, hr5, u5, hA5⟩
            have hB5 := HB.out.upd u5 (fun h => h)
            have hM5 := HW.out.blk.upd u5 (fun h => h)
            have x1 : w5.cell? ⟨gb, 1, none⟩ = some (.int .i64 a.id) := (hB5.cell 1).trans rfl
            have x2 : w5.cell? ⟨gb, 2, none⟩ = some (.int .i64 a.n) := (hB5.cell 2).trans rfl
            have m0 : w5.cell? ⟨gm, 0, none⟩ = some (.int .i64 nw) := (hM5.cell 0).trans rfl
            have m1 : w5.cell? ⟨gm, 1, none⟩ = some (.slice A1 L.length cap1) := (hM5.cell 1).trans rfl
            have mf0 := hM5.frozen 0
            have mf1 := hM5.frozen 1
            have mlt := hM5.lt
            have HB5 := Lib.hid hB5
            have HM5 := Lib.hid hM5
            have HU5 := Lib.hid u5
            have HR5 := Lib.hid hr5
            have HA5 := Lib.hid hA5
            clear hB5 hM5 u5 hr5 hA5 HCN
            go_upto_region 19 with (fail)
            have hW6 := HW.out.put HU5.out HR5.out (fun ad e => HA5.out.elim (fun h => .inl ⟨ad, by rw [← h]; exact e, rfl⟩) (fun h => .inr (h ad e)))
              (((Upd.refl w5 (fun i => i = gm)).set ⟨gm, 0, none⟩ (.int .i64 nw) (.inl rfl)).set ⟨gm, 1, none⟩ (.slice A5 (setT nw L a.id a.n).length cap5) (.inl rfl) |>.alloc (.cells #[.int .i64 nw, .slice A5 (setT nw L a.id a.n).length cap5] 30))
              (((HM5.out.set 0 (.int .i64 nw)).set 1 (.slice A5 (setT nw L a.id a.n).length cap5)).alloc _)
            have hB6 := ((HB5.out.far (p := ⟨gm, 0, none⟩) HGB.out (.int .i64 nw)).far (p := ⟨gm, 1, none⟩) HGB.out (.slice A5 (setT nw L a.id a.n).length cap5)).alloc (.cells #[.int .i64 nw, .slice A5 (setT nw L a.id a.n).length cap5] 30)
            clear m0 m1 mf0 mf1 mlt x1 x2
            generalize ((w5.setCell ⟨gm, 0, none⟩ (.int .i64 nw)).setCell ⟨gm, 1, none⟩ (.slice A5 (setT nw L a.id a.n).length cap5)).alloc (.cells #[.int .i64 nw, .slice A5 (setT nw L a.id a.n).length cap5] 30) = w6 at hW6 hB6 ⊢
            have x1 : w6.cell? ⟨gb, 1, none⟩ = some (.int .i64 a.id) := (hB6.cell 1).trans rfl
            have x2 : w6.cell? ⟨gb, 2, none⟩ = some (.int .i64 a.n) := (hB6.cell 2).trans rfl
            have HST := Lib.hid (hW6.own.at_.set_ a.id a.n oki)
            have HW6 := Lib.hid hW6
            clear hW6 hB6
            go_wp2_with fail
            refine HST.out.mono ?_
            rintro e w7 ⟨rfl, F7, hA7, hg7⟩
            have HW7 := Lib.hid (HW6.out.wheel hg7 hA7)
            have HL7 := Lib.hid (show (setT nw L a.id a.n).length ≤ k + 1 from Nat.le_trans setT_len (by omega))
            have hne : (setC a.id a.n != setC a.id a.n) = false := by simp
            clear hA7 hg7 HST x1 x2
            generalize setT nw L a.id a.n = L7 at *
            generalize setC a.id a.n = c7 at *
            generalize A5 = A7 at *
            generalize cap5 = cap7 at *
            have m0 : w7.cell? ⟨gm, 0, none⟩ = some (.int .i64 nw) := (HW7.out.blk.cell 0).trans rfl
            have m1 : w7.cell? ⟨gm, 1, none⟩ = some (.slice A7 L7.length cap7) := (HW7.out.blk.cell 1).trans rfl
            have XM0 := fun (x : UW w7) => x.cell m0
            have XM1 := fun (x : UW w7) => x.cell m1
            have HNO := Lib.hid (fun (x : UW w7) => (HW7.out.nn x.ok).own.at_.now_.mono (fun e w' (h : e = Ending.returned (.int .i64 nw) ∧ w' = x.val) => (⟨h.1, by rw [h.2]; exact Upd.refl _ _⟩ : e = Ending.returned (.int .i64 nw) ∧ Upd x.val w' Nope)))
            have HLE := Lib.hid (fun (x : UW w7) => (HW7.out.nn x.ok).own.at_.len_.mono (fun e w' (h : e = Ending.returned (.int .i64 L7.length) ∧ w' = x.val) => (⟨h.1, by rw [h.2]; exact Upd.refl _ _⟩ : e = Ending.returned (.int .i64 L7.length) ∧ Upd x.val w' Nope)))
            have hnn : (nw != nw) = false := by simp
            have hLZ : L7.length ≤ 1000 := by have := HL7.out; omega
            clear m0 m1
            go_wp2_with fail
            refine region_uw (by kernel_rfl) (by kernel_rfl) ?_
            repeat (first
              | go_big_quiet_skip
              | (go_big_quiet_want; go_big_quiet_op; first | go_big_quiet_on | go_big_quiet_call (first | (go_at_call 18; exact UW.call (HNO.out _)) | (go_at_call 19; exact UW.call (HLE.out _)))))
            refine wpQuiet_nil ?_
            rintro _ ⟨x, rfl⟩
            have HW8 := Lib.hid (HW7.out.nn x.ok)
            clear XM0 XM1 HNO HLE hnn
            generalize x.val = w8 at *
            have hcs : L7 = [] ∨ ∃ d x T, L7 = (d, x) :: T := by
              cases L7 with
              | nil => exact .inl rfl
              | cons p T => exact .inr ⟨p.1, p.2, T, rfl⟩
            rcases hcs with rfl | ⟨d7, x7, T7, rfl⟩
            · as_aux_lemma =>
              have HNX := Lib.hid (show Calls Try.prog 20 #[.pointer (some ⟨g, 0, none⟩)] w8 fun e w' => e = .returned (.tuple #[.int .i64 0, .bool false]) ∧ Upd w8 w' Nope from HW8.out.own.at_.next_)
              go_wp2_with fail
              refine HNX.out.mono ?_
              rintro e w9 ⟨rfl, u9⟩
              have HW9 := Lib.hid (HW8.out.nn u9)
              have m1 : w9.cell? ⟨gm, 1, none⟩ = some (.slice A7 ([] : List (Int × Int)).length cap7) := (HW9.out.blk.cell 1).trans rfl
              clear u9 HNX HW8 HW7
              have hzz : ((0 : Int) != 0) = false := by simp
              go_wp2_with fail
              clear m1 hzz
              generalize hL7 : ([] : List (Int × Int)) = L7 at HW9 HL7 ⊢
              have HLZ := Lib.hid (show L7.length ≤ 1000 by rw [← hL7]; exact hLZ)
              clear hL7 hLZ
              go_loopw [23] (fun i wv => ∃ (j : Nat) (F' : Nat → Prop), j ≤ L7.length ∧ i = .int .i64 j ∧ WP w wv g F' nw L7 gm nw L7 A7 cap7) (fun i _ => L7.length - (intOf i).toNat)
              case atStart => exact ⟨0, _, by omega, rfl, HW9.out⟩
              case round =>
                clear HW9
                obtain ⟨j, F9, hj, rfl, hW⟩ := hrel
                have m1 : World.cell? _ ⟨gm, 1, none⟩ = some (.slice A7 L7.length cap7) := (hW.blk.cell 1).trans rfl
                have hLZ := HLZ.out
                have HW := Lib.hid hW
                clear hW
                by_cases hjl : j < L7.length
                · have hrow := HW.out.row.rd
                  obtain ⟨ad7, rfl, _⟩ := hrow j hjl
                  have g0 := hrow.f0 hjl (v := .int .i64 L7[j].2) rfl
                  have hmem : (L7[j].1, L7[j].2) ∈ L7 := List.getElem_mem hjl
                  have hbd := HW.out.own.at_.bnd hmem
                  have hD := HW.out.own.at_.due_ L7[j].2 (okI_of (by omega) (by omega))
                  rw [dueL_some (d := L7[j].1) (fun d' h' => HW.out.own.at_.uniq h' hmem) hmem] at hD
                  have HD := Lib.hid hD
                  clear hrow hmem hbd hD
                  go_wp2_with fail
                  refine HD.out.mono ?_
                  rintro e w10 ⟨rfl, F10, hA10, hg10⟩
                  have HW10 := Lib.hid (HW.out.wheel hg10 hA10)
                  clear hA10 hg10 HD m1 g0
                  have m1 : w10.cell? ⟨gm, 1, none⟩ = some (.slice (some ad7) L7.length cap7) := (HW10.out.blk.cell 1).trans rfl
                  have g1 := HW10.out.row.rd.fs hjl 0 (v := .int .i64 L7[j].1) rfl
                  simp only [Nat.zero_add] at g1
                  have hdd : (L7[j].1 != L7[j].1) = false := by simp
                  go_wp2_with fail
                  go_roundw
                  case rel => exact ⟨j + 1, F10, by omega, by go_num, HW10.out⟩
                  case measure => simp [intOf]; omega
                · obtain rfl : j = L7.length := by omega
                  clear hLZ
                  go_wp2_with fail
                  go_roundw
                  case rel => exact ⟨k + 1, F9, _, L7, A7, cap7, by omega, by go_num, HW.out, HL7.out⟩
                  case measure => simp [intOf]; omega
            · as_aux_lemma =>
              obtain ⟨ad7, rfl, _⟩ := HW8.out.row.rd 0 (by simp)
              have HNX := Lib.hid (show Calls Try.prog 20 #[.pointer (some ⟨g, 0, none⟩)] w8 fun e w' => e = .returned (.tuple #[.int .i64 d7, .bool true]) ∧ Upd w8 w' Nope from HW8.out.own.at_.next_)
              go_wp2_with fail
              refine HNX.out.mono ?_
              rintro e w9 ⟨rfl, u9⟩
              have HW9 := Lib.hid (HW8.out.nn u9)
              have m1 : w9.cell? ⟨gm, 1, none⟩ = some (.slice (some ad7) ((d7, x7) :: T7).length cap7) := (HW9.out.blk.cell 1).trans rfl
              clear u9 HNX HW8 HW7
              have g1 : w9.cell? ⟨ad7.block, ad7.off + 1, none⟩ = some (.int .i64 d7) := by
                have := HW9.out.row.rd.fs (i := 0) (by simp) 0 (v := .int .i64 d7) rfl
                simpa [Addr.add] using this
              have hdd : (d7 != d7) = false := by simp
              go_wp2_with fail
              clear m1 g1 hdd
              generalize hL7 : ((d7, x7) :: T7) = L7 at HW9 HL7 ⊢
              have HLZ := Lib.hid (show L7.length ≤ 1000 by rw [← hL7]; exact hLZ)
              clear hL7 hLZ
              go_loopw [23] (fun i wv => ∃ (j : Nat) (F' : Nat → Prop), j ≤ L7.length ∧ i = .int .i64 j ∧ WP w wv g F' nw L7 gm nw L7 (some ad7) cap7) (fun i _ => L7.length - (intOf i).toNat)
              case atStart => exact ⟨0, _, by omega, rfl, HW9.out⟩
              case round =>
                clear HW9
                obtain ⟨j, F9, hj, rfl, hW⟩ := hrel
                have m1 : World.cell? _ ⟨gm, 1, none⟩ = some (.slice (some ad7) L7.length cap7) := (hW.blk.cell 1).trans rfl
                have hLZ := HLZ.out
                have HW := Lib.hid hW
                clear hW
                by_cases hjl : j < L7.length
                · have hrow := HW.out.row.rd
                  have g0 := hrow.f0 hjl (v := .int .i64 L7[j].2) rfl
                  have hmem : (L7[j].1, L7[j].2) ∈ L7 := List.getElem_mem hjl
                  have hbd := HW.out.own.at_.bnd hmem
                  have hD := HW.out.own.at_.due_ L7[j].2 (okI_of (by omega) (by omega))
                  rw [dueL_some (d := L7[j].1) (fun d' h' => HW.out.own.at_.uniq h' hmem) hmem] at hD
                  have HD := Lib.hid hD
                  clear hrow hmem hbd hD
                  go_wp2_with fail
                  refine HD.out.mono ?_
                  rintro e w10 ⟨rfl, F10, hA10, hg10⟩
                  have HW10 := Lib.hid (HW.out.wheel hg10 hA10)
                  clear hA10 hg10 HD m1 g0
                  have m1 : w10.cell? ⟨gm, 1, none⟩ = some (.slice (some ad7) L7.length cap7) := (HW10.out.blk.cell 1).trans rfl
                  have g1 := HW10.out.row.rd.fs hjl 0 (v := .int .i64 L7[j].1) rfl
                  simp only [Nat.zero_add] at g1
                  have hdd : (L7[j].1 != L7[j].1) = false := by simp
                  go_wp2_with fail
                  go_roundw
                  case rel => exact ⟨j + 1, F10, by omega, by go_num, HW10.out⟩
                  case measure => simp [intOf]; omega
                · obtain rfl : j = L7.length := by omega
                  clear hLZ
                  go_wp2_with fail
                  go_roundw
                  case rel => exact ⟨k + 1, F9, _, L7, (some ad7), cap7, by omega, by go_num, HW.out, HL7.out⟩
                  case measure => simp [intOf]; omega
          · have t0 : (a.k == 0) = false := by simpa using k0
            clear k0
            by_cases k1 : a.k = 1
            · have t1 : (a.k == 1) = true := by simpa using k1
              clear k1
              go_upto_region 22 with (fail)
              generalize wr.alloc (.cells #[.int .i64 a.k, .int .i64 a.id, .int .i64 a.n, .int .i64 a.b] 32) = w4 at HB HW ⊢
              generalize wr.heap.size = gb at HB HGF HGB ⊢
              clear c0 c1 c2 c3
              clear t0 t1
              have x1 : w4.cell? ⟨gb, 1, none⟩ = some (.int .i64 a.id) := (HB.out.cell 1).trans rfl
              have m0 : w4.cell? ⟨gm, 0, none⟩ = some (.int .i64 nw) := (HW.out.blk.cell 0).trans rfl
              have m1 : w4.cell? ⟨gm, 1, none⟩ = some (.slice A1 L.length cap1) := (HW.out.blk.cell 1).trans rfl
              have HCN := Lib.hid (cancelF_any w4 nw a.id A1 cap1 L HW.out.row (by omega) HID.out)
              go_wp2_with fail
              refine HCN.out.mono ?_
              rintro e w5 ⟨A5, cap5, rfl, hr5, u5, hA5⟩
              have HB5 := Lib.hid (HB.out.upd u5 (fun h => h))
              have HM5 := Lib.hid (HW.out.blk.upd u5 (fun h => h))
              clear m0 m1 x1
              have x1 : w5.cell? ⟨gb, 1, none⟩ = some (.int .i64 a.id) := (HB5.out.cell 1).trans rfl
              have m0 : w5.cell? ⟨gm, 0, none⟩ = some (.int .i64 nw) := (HM5.out.cell 0).trans rfl
              have m1 : w5.cell? ⟨gm, 1, none⟩ = some (.slice A1 L.length cap1) := (HM5.out.cell 1).trans rfl
              have mf0 := HM5.out.frozen 0
              have mf1 := HM5.out.frozen 1
              have mlt := HM5.out.lt
              have HU5 := Lib.hid u5
              have HR5 := Lib.hid hr5
              have HA5 := Lib.hid hA5
              clear u5 hr5 hA5 HCN
              go_upto_region 24 with (fail)
              have hU6 := (((Upd.refl w5 (fun i => i = gm)).set ⟨gm, 0, none⟩ (.int .i64 nw) (.inl rfl)).set ⟨gm, 1, none⟩ (.slice A5 (delT a.id L).length cap5) (.inl rfl) |>.alloc (.cells #[.int .i64 nw, .slice A5 (delT a.id L).length cap5] 30))
              have hW6 := HW.out.put HU5.out HR5.out (fun ad e => HA5.out.elim (fun h => .inl ⟨ad, by rw [← h]; exact e, rfl⟩) (fun h => .inr (h ad e))) hU6 (((HM5.out.set 0 (.int .i64 nw)).set 1 (.slice A5 (delT a.id L).length cap5)).alloc _)
              have hB6 := ((HB5.out.far (p := ⟨gm, 0, none⟩) HGB.out (.int .i64 nw)).far (p := ⟨gm, 1, none⟩) HGB.out (.slice A5 (delT a.id L).length cap5)).alloc (.cells #[.int .i64 nw, .slice A5 (delT a.id L).length cap5] 30)
              clear m0 m1 mf0 mf1 mlt x1 hU6
              generalize ((w5.setCell ⟨gm, 0, none⟩ (.int .i64 nw)).setCell ⟨gm, 1, none⟩ (.slice A5 (delT a.id L).length cap5)).alloc (.cells #[.int .i64 nw, .slice A5 (delT a.id L).length cap5] 30) = w6 at hW6 hB6 ⊢
              have x1 : w6.cell? ⟨gb, 1, none⟩ = some (.int .i64 a.id) := (hB6.cell 1).trans rfl
              have HST := Lib.hid (hW6.own.at_.cancel_ a.id oki)
              have HW6 := Lib.hid hW6
              clear hW6 hB6
              go_wp2_with fail
              refine HST.out.mono ?_
              rintro e w7 ⟨rfl, F7, hA7, hg7⟩
              have HW7 := Lib.hid (HW6.out.wheel hg7 hA7)
              have HL7 := Lib.hid (show (delT a.id L).length ≤ k + 1 from Nat.le_trans delT_le (by omega))
              have hne : ((L.any fun p => decide (p.2 = a.id)) != (L.any fun p => decide (p.2 = a.id))) = false := by simp
              clear hA7 hg7 HST x1
              generalize delT a.id L = L7 at *
              generalize (L.any fun p => decide (p.2 = a.id)) = c7 at *
              generalize A5 = A7 at *
              generalize cap5 = cap7 at *
              have m0 : w7.cell? ⟨gm, 0, none⟩ = some (.int .i64 nw) := (HW7.out.blk.cell 0).trans rfl
              have m1 : w7.cell? ⟨gm, 1, none⟩ = some (.slice A7 L7.length cap7) := (HW7.out.blk.cell 1).trans rfl
              have XM0 := fun (x : UW w7) => x.cell m0
              have XM1 := fun (x : UW w7) => x.cell m1
              have HNO := Lib.hid (fun (x : UW w7) => (HW7.out.nn x.ok).own.at_.now_.mono (fun e w' (h : e = Ending.returned (.int .i64 nw) ∧ w' = x.val) => (⟨h.1, by rw [h.2]; exact Upd.refl _ _⟩ : e = Ending.returned (.int .i64 nw) ∧ Upd x.val w' Nope)))
              have HLE := Lib.hid (fun (x : UW w7) => (HW7.out.nn x.ok).own.at_.len_.mono (fun e w' (h : e = Ending.returned (.int .i64 L7.length) ∧ w' = x.val) => (⟨h.1, by rw [h.2]; exact Upd.refl _ _⟩ : e = Ending.returned (.int .i64 L7.length) ∧ Upd x.val w' Nope)))
              have hnn : (nw != nw) = false := by simp
              have hLZ : L7.length ≤ 1000 := by have := HL7.out; omega
              clear m0 m1
              go_wp2_with fail
              refine region_uw (by kernel_rfl) (by kernel_rfl) ?_
              repeat (first
                | go_big_quiet_skip
                | (go_big_quiet_want; go_big_quiet_op; first | go_big_quiet_on | go_big_quiet_call (first | (go_at_call 18; exact UW.call (HNO.out _)) | (go_at_call 19; exact UW.call (HLE.out _)))))
              refine wpQuiet_nil ?_
              rintro _ ⟨x, rfl⟩
              have HW8 := Lib.hid (HW7.out.nn x.ok)
              clear XM0 XM1 HNO HLE hnn
              generalize x.val = w8 at *
              have hcs : L7 = [] ∨ ∃ d x T, L7 = (d, x) :: T := by
                cases L7 with
                | nil => exact .inl rfl
                | cons p T => exact .inr ⟨p.1, p.2, T, rfl⟩
              rcases hcs with rfl | ⟨d7, x7, T7, rfl⟩
              · as_aux_lemma =>
                have HNX := Lib.hid (show Calls Try.prog 20 #[.pointer (some ⟨g, 0, none⟩)] w8 fun e w' => e = .returned (.tuple #[.int .i64 0, .bool false]) ∧ Upd w8 w' Nope from HW8.out.own.at_.next_)
                go_wp2_with fail
                refine HNX.out.mono ?_
                rintro e w9 ⟨rfl, u9⟩
                have HW9 := Lib.hid (HW8.out.nn u9)
                have m1 : w9.cell? ⟨gm, 1, none⟩ = some (.slice A7 ([] : List (Int × Int)).length cap7) := (HW9.out.blk.cell 1).trans rfl
                clear u9 HNX HW8 HW7
                have hzz : ((0 : Int) != 0) = false := by simp
                go_wp2_with fail
                clear m1 hzz
                generalize hL7 : ([] : List (Int × Int)) = L7 at HW9 HL7 ⊢
                have HLZ := Lib.hid (show L7.length ≤ 1000 by rw [← hL7]; exact hLZ)
                clear hL7 hLZ
                go_loopw [23] (fun i wv => ∃ (j : Nat) (F' : Nat → Prop), j ≤ L7.length ∧ i = .int .i64 j ∧ WP w wv g F' nw L7 gm nw L7 A7 cap7) (fun i _ => L7.length - (intOf i).toNat)
                case atStart => exact ⟨0, _, by omega, rfl, HW9.out⟩
                case round =>
                  clear HW9
                  obtain ⟨j, F9, hj, rfl, hW⟩ := hrel
                  have m1 : World.cell? _ ⟨gm, 1, none⟩ = some (.slice A7 L7.length cap7) := (hW.blk.cell 1).trans rfl
                  have hLZ := HLZ.out
                  have HW := Lib.hid hW
                  clear hW
                  by_cases hjl : j < L7.length
                  · have hrow := HW.out.row.rd
                    obtain ⟨ad7, rfl, _⟩ := hrow j hjl
                    have g0 := hrow.f0 hjl (v := .int .i64 L7[j].2) rfl
                    have hmem : (L7[j].1, L7[j].2) ∈ L7 := List.getElem_mem hjl
                    have hbd := HW.out.own.at_.bnd hmem
                    have hD := HW.out.own.at_.due_ L7[j].2 (okI_of (by omega) (by omega))
                    rw [dueL_some (d := L7[j].1) (fun d' h' => HW.out.own.at_.uniq h' hmem) hmem] at hD
                    have HD := Lib.hid hD
                    clear hrow hmem hbd hD
                    go_wp2_with fail
                    refine HD.out.mono ?_
                    rintro e w10 ⟨rfl, F10, hA10, hg10⟩
                    have HW10 := Lib.hid (HW.out.wheel hg10 hA10)
                    clear hA10 hg10 HD m1 g0
                    have m1 : w10.cell? ⟨gm, 1, none⟩ = some (.slice (some ad7) L7.length cap7) := (HW10.out.blk.cell 1).trans rfl
                    have g1 := HW10.out.row.rd.fs hjl 0 (v := .int .i64 L7[j].1) rfl
                    simp only [Nat.zero_add] at g1
                    have hdd : (L7[j].1 != L7[j].1) = false := by simp
                    go_wp2_with fail
                    go_roundw
                    case rel => exact ⟨j + 1, F10, by omega, by go_num, HW10.out⟩
                    case measure => simp [intOf]; omega
                  · obtain rfl : j = L7.length := by omega
                    clear hLZ
                    go_wp2_with fail
                    go_roundw
                    case rel => exact ⟨k + 1, F9, _, L7, A7, cap7, by omega, by go_num, HW.out, HL7.out⟩
                    case measure => simp [intOf]; omega
              · as_aux_lemma =>
                obtain ⟨ad7, rfl, _⟩ := HW8.out.row.rd 0 (by simp)
                have HNX := Lib.hid (show Calls Try.prog 20 #[.pointer (some ⟨g, 0, none⟩)] w8 fun e w' => e = .returned (.tuple #[.int .i64 d7, .bool true]) ∧ Upd w8 w' Nope from HW8.out.own.at_.next_)
                go_wp2_with fail
                refine HNX.out.mono ?_
                rintro e w9 ⟨rfl, u9⟩
                have HW9 := Lib.hid (HW8.out.nn u9)
                have m1 : w9.cell? ⟨gm, 1, none⟩ = some (.slice (some ad7) ((d7, x7) :: T7).length cap7) := (HW9.out.blk.cell 1).trans rfl
                clear u9 HNX HW8 HW7
                have g1 : w9.cell? ⟨ad7.block, ad7.off + 1, none⟩ = some (.int .i64 d7) := by
                  have := HW9.out.row.rd.fs (i := 0) (by simp) 0 (v := .int .i64 d7) rfl
                  simpa [Addr.add] using this
                have hdd : (d7 != d7) = false := by simp
                go_wp2_with fail
                clear m1 g1 hdd
                generalize hL7 : ((d7, x7) :: T7) = L7 at HW9 HL7 ⊢
                have HLZ := Lib.hid (show L7.length ≤ 1000 by rw [← hL7]; exact hLZ)
                clear hL7 hLZ
                go_loopw [23] (fun i wv => ∃ (j : Nat) (F' : Nat → Prop), j ≤ L7.length ∧ i = .int .i64 j ∧ WP w wv g F' nw L7 gm nw L7 (some ad7) cap7) (fun i _ => L7.length - (intOf i).toNat)
                case atStart => exact ⟨0, _, by omega, rfl, HW9.out⟩
                case round =>
                  clear HW9
                  obtain ⟨j, F9, hj, rfl, hW⟩ := hrel
                  have m1 : World.cell? _ ⟨gm, 1, none⟩ = some (.slice (some ad7) L7.length cap7) := (hW.blk.cell 1).trans rfl
                  have hLZ := HLZ.out
                  have HW := Lib.hid hW
                  clear hW
                  by_cases hjl : j < L7.length
                  · have hrow := HW.out.row.rd
                    have g0 := hrow.f0 hjl (v := .int .i64 L7[j].2) rfl
                    have hmem : (L7[j].1, L7[j].2) ∈ L7 := List.getElem_mem hjl
                    have hbd := HW.out.own.at_.bnd hmem
                    have hD := HW.out.own.at_.due_ L7[j].2 (okI_of (by omega) (by omega))
                    rw [dueL_some (d := L7[j].1) (fun d' h' => HW.out.own.at_.uniq h' hmem) hmem] at hD
                    have HD := Lib.hid hD
                    clear hrow hmem hbd hD
                    go_wp2_with fail
                    refine HD.out.mono ?_
                    rintro e w10 ⟨rfl, F10, hA10, hg10⟩
                    have HW10 := Lib.hid (HW.out.wheel hg10 hA10)
                    clear hA10 hg10 HD m1 g0
                    have m1 : w10.cell? ⟨gm, 1, none⟩ = some (.slice (some ad7) L7.length cap7) := (HW10.out.blk.cell 1).trans rfl
                    have g1 := HW10.out.row.rd.fs hjl 0 (v := .int .i64 L7[j].1) rfl
                    simp only [Nat.zero_add] at g1
                    have hdd : (L7[j].1 != L7[j].1) = false := by simp
                    go_wp2_with fail
                    go_roundw
                    case rel => exact ⟨j + 1, F10, by omega, by go_num, HW10.out⟩
                    case measure => simp [intOf]; omega
                  · obtain rfl : j = L7.length := by omega
                    clear hLZ
                    go_wp2_with fail
                    go_roundw
                    case rel => exact ⟨k + 1, F9, _, L7, (some ad7), cap7, by omega, by go_num, HW.out, HL7.out⟩
                    case measure => simp [intOf]; omega
            · have t1 : (a.k == 1) = false := by simpa using k1
              clear k1
              by_cases k2 : a.k = 2
              · have t2 : (a.k == 2) = true := by simpa using k2
                clear k2
                go_upto_region 27 with (fail)
                generalize wr.alloc (.cells #[.int .i64 a.k, .int .i64 a.id, .int .i64 a.n, .int .i64 a.b] 32) = w4 at HB HW ⊢
                generalize wr.heap.size = gb at HB HGF HGB ⊢
                clear c0 c1 c2 c3
                clear t0 t1 t2
                have x2 : w4.cell? ⟨gb, 2, none⟩ = some (.int .i64 a.n) := (HB.out.cell 2).trans rfl
                have x3 : w4.cell? ⟨gb, 3, none⟩ = some (.int .i64 a.b) := (HB.out.cell 3).trans rfl
                have m0 : w4.cell? ⟨gm, 0, none⟩ = some (.int .i64 nw) := (HW.out.blk.cell 0).trans rfl
                have m1 : w4.cell? ⟨gm, 1, none⟩ = some (.slice A1 L.length cap1) := (HW.out.blk.cell 1).trans rfl
                have HTG := Lib.hid (target_any nw a.n w4 HN0.out.1 HN0.out.2)
                go_wp2_with fail
                refine HTG.out.mono ?_
                rintro e w5 ⟨rfl, hw5⟩
                obtain rfl : w4 = w5 := hw5.symm
                clear HTG
                have hRR : (∃ f n7 L7, advR nw L (targetR nw a.n) a.b = ⟨f, n7, 0, n7, L7⟩) ∨ advR nw L (targetR nw a.n) a.b = ⟨[], 0, 1, nw, L⟩ := by
                  unfold advR
                  cases advOk nw (targetR nw a.n) a.b with
                  | true => exact .inl ⟨_, _, _, rfl⟩
                  | false => exact .inr rfl
                rcases hRR with ⟨f, n7, L7, hR⟩ | hR
                · have HC2 := Lib.hid (HW.out.own.at_.adv_ (by omega) (targetR nw a.n) a.b)
                  have HR2 := Lib.hid hR
                  have HSB := Lib.hid (advR_sub nw (targetR nw a.n) a.b L)
                  have HFL := Lib.hid (fired_len nw (targetR nw a.n) a.b L HSR.out HW.out.own.at_.gt)
                  rw [hR] at HC2 HSB HFL
                  clear hR
                  simp only at HC2 HSB HFL
                  go_wp2_with fail
                  refine HC2.out.mono ?_
                  rintro e w7 ⟨A7, cap7, F7, rfl, hr7, hA7, hg7, hd7⟩
                  have HB7 := Lib.hid (HB.out.upd hg7.upd HGF.out)
                  have HW7 := Lib.hid (HW.out.wheel hg7 hA7)
                  have HR7 := Lib.hid hr7
                  have HD7 := Lib.hid hd7
                  have HG7 := Lib.hid hg7.upd.size
                  clear hr7 hA7 hg7 hd7 x2 x3 m0 m1 HC2
                  have HCF := Lib.hid (advF_any w7 nw (targetR nw a.n) a.b A1 cap1 L HW7.out.row (by omega) HSR.out)
                  have x3 : w7.cell? ⟨gb, 3, none⟩ = some (.int .i64 a.b) := (HB7.out.cell 3).trans rfl
                  have m0 : w7.cell? ⟨gm, 0, none⟩ = some (.int .i64 nw) := (HW7.out.blk.cell 0).trans rfl
                  have m1 : w7.cell? ⟨gm, 1, none⟩ = some (.slice A1 L.length cap1) := (HW7.out.blk.cell 1).trans rfl
                  go_wp2_with fail
                  refine HCF.out.mono ?_
                  rintro e w8 hAF
                  unfold AdvF at hAF
                  rw [HR2.out] at hAF
                  simp only at hAF
                  obtain ⟨A8, cap8, B8, capb8, rfl, hr8, hrd8, hu8, hA8, hB8⟩ := hAF
                  have HB8 := Lib.hid (HB7.out.upd hu8 (fun h => h))
                  have HM8 := Lib.hid (HW7.out.blk.upd hu8 (fun h => h))
                  clear m0 m1 x3
                  have m0 : w8.cell? ⟨gm, 0, none⟩ = some (.int .i64 nw) := (HM8.out.cell 0).trans rfl
                  have m1 : w8.cell? ⟨gm, 1, none⟩ = some (.slice A1 L.length cap1) := (HM8.out.cell 1).trans rfl
                  have mf0 := HM8.out.frozen 0
                  have mf1 := HM8.out.frozen 1
                  have mlt := HM8.out.lt
                  have HU8 := Lib.hid hu8
                  have HR8 := Lib.hid hr8
                  have HRD8 := Lib.hid hrd8
                  have HA8 := Lib.hid hA8
                  have HO8 := Lib.hid hB8
                  clear hr8 hrd8 hu8 hA8 hB8 HCF
                  go_upto_region 31 with (fail)
                  have hU6 := (((Upd.refl w8 (fun i => i = gm)).set ⟨gm, 0, none⟩ (.int .i64 n7) (.inl rfl)).set ⟨gm, 1, none⟩ (.slice A8 L7.length cap8) (.inl rfl) |>.alloc (.cells #[.int .i64 n7, .slice A8 L7.length cap8] 30))
                  have hW6 := HW7.out.put HU8.out HR8.out (fun ad e => .inl (HA8.out ad e)) hU6 (((HM8.out.set 0 (.int .i64 n7)).set 1 (.slice A8 L7.length cap8)).alloc _)
                  have hB6 := ((HB8.out.far (p := ⟨gm, 0, none⟩) HGB.out (.int .i64 n7)).far (p := ⟨gm, 1, none⟩) HGB.out (.slice A8 L7.length cap8)).alloc (.cells #[.int .i64 n7, .slice A8 L7.length cap8] 30)
                  clear m0 m1 mf0 mf1 mlt
                  generalize ((w8.setCell ⟨gm, 0, none⟩ (.int .i64 n7)).setCell ⟨gm, 1, none⟩ (.slice A8 L7.length cap8)).alloc (.cells #[.int .i64 n7, .slice A8 L7.length cap8] 30) = w9 at hU6 hW6 hB6 ⊢
                  have hra : Rd1 (Value.int .i64) w9 A7 f := rd1_away (rd1_away HR7.out HU8.out (fun ad e h => h)) hU6 (fun ad e h => by have h1 := (HD7.out ad e).1; have h2 := HW.out.blk.lt; omega)
                  have hrb : Rd1 (Value.int .i64) w9 B8 f := rd1_away HRD8.out hU6 (fun ad e h => by have h1 := HO8.out ad e; have h2 := HW7.out.blk.lt; omega)
                  have hS := same_any (ca := cap7) (cb := capb8) hra hrb (by have := HFL.out; omega)
                  simp only [decide_true] at hS
                  have HS := Lib.hid hS
                  have HW6 := Lib.hid hW6
                  clear hS hra hrb hU6 hW6 hB6
                  go_wp2_with fail
                  refine HS.out.mono ?_
                  rintro e w10 ⟨rfl, u10⟩
                  have HWX := Lib.hid (HW6.out.nn u10)
                  have m0 : w10.cell? ⟨gm, 0, none⟩ = some (.int .i64 n7) := (HWX.out.blk.cell 0).trans rfl
                  have hnn : (n7 != n7) = false := by simp
                  have HLX := Lib.hid (show L7.length ≤ k + 1 by have := HSB.out.length_le; omega)
                  clear u10 HS HW6
                  go_upto_region 33 with (fail)
                  clear m0 hnn
                  clear HW7
                  have HW7 := HWX
                  have HL7 := HLX
                  clear HWX HLX
                  generalize w10 = wt at *
                  generalize A8 = At at *
                  generalize cap8 = capt at *
                  have m0 : wt.cell? ⟨gm, 0, none⟩ = some (.int .i64 n7) := (HW7.out.blk.cell 0).trans rfl
                  have m1 : wt.cell? ⟨gm, 1, none⟩ = some (.slice At L7.length capt) := (HW7.out.blk.cell 1).trans rfl
                  have XM0 := fun (x : UW wt) => x.cell m0
                  have XM1 := fun (x : UW wt) => x.cell m1
                  have HNO := Lib.hid (fun (x : UW wt) => (HW7.out.nn x.ok).own.at_.now_.mono (fun e w' (h : e = Ending.returned (.int .i64 n7) ∧ w' = x.val) => (⟨h.1, by rw [h.2]; exact Upd.refl _ _⟩ : e = Ending.returned (.int .i64 n7) ∧ Upd x.val w' Nope)))
                  have HLE := Lib.hid (fun (x : UW wt) => (HW7.out.nn x.ok).own.at_.len_.mono (fun e w' (h : e = Ending.returned (.int .i64 L7.length) ∧ w' = x.val) => (⟨h.1, by rw [h.2]; exact Upd.refl _ _⟩ : e = Ending.returned (.int .i64 L7.length) ∧ Upd x.val w' Nope)))
                  have hnn : (n7 != n7) = false := by simp
                  have hLZ : L7.length ≤ 1000 := by have := HL7.out; omega
                  clear m0 m1
                  refine region_uw (by kernel_rfl) (by kernel_rfl) ?_
                  repeat (first
                    | go_big_quiet_skip
                    | (go_big_quiet_want; go_big_quiet_op; first | go_big_quiet_on | go_big_quiet_call (first | (go_at_call 18; exact UW.call (HNO.out _)) | (go_at_call 19; exact UW.call (HLE.out _)))))
                  refine wpQuiet_nil ?_
                  rintro _ ⟨x, rfl⟩
                  have HW8 := Lib.hid (HW7.out.nn x.ok)
                  clear XM0 XM1 HNO HLE hnn
                  generalize x.val = w8 at *
                  have hcs : L7 = [] ∨ ∃ d x T, L7 = (d, x) :: T := by
                    cases L7 with
                    | nil => exact .inl rfl
                    | cons p T => exact .inr ⟨p.1, p.2, T, rfl⟩
                  rcases hcs with rfl | ⟨d7, x7, T7, rfl⟩
                  · as_aux_lemma =>
                    have HNX := Lib.hid (show Calls Try.prog 20 #[.pointer (some ⟨g, 0, none⟩)] w8 fun e w' => e = .returned (.tuple #[.int .i64 0, .bool false]) ∧ Upd w8 w' Nope from HW8.out.own.at_.next_)
                    go_wp2_with fail
                    refine HNX.out.mono ?_
                    rintro e w9 ⟨rfl, u9⟩
                    have HW9 := Lib.hid (HW8.out.nn u9)
                    have m1 : w9.cell? ⟨gm, 1, none⟩ = some (.slice At ([] : List (Int × Int)).length capt) := (HW9.out.blk.cell 1).trans rfl
                    clear u9 HNX HW8 HW7
                    have hzz : ((0 : Int) != 0) = false := by simp
                    go_wp2_with fail
                    clear m1 hzz
                    generalize hL7 : ([] : List (Int × Int)) = L7 at HW9 HL7 ⊢
                    have HLZ := Lib.hid (show L7.length ≤ 1000 by rw [← hL7]; exact hLZ)
                    clear hL7 hLZ
                    go_loopw [23] (fun i wv => ∃ (j : Nat) (F' : Nat → Prop), j ≤ L7.length ∧ i = .int .i64 j ∧ WP w wv g F' n7 L7 gm n7 L7 At capt) (fun i _ => L7.length - (intOf i).toNat)
                    case atStart => exact ⟨0, _, by omega, rfl, HW9.out⟩
                    case round =>
                      clear HW9
                      obtain ⟨j, F9, hj, rfl, hW⟩ := hrel
                      have m1 : World.cell? _ ⟨gm, 1, none⟩ = some (.slice At L7.length capt) := (hW.blk.cell 1).trans rfl
                      have hLZ := HLZ.out
                      have HW := Lib.hid hW
                      clear hW
                      by_cases hjl : j < L7.length
                      · have hrow := HW.out.row.rd
                        obtain ⟨ad7, rfl, _⟩ := hrow j hjl
                        have g0 := hrow.f0 hjl (v := .int .i64 L7[j].2) rfl
                        have hmem : (L7[j].1, L7[j].2) ∈ L7 := List.getElem_mem hjl
                        have hbd := HW.out.own.at_.bnd hmem
                        have hD := HW.out.own.at_.due_ L7[j].2 (okI_of (by omega) (by omega))
                        rw [dueL_some (d := L7[j].1) (fun d' h' => HW.out.own.at_.uniq h' hmem) hmem] at hD
                        have HD := Lib.hid hD
                        clear hrow hmem hbd hD
                        go_wp2_with fail
                        refine HD.out.mono ?_
                        rintro e w10 ⟨rfl, F10, hA10, hg10⟩
                        have HW10 := Lib.hid (HW.out.wheel hg10 hA10)
                        clear hA10 hg10 HD m1 g0
                        have m1 : w10.cell? ⟨gm, 1, none⟩ = some (.slice (some ad7) L7.length capt) := (HW10.out.blk.cell 1).trans rfl
                        have g1 := HW10.out.row.rd.fs hjl 0 (v := .int .i64 L7[j].1) rfl
                        simp only [Nat.zero_add] at g1
                        have hdd : (L7[j].1 != L7[j].1) = false := by simp
                        go_wp2_with fail
                        go_roundw
                        case rel => exact ⟨j + 1, F10, by omega, by go_num, HW10.out⟩
                        case measure => simp [intOf]; omega
                      · obtain rfl : j = L7.length := by omega
                        clear hLZ
                        go_wp2_with fail
                        go_roundw
                        case rel => exact ⟨k + 1, F9, _, L7, At, capt, by omega, by go_num, HW.out, HL7.out⟩
                        case measure => simp [intOf]; omega
                  · as_aux_lemma =>
                    obtain ⟨ad7, rfl, _⟩ := HW8.out.row.rd 0 (by simp)
                    have HNX := Lib.hid (show Calls Try.prog 20 #[.pointer (some ⟨g, 0, none⟩)] w8 fun e w' => e = .returned (.tuple #[.int .i64 d7, .bool true]) ∧ Upd w8 w' Nope from HW8.out.own.at_.next_)
                    go_wp2_with fail
                    refine HNX.out.mono ?_
                    rintro e w9 ⟨rfl, u9⟩
                    have HW9 := Lib.hid (HW8.out.nn u9)
                    have m1 : w9.cell? ⟨gm, 1, none⟩ = some (.slice (some ad7) ((d7, x7) :: T7).length capt) := (HW9.out.blk.cell 1).trans rfl
                    clear u9 HNX HW8 HW7
                    have g1 : w9.cell? ⟨ad7.block, ad7.off + 1, none⟩ = some (.int .i64 d7) := by
                      have := HW9.out.row.rd.fs (i := 0) (by simp) 0 (v := .int .i64 d7) rfl
                      simpa [Addr.add] using this
                    have hdd : (d7 != d7) = false := by simp
                    go_wp2_with fail
                    clear m1 g1 hdd
                    generalize hL7 : ((d7, x7) :: T7) = L7 at HW9 HL7 ⊢
                    have HLZ := Lib.hid (show L7.length ≤ 1000 by rw [← hL7]; exact hLZ)
                    clear hL7 hLZ
                    go_loopw [23] (fun i wv => ∃ (j : Nat) (F' : Nat → Prop), j ≤ L7.length ∧ i = .int .i64 j ∧ WP w wv g F' n7 L7 gm n7 L7 (some ad7) capt) (fun i _ => L7.length - (intOf i).toNat)
                    case atStart => exact ⟨0, _, by omega, rfl, HW9.out⟩
                    case round =>
                      clear HW9
                      obtain ⟨j, F9, hj, rfl, hW⟩ := hrel
                      have m1 : World.cell? _ ⟨gm, 1, none⟩ = some (.slice (some ad7) L7.length capt) := (hW.blk.cell 1).trans rfl
                      have hLZ := HLZ.out
                      have HW := Lib.hid hW
                      clear hW
                      by_cases hjl : j < L7.length
                      · have hrow := HW.out.row.rd
                        have g0 := hrow.f0 hjl (v := .int .i64 L7[j].2) rfl
                        have hmem : (L7[j].1, L7[j].2) ∈ L7 := List.getElem_mem hjl
                        have hbd := HW.out.own.at_.bnd hmem
                        have hD := HW.out.own.at_.due_ L7[j].2 (okI_of (by omega) (by omega))
                        rw [dueL_some (d := L7[j].1) (fun d' h' => HW.out.own.at_.uniq h' hmem) hmem] at hD
                        have HD := Lib.hid hD
                        clear hrow hmem hbd hD
                        go_wp2_with fail
                        refine HD.out.mono ?_
                        rintro e w10 ⟨rfl, F10, hA10, hg10⟩
                        have HW10 := Lib.hid (HW.out.wheel hg10 hA10)
                        clear hA10 hg10 HD m1 g0
                        have m1 : w10.cell? ⟨gm, 1, none⟩ = some (.slice (some ad7) L7.length capt) := (HW10.out.blk.cell 1).trans rfl
                        have g1 := HW10.out.row.rd.fs hjl 0 (v := .int .i64 L7[j].1) rfl
                        simp only [Nat.zero_add] at g1
                        have hdd : (L7[j].1 != L7[j].1) = false := by simp
                        go_wp2_with fail
                        go_roundw
                        case rel => exact ⟨j + 1, F10, by omega, by go_num, HW10.out⟩
                        case measure => simp [intOf]; omega
                      · obtain rfl : j = L7.length := by omega
                        clear hLZ
                        go_wp2_with fail
                        go_roundw
                        case rel => exact ⟨k + 1, F9, _, L7, (some ad7), capt, by omega, by go_num, HW.out, HL7.out⟩
                        case measure => simp [intOf]; omega
                · have HC2 := Lib.hid (HW.out.own.at_.adv_ (by omega) (targetR nw a.n) a.b)
                  have HR2 := Lib.hid hR
                  have HSB := Lib.hid (advR_sub nw (targetR nw a.n) a.b L)
                  have HFL := Lib.hid (fired_len nw (targetR nw a.n) a.b L HSR.out HW.out.own.at_.gt)
                  rw [hR] at HC2 HSB HFL
                  clear hR
                  simp only at HC2 HSB HFL
                  go_wp2_with fail
                  refine HC2.out.mono ?_
                  rintro e w7 ⟨A7, cap7, F7, rfl, hr7, hA7, hg7, hd7⟩
                  have HB7 := Lib.hid (HB.out.upd hg7.upd HGF.out)
                  have HW7 := Lib.hid (HW.out.wheel hg7 hA7)
                  have HR7 := Lib.hid hr7
                  have HD7 := Lib.hid hd7
                  have HG7 := Lib.hid hg7.upd.size
                  clear hr7 hA7 hg7 hd7 x2 x3 m0 m1 HC2
                  have HCF := Lib.hid (advF_any w7 nw (targetR nw a.n) a.b A1 cap1 L HW7.out.row (by omega) HSR.out)
                  have x3 : w7.cell? ⟨gb, 3, none⟩ = some (.int .i64 a.b) := (HB7.out.cell 3).trans rfl
                  have m0 : w7.cell? ⟨gm, 0, none⟩ = some (.int .i64 nw) := (HW7.out.blk.cell 0).trans rfl
                  have m1 : w7.cell? ⟨gm, 1, none⟩ = some (.slice A1 L.length cap1) := (HW7.out.blk.cell 1).trans rfl
                  go_wp2_with fail
                  refine HCF.out.mono ?_
                  rintro e w8 hAF
                  unfold AdvF at hAF
                  rw [HR2.out] at hAF
                  simp only at hAF
                  obtain ⟨A8, cap8, B8, capb8, rfl, hr8, hrd8, hu8, hA8, hB8⟩ := hAF
                  have HB8 := Lib.hid (HB7.out.upd hu8 (fun h => h))
                  have HM8 := Lib.hid (HW7.out.blk.upd hu8 (fun h => h))
                  clear m0 m1 x3
                  have m0 : w8.cell? ⟨gm, 0, none⟩ = some (.int .i64 nw) := (HM8.out.cell 0).trans rfl
                  have m1 : w8.cell? ⟨gm, 1, none⟩ = some (.slice A1 L.length cap1) := (HM8.out.cell 1).trans rfl
                  have mf0 := HM8.out.frozen 0
                  have mf1 := HM8.out.frozen 1
                  have mlt := HM8.out.lt
                  have HU8 := Lib.hid hu8
                  have HR8 := Lib.hid hr8
                  have HRD8 := Lib.hid hrd8
                  have HA8 := Lib.hid hA8
                  have HO8 := Lib.hid hB8
                  clear hr8 hrd8 hu8 hA8 hB8 HCF
                  go_upto_region 31 with (fail)
                  have hU6 := (((Upd.refl w8 (fun i => i = gm)).set ⟨gm, 0, none⟩ (.int .i64 nw) (.inl rfl)).set ⟨gm, 1, none⟩ (.slice A8 L.length cap8) (.inl rfl) |>.alloc (.cells #[.int .i64 nw, .slice A8 L.length cap8] 30))
                  have hW6 := HW7.out.put HU8.out HR8.out (fun ad e => .inl (HA8.out ad e)) hU6 (((HM8.out.set 0 (.int .i64 nw)).set 1 (.slice A8 L.length cap8)).alloc _)
                  have hB6 := ((HB8.out.far (p := ⟨gm, 0, none⟩) HGB.out (.int .i64 nw)).far (p := ⟨gm, 1, none⟩) HGB.out (.slice A8 L.length cap8)).alloc (.cells #[.int .i64 nw, .slice A8 L.length cap8] 30)
                  clear m0 m1 mf0 mf1 mlt
                  generalize ((w8.setCell ⟨gm, 0, none⟩ (.int .i64 nw)).setCell ⟨gm, 1, none⟩ (.slice A8 L.length cap8)).alloc (.cells #[.int .i64 nw, .slice A8 L.length cap8] 30) = w9 at hU6 hW6 hB6 ⊢
                  have hra : Rd1 (Value.int .i64) w9 A7 [] := rd1_away (rd1_away HR7.out HU8.out (fun ad e h => h)) hU6 (fun ad e h => by have h1 := (HD7.out ad e).1; have h2 := HW.out.blk.lt; omega)
                  have hrb : Rd1 (Value.int .i64) w9 B8 [] := rd1_away HRD8.out hU6 (fun ad e h => by have h1 := HO8.out ad e; have h2 := HW7.out.blk.lt; omega)
                  have hS := same_any (ca := cap7) (cb := capb8) hra hrb (by have := HFL.out; omega)
                  simp only [decide_true] at hS
                  have HS := Lib.hid hS
                  have HW6 := Lib.hid hW6
                  clear hS hra hrb hU6 hW6 hB6
                  go_wp2_with fail
                  refine HS.out.mono ?_
                  rintro e w10 ⟨rfl, u10⟩
                  have HWX := Lib.hid (HW6.out.nn u10)
                  have m0 : w10.cell? ⟨gm, 0, none⟩ = some (.int .i64 nw) := (HWX.out.blk.cell 0).trans rfl
                  have hnn : (nw != nw) = false := by simp
                  have HLX := Lib.hid (show L.length ≤ k + 1 by have := HSB.out.length_le; omega)
                  clear u10 HS HW6
                  go_upto_region 33 with (fail)
                  clear m0 hnn
                  clear HW7
                  have HW7 := HWX
                  have HL7 := HLX
                  clear HWX HLX
                  generalize w10 = wt at *
                  generalize A8 = At at *
                  generalize cap8 = capt at *
                  have m0 : wt.cell? ⟨gm, 0, none⟩ = some (.int .i64 nw) := (HW7.out.blk.cell 0).trans rfl
                  have m1 : wt.cell? ⟨gm, 1, none⟩ = some (.slice At L.length capt) := (HW7.out.blk.cell 1).trans rfl
                  have XM0 := fun (x : UW wt) => x.cell m0
                  have XM1 := fun (x : UW wt) => x.cell m1
                  have HNO := Lib.hid (fun (x : UW wt) => (HW7.out.nn x.ok).own.at_.now_.mono (fun e w' (h : e = Ending.returned (.int .i64 nw) ∧ w' = x.val) => (⟨h.1, by rw [h.2]; exact Upd.refl _ _⟩ : e = Ending.returned (.int .i64 nw) ∧ Upd x.val w' Nope)))
                  have HLE := Lib.hid (fun (x : UW wt) => (HW7.out.nn x.ok).own.at_.len_.mono (fun e w' (h : e = Ending.returned (.int .i64 L.length) ∧ w' = x.val) => (⟨h.1, by rw [h.2]; exact Upd.refl _ _⟩ : e = Ending.returned (.int .i64 L.length) ∧ Upd x.val w' Nope)))
                  have hnn : (nw != nw) = false := by simp
                  have hLZ : L.length ≤ 1000 := by have := HL7.out; omega
                  clear m0 m1
                  refine region_uw (by kernel_rfl) (by kernel_rfl) ?_
                  repeat (first
                    | go_big_quiet_skip
                    | (go_big_quiet_want; go_big_quiet_op; first | go_big_quiet_on | go_big_quiet_call (first | (go_at_call 18; exact UW.call (HNO.out _)) | (go_at_call 19; exact UW.call (HLE.out _)))))
                  refine wpQuiet_nil ?_
                  rintro _ ⟨x, rfl⟩
                  have HW8 := Lib.hid (HW7.out.nn x.ok)
                  clear XM0 XM1 HNO HLE hnn
                  generalize x.val = w8 at *
                  have hcs : L = [] ∨ ∃ d x T, L = (d, x) :: T := by
                    cases L with
                    | nil => exact .inl rfl
                    | cons p T => exact .inr ⟨p.1, p.2, T, rfl⟩
                  rcases hcs with rfl | ⟨d7, x7, T7, rfl⟩
                  · as_aux_lemma =>
                    have HNX := Lib.hid (show Calls Try.prog 20 #[.pointer (some ⟨g, 0, none⟩)] w8 fun e w' => e = .returned (.tuple #[.int .i64 0, .bool false]) ∧ Upd w8 w' Nope from HW8.out.own.at_.next_)
                    go_wp2_with fail
                    refine HNX.out.mono ?_
                    rintro e w9 ⟨rfl, u9⟩
                    have HW9 := Lib.hid (HW8.out.nn u9)
                    have m1 : w9.cell? ⟨gm, 1, none⟩ = some (.slice At ([] : List (Int × Int)).length capt) := (HW9.out.blk.cell 1).trans rfl
                    clear u9 HNX HW8 HW7
                    have hzz : ((0 : Int) != 0) = false := by simp
                    go_wp2_with fail
                    clear m1 hzz
                    generalize hL7 : ([] : List (Int × Int)) = L at HW9 HL7 ⊢
                    have HLZ := Lib.hid (show L.length ≤ 1000 by rw [← hL7]; exact hLZ)
                    clear hL7 hLZ
                    go_loopw [23] (fun i wv => ∃ (j : Nat) (F' : Nat → Prop), j ≤ L.length ∧ i = .int .i64 j ∧ WP w wv g F' nw L gm nw L At capt) (fun i _ => L.length - (intOf i).toNat)
                    case atStart => exact ⟨0, _, by omega, rfl, HW9.out⟩
                    case round =>
                      clear HW9
                      obtain ⟨j, F9, hj, rfl, hW⟩ := hrel
                      have m1 : World.cell? _ ⟨gm, 1, none⟩ = some (.slice At L.length capt) := (hW.blk.cell 1).trans rfl
                      have hLZ := HLZ.out
                      have HW := Lib.hid hW
                      clear hW
                      by_cases hjl : j < L.length
                      · have hrow := HW.out.row.rd
                        obtain ⟨ad7, rfl, _⟩ := hrow j hjl
                        have g0 := hrow.f0 hjl (v := .int .i64 L[j].2) rfl
                        have hmem : (L[j].1, L[j].2) ∈ L := List.getElem_mem hjl
                        have hbd := HW.out.own.at_.bnd hmem
                        have hD := HW.out.own.at_.due_ L[j].2 (okI_of (by omega) (by omega))
                        rw [dueL_some (d := L[j].1) (fun d' h' => HW.out.own.at_.uniq h' hmem) hmem] at hD
                        have HD := Lib.hid hD
                        clear hrow hmem hbd hD
                        go_wp2_with fail
                        refine HD.out.mono ?_
                        rintro e w10 ⟨rfl, F10, hA10, hg10⟩
                        have HW10 := Lib.hid (HW.out.wheel hg10 hA10)
                        clear hA10 hg10 HD m1 g0
                        have m1 : w10.cell? ⟨gm, 1, none⟩ = some (.slice (some ad7) L.length capt) := (HW10.out.blk.cell 1).trans rfl
                        have g1 := HW10.out.row.rd.fs hjl 0 (v := .int .i64 L[j].1) rfl
                        simp only [Nat.zero_add] at g1
                        have hdd : (L[j].1 != L[j].1) = false := by simp
                        go_wp2_with fail
                        go_roundw
                        case rel => exact ⟨j + 1, F10, by omega, by go_num, HW10.out⟩
                        case measure => simp [intOf]; omega
                      · obtain rfl : j = L.length := by omega
                        clear hLZ
                        go_wp2_with fail
                        go_roundw
                        case rel => exact ⟨k + 1, F9, _, L, At, capt, by omega, by go_num, HW.out, HL7.out⟩
                        case measure => simp [intOf]; omega
                  · as_aux_lemma =>
                    obtain ⟨ad7, rfl, _⟩ := HW8.out.row.rd 0 (by simp)
                    have HNX := Lib.hid (show Calls Try.prog 20 #[.pointer (some ⟨g, 0, none⟩)] w8 fun e w' => e = .returned (.tuple #[.int .i64 d7, .bool true]) ∧ Upd w8 w' Nope from HW8.out.own.at_.next_)
                    go_wp2_with fail
                    refine HNX.out.mono ?_
                    rintro e w9 ⟨rfl, u9⟩
                    have HW9 := Lib.hid (HW8.out.nn u9)
                    have m1 : w9.cell? ⟨gm, 1, none⟩ = some (.slice (some ad7) ((d7, x7) :: T7).length capt) := (HW9.out.blk.cell 1).trans rfl
                    clear u9 HNX HW8 HW7
                    have g1 : w9.cell? ⟨ad7.block, ad7.off + 1, none⟩ = some (.int .i64 d7) := by
                      have := HW9.out.row.rd.fs (i := 0) (by simp) 0 (v := .int .i64 d7) rfl
                      simpa [Addr.add] using this
                    have hdd : (d7 != d7) = false := by simp
                    go_wp2_with fail
                    clear m1 g1 hdd
                    generalize hL7 : ((d7, x7) :: T7) = L at HW9 HL7 ⊢
                    have HLZ := Lib.hid (show L.length ≤ 1000 by rw [← hL7]; exact hLZ)
                    clear hL7 hLZ
                    go_loopw [23] (fun i wv => ∃ (j : Nat) (F' : Nat → Prop), j ≤ L.length ∧ i = .int .i64 j ∧ WP w wv g F' nw L gm nw L (some ad7) capt) (fun i _ => L.length - (intOf i).toNat)
                    case atStart => exact ⟨0, _, by omega, rfl, HW9.out⟩
                    case round =>
                      clear HW9
                      obtain ⟨j, F9, hj, rfl, hW⟩ := hrel
                      have m1 : World.cell? _ ⟨gm, 1, none⟩ = some (.slice (some ad7) L.length capt) := (hW.blk.cell 1).trans rfl
                      have hLZ := HLZ.out
                      have HW := Lib.hid hW
                      clear hW
                      by_cases hjl : j < L.length
                      · have hrow := HW.out.row.rd
                        have g0 := hrow.f0 hjl (v := .int .i64 L[j].2) rfl
                        have hmem : (L[j].1, L[j].2) ∈ L := List.getElem_mem hjl
                        have hbd := HW.out.own.at_.bnd hmem
                        have hD := HW.out.own.at_.due_ L[j].2 (okI_of (by omega) (by omega))
                        rw [dueL_some (d := L[j].1) (fun d' h' => HW.out.own.at_.uniq h' hmem) hmem] at hD
                        have HD := Lib.hid hD
                        clear hrow hmem hbd hD
                        go_wp2_with fail
                        refine HD.out.mono ?_
                        rintro e w10 ⟨rfl, F10, hA10, hg10⟩
                        have HW10 := Lib.hid (HW.out.wheel hg10 hA10)
                        clear hA10 hg10 HD m1 g0
                        have m1 : w10.cell? ⟨gm, 1, none⟩ = some (.slice (some ad7) L.length capt) := (HW10.out.blk.cell 1).trans rfl
                        have g1 := HW10.out.row.rd.fs hjl 0 (v := .int .i64 L[j].1) rfl
                        simp only [Nat.zero_add] at g1
                        have hdd : (L[j].1 != L[j].1) = false := by simp
                        go_wp2_with fail
                        go_roundw
                        case rel => exact ⟨j + 1, F10, by omega, by go_num, HW10.out⟩
                        case measure => simp [intOf]; omega
                      · obtain rfl : j = L.length := by omega
                        clear hLZ
                        go_wp2_with fail
                        go_roundw
                        case rel => exact ⟨k + 1, F9, _, L, (some ad7), capt, by omega, by go_num, HW.out, HL7.out⟩
                        case measure => simp [intOf]; omega
              · have t2 : (a.k == 2) = false := by simpa using k2
                clear k2
                go_upto_region 33 with (fail)
                generalize wr.alloc (.cells #[.int .i64 a.k, .int .i64 a.id, .int .i64 a.n, .int .i64 a.b] 32) = w4 at HB HW ⊢
                generalize wr.heap.size = gb at HB HGF HGB ⊢
                clear c0 c1 c2 c3 t0 t1 t2
                have HW7 := HW
                have HL7 := Lib.hid (show L.length ≤ k + 1 by omega)
                clear HW
                generalize w4 = w7 at *
                generalize L = L7 at *
                generalize A1 = A7 at *
                generalize cap1 = cap7 at *
                have m0 : w7.cell? ⟨gm, 0, none⟩ = some (.int .i64 nw) := (HW7.out.blk.cell 0).trans rfl
                have m1 : w7.cell? ⟨gm, 1, none⟩ = some (.slice A7 L7.length cap7) := (HW7.out.blk.cell 1).trans rfl
                have XM0 := fun (x : UW w7) => x.cell m0
                have XM1 := fun (x : UW w7) => x.cell m1
                have HNO := Lib.hid (fun (x : UW w7) => (HW7.out.nn x.ok).own.at_.now_.mono (fun e w' (h : e = Ending.returned (.int .i64 nw) ∧ w' = x.val) => (⟨h.1, by rw [h.2]; exact Upd.refl _ _⟩ : e = Ending.returned (.int .i64 nw) ∧ Upd x.val w' Nope)))
                have HLE := Lib.hid (fun (x : UW w7) => (HW7.out.nn x.ok).own.at_.len_.mono (fun e w' (h : e = Ending.returned (.int .i64 L7.length) ∧ w' = x.val) => (⟨h.1, by rw [h.2]; exact Upd.refl _ _⟩ : e = Ending.returned (.int .i64 L7.length) ∧ Upd x.val w' Nope)))
                have hnn : (nw != nw) = false := by simp
                have hLZ : L7.length ≤ 1000 := by have := HL7.out; omega
                clear m0 m1
                refine region_uw (by kernel_rfl) (by kernel_rfl) ?_
                repeat (first
                  | go_big_quiet_skip
                  | (go_big_quiet_want; go_big_quiet_op; first | go_big_quiet_on | go_big_quiet_call (first | (go_at_call 18; exact UW.call (HNO.out _)) | (go_at_call 19; exact UW.call (HLE.out _)))))
                refine wpQuiet_nil ?_
                rintro _ ⟨x, rfl⟩
                have HW8 := Lib.hid (HW7.out.nn x.ok)
                clear XM0 XM1 HNO HLE hnn
                generalize x.val = w8 at *
                have hcs : L7 = [] ∨ ∃ d x T, L7 = (d, x) :: T := by
                  cases L7 with
                  | nil => exact .inl rfl
                  | cons p T => exact .inr ⟨p.1, p.2, T, rfl⟩
                rcases hcs with rfl | ⟨d7, x7, T7, rfl⟩
                · as_aux_lemma =>
                  have HNX := Lib.hid (show Calls Try.prog 20 #[.pointer (some ⟨g, 0, none⟩)] w8 fun e w' => e = .returned (.tuple #[.int .i64 0, .bool false]) ∧ Upd w8 w' Nope from HW8.out.own.at_.next_)
                  go_wp2_with fail
                  refine HNX.out.mono ?_
                  rintro e w9 ⟨rfl, u9⟩
                  have HW9 := Lib.hid (HW8.out.nn u9)
                  have m1 : w9.cell? ⟨gm, 1, none⟩ = some (.slice A7 ([] : List (Int × Int)).length cap7) := (HW9.out.blk.cell 1).trans rfl
                  clear u9 HNX HW8 HW7
                  have hzz : ((0 : Int) != 0) = false := by simp
                  go_wp2_with fail
                  clear m1 hzz
                  generalize hL7 : ([] : List (Int × Int)) = L7 at HW9 HL7 ⊢
                  have HLZ := Lib.hid (show L7.length ≤ 1000 by rw [← hL7]; exact hLZ)
                  clear hL7 hLZ
                  go_loopw [23] (fun i wv => ∃ (j : Nat) (F' : Nat → Prop), j ≤ L7.length ∧ i = .int .i64 j ∧ WP w wv g F' nw L7 gm nw L7 A7 cap7) (fun i _ => L7.length - (intOf i).toNat)
                  case atStart => exact ⟨0, _, by omega, rfl, HW9.out⟩
                  case round =>
                    clear HW9
                    obtain ⟨j, F9, hj, rfl, hW⟩ := hrel
                    have m1 : World.cell? _ ⟨gm, 1, none⟩ = some (.slice A7 L7.length cap7) := (hW.blk.cell 1).trans rfl
                    have hLZ := HLZ.out
                    have HW := Lib.hid hW
                    clear hW
                    by_cases hjl : j < L7.length
                    · have hrow := HW.out.row.rd
                      obtain ⟨ad7, rfl, _⟩ := hrow j hjl
                      have g0 := hrow.f0 hjl (v := .int .i64 L7[j].2) rfl
                      have hmem : (L7[j].1, L7[j].2) ∈ L7 := List.getElem_mem hjl
                      have hbd := HW.out.own.at_.bnd hmem
                      have hD := HW.out.own.at_.due_ L7[j].2 (okI_of (by omega) (by omega))
                      rw [dueL_some (d := L7[j].1) (fun d' h' => HW.out.own.at_.uniq h' hmem) hmem] at hD
                      have HD := Lib.hid hD
                      clear hrow hmem hbd hD
                      go_wp2_with fail
                      refine HD.out.mono ?_
                      rintro e w10 ⟨rfl, F10, hA10, hg10⟩
                      have HW10 := Lib.hid (HW.out.wheel hg10 hA10)
                      clear hA10 hg10 HD m1 g0
                      have m1 : w10.cell? ⟨gm, 1, none⟩ = some (.slice (some ad7) L7.length cap7) := (HW10.out.blk.cell 1).trans rfl
                      have g1 := HW10.out.row.rd.fs hjl 0 (v := .int .i64 L7[j].1) rfl
                      simp only [Nat.zero_add] at g1
                      have hdd : (L7[j].1 != L7[j].1) = false := by simp
                      go_wp2_with fail
                      go_roundw
                      case rel => exact ⟨j + 1, F10, by omega, by go_num, HW10.out⟩
                      case measure => simp [intOf]; omega
                    · obtain rfl : j = L7.length := by omega
                      clear hLZ
                      go_wp2_with fail
                      go_roundw
                      case rel => exact ⟨k + 1, F9, _, L7, A7, cap7, by omega, by go_num, HW.out, HL7.out⟩
                      case measure => simp [intOf]; omega
                · as_aux_lemma =>
                  obtain ⟨ad7, rfl, _⟩ := HW8.out.row.rd 0 (by simp)
                  have HNX := Lib.hid (show Calls Try.prog 20 #[.pointer (some ⟨g, 0, none⟩)] w8 fun e w' => e = .returned (.tuple #[.int .i64 d7, .bool true]) ∧ Upd w8 w' Nope from HW8.out.own.at_.next_)
                  go_wp2_with fail
                  refine HNX.out.mono ?_
                  rintro e w9 ⟨rfl, u9⟩
                  have HW9 := Lib.hid (HW8.out.nn u9)
                  have m1 : w9.cell? ⟨gm, 1, none⟩ = some (.slice (some ad7) ((d7, x7) :: T7).length cap7) := (HW9.out.blk.cell 1).trans rfl
                  clear u9 HNX HW8 HW7
                  have g1 : w9.cell? ⟨ad7.block, ad7.off + 1, none⟩ = some (.int .i64 d7) := by
                    have := HW9.out.row.rd.fs (i := 0) (by simp) 0 (v := .int .i64 d7) rfl
                    simpa [Addr.add] using this
                  have hdd : (d7 != d7) = false := by simp
                  go_wp2_with fail
                  clear m1 g1 hdd
                  generalize hL7 : ((d7, x7) :: T7) = L7 at HW9 HL7 ⊢
                  have HLZ := Lib.hid (show L7.length ≤ 1000 by rw [← hL7]; exact hLZ)
                  clear hL7 hLZ
                  go_loopw [23] (fun i wv => ∃ (j : Nat) (F' : Nat → Prop), j ≤ L7.length ∧ i = .int .i64 j ∧ WP w wv g F' nw L7 gm nw L7 (some ad7) cap7) (fun i _ => L7.length - (intOf i).toNat)
                  case atStart => exact ⟨0, _, by omega, rfl, HW9.out⟩
                  case round =>
                    clear HW9
                    obtain ⟨j, F9, hj, rfl, hW⟩ := hrel
                    have m1 : World.cell? _ ⟨gm, 1, none⟩ = some (.slice (some ad7) L7.length cap7) := (hW.blk.cell 1).trans rfl
                    have hLZ := HLZ.out
                    have HW := Lib.hid hW
                    clear hW
                    by_cases hjl : j < L7.length
                    · have hrow := HW.out.row.rd
                      have g0 := hrow.f0 hjl (v := .int .i64 L7[j].2) rfl
                      have hmem : (L7[j].1, L7[j].2) ∈ L7 := List.getElem_mem hjl
                      have hbd := HW.out.own.at_.bnd hmem
                      have hD := HW.out.own.at_.due_ L7[j].2 (okI_of (by omega) (by omega))
                      rw [dueL_some (d := L7[j].1) (fun d' h' => HW.out.own.at_.uniq h' hmem) hmem] at hD
                      have HD := Lib.hid hD
                      clear hrow hmem hbd hD
                      go_wp2_with fail
                      refine HD.out.mono ?_
                      rintro e w10 ⟨rfl, F10, hA10, hg10⟩
                      have HW10 := Lib.hid (HW.out.wheel hg10 hA10)
                      clear hA10 hg10 HD m1 g0
                      have m1 : w10.cell? ⟨gm, 1, none⟩ = some (.slice (some ad7) L7.length cap7) := (HW10.out.blk.cell 1).trans rfl
                      have g1 := HW10.out.row.rd.fs hjl 0 (v := .int .i64 L7[j].1) rfl
                      simp only [Nat.zero_add] at g1
                      have hdd : (L7[j].1 != L7[j].1) = false := by simp
                      go_wp2_with fail
                      go_roundw
                      case rel => exact ⟨j + 1, F10, by omega, by go_num, HW10.out⟩
                      case measure => simp [intOf]; omega
                    · obtain rfl : j = L7.length := by omega
                      clear hLZ
                      go_wp2_with fail
                      go_roundw
                      case rel => exact ⟨k + 1, F9, _, L7, (some ad7), cap7, by omega, by go_num, HW.out, HL7.out⟩
                      case measure => simp [intOf]; omega
        · obtain rfl : k = l.length := by omega
          have HU := Lib.hid hW.own.upd
          clear hW
          go_wp2_with fail
          go_returns
          exact ⟨rfl, HU.out⟩
    · have hok : newOk now = false := by simp [newOk]; omega
      have hx0 := hx0 hok
      subst hx0
      have HU2 := Lib.hid u2
      have dd : decide (now < 0) = true ∨ (decide (now < 0) = false ∧ decide (1099511627776 < now) = true) := by simp; omega
      clear u2 hx hin hok
      rcases dd with d3 | ⟨d3, d4⟩
      all_goals
        go_wp2_with fail
        go_returns
        exact ⟨rfl, U1.out.nn HU2.out⟩
end Go.Proofs.Ytejelihioendnaa
