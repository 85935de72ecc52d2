/- The law ReadyPlays, walked: it returns true. -/
import Derived.Test.YthpilbooolgkiaaPlp
import Derived.Test.YthpilbooolgkiaaWts
set_option linter.unusedVariables false
set_option linter.unusedSimpArgs false
namespace Go.Proofs.Ythpilbooolgkiaa
open Go.RowKit

theorem sameI_any (l : List Int) {A B : Option Addr} {c c' : Nat} (w : World) (hA : Rd1 (Value.int .i64) w A l) (hB : Rd1 (Value.int .i64) w B l) (hl : l.length ≤ 1000000) :
    Calls Try.prog 20 #[.slice A l.length c, .slice B l.length c'] w fun e w' => e = .returned (.bool true) ∧ Drew w w' := by
  have HA := Lib.hid hA
  have HB := Lib.hid hB
  clear hA hB
  go_enter Try.func20, Try.ntmps20
  go_wp2_with fail
  go_loopw [5] (fun i wr => ∃ k : Nat, k ≤ l.length ∧ i = .int .i64 k ∧ Drew w wr) (fun i _ => l.length - (intOf i).toNat)
  case atStart => exact ⟨0, Nat.zero_le _, rfl, Drew.refl _⟩
  case round =>
    obtain ⟨k, hk, rfl, hdr⟩ := hrel
    by_cases hlt : k < l.length
    · obtain ⟨a1, rfl, hc1⟩ := HA.out k hlt
      obtain ⟨a2, rfl, hc2⟩ := HB.out k hlt
      rw [← hdr.cell] at hc1 hc2
      generalize l[k] = s at hc1 hc2
      have hne : (s != s) = false := by simp
      go_upto_region 6 with fail
      go_big_region
      go_wp2_with fail
      go_roundw
      case rel => exact ⟨k + 1, by omega, by go_num, hdr.drew⟩
      case measure => simp [intOf]; omega
    · obtain rfl : k = l.length := by omega
      go_wp2
      go_ret
      exact ⟨rfl, hdr⟩
/-- The queue and the document's, at gm. -/
structure PR (w wr : World) (g : Nat) (F : Nat → Prop) (age limit room : Int) (L : List En) (fly : List (Int × ByteArray)) (gm : Nat) (A : Option Addr) (ca : Nat) (M : List En) (B : Option Addr) (cb : Nat) (N : List En) : Prop where
  own : OwnR w wr g F age limit room L fly
  mb : Blk wr gm #[.int .i64 age, .int .i64 limit, .int .i64 room, .slice A M.length ca, .slice B N.length cb] 32
  mF : ¬ F gm
  m0 : w.heap.size ≤ gm
  ra : RE wr A ca M
  rb : RE wr B cb N
  aF : ∀ ad, A = some ad → ¬ F ad.block ∧ ad.block ≠ gm
  bF : ∀ ad, B = some ad → ¬ F ad.block ∧ ad.block ≠ gm
section
variable {w wr w' w'' : World} {g gm : Nat} {F F' : Nat → Prop} {age limit room : Int} {L L' M M' N N' : List En} {fly fly' : List (Int × ByteArray)} {A A' B B' : Option Addr} {ca ca' cb cb' : Nat} (h : PR w wr g F age limit room L fly gm A ca M B cb N)
include h
theorem PR.nn (u : Upd wr w' Nope) : PR w w' g F age limit room L fly gm A ca M B cb N := ⟨h.own.nn u, h.mb.upd u (fun h => h), h.mF, h.m0, h.ra.nn u, h.rb.nn u, h.aF, h.bF⟩
theorem PR.queue (hg : Gr wr w' F F') (hr : RO w' g F' age limit room L' fly') : PR w w' g F' age limit room L' fly' gm A ca M B cb N :=
  ⟨h.own.step hg hr, h.mb.upd hg.upd h.mF, fun hf => (hg.new gm hf).elim h.mF (fun k => by have := h.mb.lt; omega), h.m0, h.ra.away hg.upd (fun ad e => (h.aF ad e).1), h.rb.away hg.upd (fun ad e => (h.bF ad e).1),
    fun ad e => ⟨fun hf => (hg.new _ hf).elim (h.aF ad e).1 (fun k => by have := h.ra.lt ad e; omega), (h.aF ad e).2⟩, fun ad e => ⟨fun hf => (hg.new _ hf).elim (h.bF ad e).1 (fun k => by have := h.rb.lt ad e; omega), (h.bF ad e).2⟩⟩
theorem PR.stay (u : Upd wr w' F) (hr : RO w' g F age limit room L' fly') : PR w w' g F age limit room L' fly' gm A ca M B cb N := h.queue ⟨u, fun _ h => .inl h⟩ hr
theorem PR.setM (hq : QR wr w' A B A' B' ca' cb' M' N') (u2 : Upd w' w'' (fun i => i = gm)) (hb : Blk w'' gm #[.int .i64 age, .int .i64 limit, .int .i64 room, .slice A' M'.length ca', .slice B' N'.length cb'] 32) : PR w w'' g F age limit room L fly gm A' ca' M' B' cb' N' := by
  have h1 := h.nn hq.u
  have ha : ∀ ad, A' = some ad → ¬ F ad.block ∧ ad.block ≠ gm := fun ad e => by
    rcases hq.fa with e2 | hf
    · exact h.aF ad (by rw [← e2]; exact e)
    · have := hf ad e
      exact ⟨fun hf => by have := h.own.ro.lt hf; omega, by have := h.mb.lt; omega⟩
  have hbb : ∀ ad, B' = some ad → ¬ F ad.block ∧ ad.block ≠ gm := fun ad e => by
    rcases hq.fb with e2 | hf
    · exact h.bF ad (by rw [← e2]; exact e)
    · have := hf ad e
      exact ⟨fun hf => by have := h.own.ro.lt hf; omega, by have := h.mb.lt; omega⟩
  exact ⟨⟨h1.own.ro.apart u2 (fun i hi e => h.mF (e ▸ hi)), h1.own.fresh, h1.own.upd.on u2 h.m0⟩, hb, h.mF, h.m0, hq.a.away u2 (fun ad e => (ha ad e).2), hq.b.away u2 (fun ad e => (hbb ad e).2), ha, hbb⟩
end
theorem Blk.agg5 {w : World} {q : Nat} {a b c d e : Value} {T : TypeId} (h : Blk w q #[a, b, c, d, e] T) : w.cell? ⟨q, 0, none⟩ = some a ∧ w.cell? ⟨q, 1, none⟩ = some b ∧ w.cell? ⟨q, 2, none⟩ = some c ∧ w.cell? ⟨q, 3, none⟩ = some d ∧ w.cell? ⟨q, 4, none⟩ = some e :=
  ⟨(h.cell 0).trans rfl, (h.cell 1).trans rfl, (h.cell 2).trans rfl, (h.cell 3).trans rfl, (h.cell 4).trans rfl⟩
set_option maxRecDepth 100000 in
set_option maxHeartbeats 40000000 in
theorem readyPlays_any (w : World) (age : Int) (hage : (Lit.int .i64 age).wf = true) (limit : Int) (hlimit : (Lit.int .i64 limit).wf = true) (room : Int) (hroom : (Lit.int .i64 room).wf = true) (A : Option Addr) (cap : Nat) (l : List Ac) (rd : RdA w A l) (hc : l.length ≤ cap) (hm : cap ≤ maxLen) (ok : ∀ y ∈ l, y.ok) :
    Calls Try.prog 3 #[.int .i64 age, .int .i64 limit, .int .i64 room, .slice A l.length cap] w fun e w' => e = .returned (.bool true) ∧ Below w.heap.size w w' := by
  refine Calls.mono (R := fun e w' => e = .returned (.bool true) ∧ Upd w w' Nope) ?_ (fun e w' ⟨h, u⟩ => ⟨h, u.below (fun _ h => h.elim)⟩)
  have HA := Lib.hid (fun w => awake_any w)
  have hlm : l.length ≤ 9223372036854775807 := by unfold maxLen at hm; omega
  have HRD := Lib.hid rd
  have HOK := Lib.hid ok
  clear hage hlimit hroom rd ok hc hm
  go_enter Try.func3, Try.ntmps3
  go_wp2_with fail
  refine (HA.out w).mono ?_
  rintro e w2 ⟨rfl, u2⟩
  have HU := Lib.hid u2
  have HFW := Lib.hid (few_any w2 A cap l (HRD.out.nn u2) hlm HOK.out)
  have HFB := Lib.hid (fun h : fewB l = true => fewB_of h)
  clear u2 HA
  go_wp2_with fail
  refine HFW.out.mono ?_
  rintro e w2b ⟨rfl, hw2⟩
  obtain rfl : w2 = w2b := hw2.symm
  clear HFW
  cases hfb : fewB l with
  | false =>
    clear HFB hfb
    go_wp2_with fail
    go_ret
    exact ⟨rfl, HU.out⟩
  | true =>
    obtain ⟨l60, hsz⟩ := HFB.out hfb
    have HSZ := Lib.hid hsz
    clear HFB hfb hsz
    have HN := Lib.hid (new_any age limit room w2)
    go_wp2_with fail
    refine HN.out.mono ?_
    rintro e w3 ⟨hn0, hn, u3⟩
    have HU3 := Lib.hid (HU.out.nn u3)
    have HRT := Lib.hid (rightF_any w3 age limit room)
    cases hok : okN age limit room with
    | false =>
      obtain rfl := hn0 hok
      rw [hok] at HRT
      clear hn0 hn u3 HN HU hok
      go_wp2_with fail
      refine HRT.out.mono ?_
      rintro e w4 ⟨rfl, u4⟩
      have HU4 := Lib.hid (HU3.out.nn u4)
      clear u4 HRT
      go_wp2_with fail
      go_ret
      exact ⟨rfl, HU4.out⟩
    | true =>
      obtain ⟨g, F, rfl, hro, hf⟩ := hn hok
      rw [hok] at HRT
      have hO : OwnR w w3 g F age limit room [] [] := ⟨hro, fun i hi => by have := hf i hi; have := HU.out.size; omega, HU3.out⟩
      have HO := Lib.hid hO
      obtain ⟨a0, a1, r1⟩ : 1 ≤ age ∧ age ≤ 1048576 ∧ room ≤ 4096 := by simp [okN] at hok; omega
      clear hn0 hn u3 HN HU hok hO hro hf HU3
      go_wp2_with fail
      refine HRT.out.mono ?_
      rintro e w4 ⟨rfl, u4⟩
      have HO4 := Lib.hid (HO.out.nn u4)
      clear u4 HRT HO
      go_upto_region 11 with (fail)
      have HP0 := Lib.hid (show PR w (w4.alloc (.cells #[.int .i64 age, .int .i64 limit, .int .i64 room, .slice none 0 0, .slice none 0 0] 32)) g F age limit room [] [] w4.heap.size none 0 [] none 0 [] from
        ⟨HO4.out.nn ((Upd.refl w4 _).alloc _), Blk.new w4 _ 32, fun hf => Nat.lt_irrefl _ (HO4.out.ro.lt hf), HO4.out.upd.size, RE.empty _, RE.empty _, fun ad e => (by cases e), fun ad e => (by cases e)⟩)
      generalize w4.alloc (.cells #[.int .i64 age, .int .i64 limit, .int .i64 room, .slice none 0 0, .slice none 0 0] 32) = w5 at *
      generalize w4.heap.size = gm at *
      clear HO4
      go_wp2_with fail
      go_loopw [12] (fun i wr => ∃ (k : Nat) (F' : Nat → Prop) (L N : List En) (fly : List (Int × ByteArray)) (A1 B1 : Option Addr) (ca cb : Nat), k ≤ l.length ∧ i = .int .i64 k ∧ PR w wr g F' age limit room L fly gm A1 ca L B1 cb N ∧ PI L fly N ∧ L.length ≤ k ∧ N.length ≤ k) (fun i _ => l.length - (intOf i).toNat)
      case atStart => exact ⟨0, F, [], [], [], none, none, 0, 0, by omega, rfl, HP0.out, PI.nil, by simp, by simp⟩
      case round =>
        clear HP0
        obtain ⟨k, F5, L, N, fly, A1, B1, ca, cb, hk, rfl, hR, hpi, hLk, hNk⟩ := hrel
        have HR := Lib.hid hR
        have HPI := Lib.hid hpi
        have HLK := Lib.hid (And.intro hLk hNk)
        have hL6 : L.length ≤ 60 := by omega
        have hN6 : N.length ≤ 60 := by omega
        clear hR hpi hLk hNk
        by_cases hlt : k < l.length
        · obtain ⟨ad, rfl, _⟩ := HRD.out k hlt
          have hL := HRD.out.nn HR.out.own.upd
          have c0 := hL.f0 hlt (v := .int .i64 l[k].k) rfl
          have c1 := hL.fs hlt 0 (v := .int .i64 l[k].id) rfl
          have c2 := hL.fs hlt 1 (v := .int .i64 l[k].now) rfl
          have c3 := hL.fs hlt 2 (v := .int .i64 l[k].x.id) rfl
          have c4 := hL.fs hlt 3 (v := .string l[k].x.dest) rfl
          have c5 := hL.fs hlt 4 (v := .int .i64 l[k].x.pri) rfl
          have c6 := hL.fs hlt 5 (v := .int .i64 l[k].x.at_) rfl
          simp only [Nat.zero_add, Nat.reduceAdd] at c1 c2 c3 c4 c5 c6
          have hao := HOK.out l[k] (List.getElem_mem hlt)
          have hds := HSZ.out l[k] (List.getElem_mem hlt)
          generalize l[k] = a at c0 c1 c2 c3 c4 c5 c6 hao hds
          have HAO := Lib.hid (And.intro hao hds)
          clear hL hao hds
          go_upto_region 15 with (fail)
          have hu5 : Upd wr (wr.alloc (.cells #[.int .i64 a.k, .int .i64 a.id, .int .i64 a.now, .int .i64 a.x.id, .string a.x.dest, .int .i64 a.x.pri, .int .i64 a.x.at_] 36)) Nope := (Upd.refl wr _).alloc _
          have HI := Lib.hid (HR.out.nn hu5)
          have HQ := Lib.hid (Blk.new wr #[.int .i64 a.k, .int .i64 a.id, .int .i64 a.now, .int .i64 a.x.id, .string a.x.dest, .int .i64 a.x.pri, .int .i64 a.x.at_] 36)
          have HQF := Lib.hid (show ¬ F5 wr.heap.size ∧ wr.heap.size ≠ gm from ⟨fun hf => Nat.lt_irrefl _ (HR.out.own.ro.lt hf), by have := HR.out.mb.lt; omega⟩)
          clear hu5
          generalize wr.alloc (.cells #[.int .i64 a.k, .int .i64 a.id, .int .i64 a.now, .int .i64 a.x.id, .string a.x.dest, .int .i64 a.x.pri, .int .i64 a.x.at_] 36) = w5 at *
          generalize wr.heap.size = qa at *
          clear HR c0 c1 c2 c3 c4 c5 c6
          have x2 : w5.cell? ⟨qa, 2, none⟩ = some (.int .i64 a.now) := (HQ.out.cell 2).trans rfl
          have hnw : decide (a.now < -2199023255552) = true ∨ (decide (a.now < -2199023255552) = false ∧ decide (2199023255552 < a.now) = true) ∨ (decide (a.now < -2199023255552) = false ∧ decide (2199023255552 < a.now) = false) := by
            cases decide (a.now < -2199023255552) <;> cases decide (2199023255552 < a.now) <;> simp
          rcases hnw with g1 | ⟨g1, g2⟩ | ⟨g1, g2⟩
          iterate 2
            · go_wp2_with fail
              go_roundw
              case rel => exact ⟨k + 1, F5, L, N, fly, A1, B1, ca, cb, by omega, by go_num, HI.out, HPI.out, by have := HLK.out; omega, by have := HLK.out; omega⟩
              case measure => simp [intOf]; omega
          obtain ⟨n0, n1⟩ : -2199023255552 ≤ a.now ∧ a.now ≤ 2199023255552 := by
            simp only [decide_eq_false_iff_not] at g1 g2
            omega
          have x0 : w5.cell? ⟨qa, 0, none⟩ = some (.int .i64 a.k) := (HQ.out.cell 0).trans rfl
          go_upto_region 17 with (fail)
          clear x0 x2 g1 g2
          have hks : (a.k == 0) = true ∨ ((a.k == 0) = false ∧ (a.k == 1) = true) ∨ ((a.k == 0) = false ∧ (a.k == 1) = false ∧ (a.k == 2) = true) ∨ ((a.k == 0) = false ∧ (a.k == 1) = false ∧ (a.k == 2) = false ∧ (a.k == 3) = true) ∨ ((a.k == 0) = false ∧ (a.k == 1) = false ∧ (a.k == 2) = false ∧ (a.k == 3) = false) := by
            cases a.k == 0 <;> cases a.k == 1 <;> cases a.k == 2 <;> cases a.k == 3 <;> simp
          have hlf : fly.length ≤ 60 := by rw [HPI.out.len]; exact hN6
          have HLO := Lib.hid (show ∀ e ∈ L, e.ok from HI.out.own.ro.ok)
          rcases hks with k0 | ⟨k0, k1⟩ | ⟨k0, k1, k2⟩ | ⟨k0, k1, k2, k3⟩ | ⟨k0, k1, k2, k3⟩
          · as_aux_lemma =>
            have hxi : okI a.x.id := HAO.out.1.2.2.2.1
            have y3 : w5.cell? ⟨qa, 3, none⟩ = some (.int .i64 a.x.id) := (HQ.out.cell 3).trans rfl
            have y4 : w5.cell? ⟨qa, 4, none⟩ = some (.string a.x.dest) := (HQ.out.cell 4).trans rfl
            have y5 : w5.cell? ⟨qa, 5, none⟩ = some (.int .i64 a.x.pri) := (HQ.out.cell 5).trans rfl
            have y6 : w5.cell? ⟨qa, 6, none⟩ = some (.int .i64 a.x.at_) := (HQ.out.cell 6).trans rfl
            obtain ⟨x0, x1, x2, x3, x4⟩ := HI.out.mb.agg5
            have HPF := Lib.hid (putF_any w5 age limit room A1 B1 ca cb L N HI.out.ra HI.out.rb (by omega) (by omega) a.x (by have := HAO.out.2; omega))
            rw [← HPI.out.put_, ← HPI.out.putL_] at HPF
            have HPS := Lib.hid (HPI.out.putS room a.x)
            have HLL := Lib.hid (putL_len (room := room) (l := L) (fly := fly) (x := a.x))
            go_wp2_with fail
            refine HPF.out.mono ?_
            rintro e w6 ⟨A6, B6, ca6, cb6, rfl, hq6⟩
            have HQ6 := Lib.hid hq6
            have HM6 := Lib.hid (HI.out.mb.upd hq6.u (fun h => h))
            have HB6 := Lib.hid (HQ.out.upd hq6.u (fun h => h))
            clear x0 x1 x2 x3 x4 y3 y4 y5 y6 hq6 HPF
            have HPT := Lib.hid (fun (w' : World) (h : PR w w' g F5 age limit room L fly gm A6 ca6 (putL room L fly a.x) B6 cb6 N) => h.own.ro.put_ a.x hxi (by have := HAO.out.2; omega) (by omega))
            have hcc : (putC room L fly a.x != putC room L fly a.x) = false := by simp
            unfold PutP at HPT
            generalize putL room L fly a.x = L7 at *
            generalize putC room L fly a.x = c7 at *
            obtain ⟨x0, x1, x2, x3, x4⟩ := HM6.out.agg5
            have f0 := HM6.out.frozen 0
            have f1 := HM6.out.frozen 1
            have f2 := HM6.out.frozen 2
            have f3 := HM6.out.frozen 3
            have f4 := HM6.out.frozen 4
            have lm := HM6.out.lt
            go_upto_region 20 with (fail)
            clear x0 x1 x2 x3 x4 f0 f1 f2 f3 f4 lm
            have hu7 : Upd w6 ((((((w6.setCell ⟨gm, 0, none⟩ (.int .i64 age)).setCell ⟨gm, 1, none⟩ (.int .i64 limit)).setCell ⟨gm, 2, none⟩ (.int .i64 room)).setCell ⟨gm, 3, none⟩ (.slice A6 L7.length ca6)).setCell ⟨gm, 4, none⟩ (.slice B6 N.length cb6)).alloc (.cells #[.int .i64 age, .int .i64 limit, .int .i64 room, .slice A6 L7.length ca6, .slice B6 N.length cb6] 32)) (fun i => i = gm) := ((Upd.put5 w6 gm (.int .i64 age) (.int .i64 limit) (.int .i64 room) (.slice A6 L7.length ca6) (.slice B6 N.length cb6)).alloc (.cells #[.int .i64 age, .int .i64 limit, .int .i64 room, .slice A6 L7.length ca6, .slice B6 N.length cb6] 32))
            have hb7 : Blk ((((((w6.setCell ⟨gm, 0, none⟩ (.int .i64 age)).setCell ⟨gm, 1, none⟩ (.int .i64 limit)).setCell ⟨gm, 2, none⟩ (.int .i64 room)).setCell ⟨gm, 3, none⟩ (.slice A6 L7.length ca6)).setCell ⟨gm, 4, none⟩ (.slice B6 N.length cb6)).alloc (.cells #[.int .i64 age, .int .i64 limit, .int .i64 room, .slice A6 L7.length ca6, .slice B6 N.length cb6] 32)) gm #[.int .i64 age, .int .i64 limit, .int .i64 room, .slice A6 L7.length ca6, .slice B6 N.length cb6] 32 := ((HM6.out.put5 (.int .i64 age) (.int .i64 limit) (.int .i64 room) (.slice A6 L7.length ca6) (.slice B6 N.length cb6)).alloc (.cells #[.int .i64 age, .int .i64 limit, .int .i64 room, .slice A6 L7.length ca6, .slice B6 N.length cb6] 32))
            have hl6 : w6.heap.size = w6.heap.size := rfl
            generalize (((((w6.setCell ⟨gm, 0, none⟩ (.int .i64 age)).setCell ⟨gm, 1, none⟩ (.int .i64 limit)).setCell ⟨gm, 2, none⟩ (.int .i64 room)).setCell ⟨gm, 3, none⟩ (.slice A6 L7.length ca6)).setCell ⟨gm, 4, none⟩ (.slice B6 N.length cb6)).alloc (.cells #[.int .i64 age, .int .i64 limit, .int .i64 room, .slice A6 L7.length ca6, .slice B6 N.length cb6] 32) = w7 at *
            have HI7 := Lib.hid (HI.out.setM HQ6.out hu7 hb7)
            have HQ7 := Lib.hid (HB6.out.upd hu7 (fun e => HQF.out.2 e))
            clear hu7 hb7 hl6
            have y3 : w7.cell? ⟨qa, 3, none⟩ = some (.int .i64 a.x.id) := (HQ7.out.cell 3).trans rfl
            have y4 : w7.cell? ⟨qa, 4, none⟩ = some (.string a.x.dest) := (HQ7.out.cell 4).trans rfl
            have y5 : w7.cell? ⟨qa, 5, none⟩ = some (.int .i64 a.x.pri) := (HQ7.out.cell 5).trans rfl
            have y6 : w7.cell? ⟨qa, 6, none⟩ = some (.int .i64 a.x.at_) := (HQ7.out.cell 6).trans rfl
            go_wp2_with fail
            refine (HPT.out w7 HI7.out).mono ?_
            rintro e w8 ⟨rfl, F8, hro, hg⟩
            have HI8 := Lib.hid (HI7.out.queue hg hro)
            have HQ8 := Lib.hid (HQ7.out.upd hg.upd HQF.out.1)
            clear hro hg HPT y3 y4 y5 y6 HI7 HQ7
            have hle1 : L7.length ≤ k + 1 := by have := HLL.out; have := HLK.out; omega
            have hne1 : N.length ≤ k + 1 := by have := HLK.out; omega
            have HPX := Lib.hid HPS.out
            go_upto_region 38 with (fail)
            have hnl : ((L7.length : Int) != L7.length) = false := by simp
            have X0 := fun z : UW w8 => z.cell (HI8.out.mb.agg5.1)
            have X1 := fun z : UW w8 => z.cell (HI8.out.mb.agg5.2.1)
            have X2 := fun z : UW w8 => z.cell (HI8.out.mb.agg5.2.2.1)
            have X3 := fun z : UW w8 => z.cell (HI8.out.mb.agg5.2.2.2.1)
            have X4 := fun z : UW w8 => z.cell (HI8.out.mb.agg5.2.2.2.2)
            have Y2 := fun z : UW w8 => z.cell ((HQ8.out.cell 2).trans rfl : w8.cell? ⟨qa, 2, none⟩ = some (.int .i64 a.now))
            have Y4 := fun z : UW w8 => z.cell ((HQ8.out.cell 4).trans rfl : w8.cell? ⟨qa, 4, none⟩ = some (.string a.x.dest))
            refine region_seq [([0, 1, 2, 4, 5, 6], 3), ([], 7), ([], 8), ([9, 10, 11, 13, 14, 15], 12), ([16, 17, 18, 19, 20, 21, 22, 24, 25, 26, 27], 23), ([], 28)] [29, 30] (by kernel_rfl) (fun w' => ∃ z : UW w8, w' = z.val) (by kernel_rfl) (fun _ _ d _ _ h => by cases d <;> exact h) ⟨⟨w8.drew, (Upd.refl _ _).drew⟩, rfl⟩ ?_
            simp only [segsAt_cons, segsAt_nil, opsAt_cons, opsAt_nil, List.getElem?_toArray, List.getElem?_cons_zero, List.getElem?_cons_succ, consO_some, pairO_some]
            refine wpS_seg ?_
            repeat (first | go_big_quiet_skip | (go_big_quiet_want; go_big_quiet_op; go_big_quiet_on))
            refine wpQuiet_nil ?_
            have HD0 := Lib.hid (show Upd w8 w8.drew Nope from (Upd.refl _ _).drew)
            generalize w8.drew = wd at *
            have hP := HI8.out.nn HD0.out
            have hid : ((srtK (En.key a.now age) L7).map (·.id)).length ≤ 5000 := by rw [List.length_map, len_srtK]; omega
            have HOR := Lib.hid (hP.own.ro.order_ a.now (by omega) (by omega) (by omega) a0 a1)
            generalize hids : (srtK (En.key a.now age) L7).map (·.id) = ids at *
            have HIDS := Lib.hid hids
            clear hP hids
            go_wp2_with fail
            refine HOR.out.mono ?_
            rintro e we ⟨Ao, co, rfl, hro, ue, _⟩
            have HDE := Lib.hid (HD0.out.nn ue)
            have HRO := Lib.hid hro
            clear hro ue HOR
            go_wp2_with fail
            refine ⟨⟨⟨we, HDE.out⟩, rfl⟩, ?_⟩
            refine wpS_seg ?_
            refine wpQuiet_nil ?_
            have hP := HI8.out.nn HDE.out
            have HOF := Lib.hid (orderF_any we age limit room A6 B6 ca6 cb6 L7 N hP.ra hP.rb (by omega) (by omega) hP.own.ro.ok a.now (by omega) (by omega) a0 a1)
            rw [HIDS.out] at HOF
            clear hP
            go_wp2_with fail
            refine HOF.out.mono ?_
            rintro e wf ⟨Ap, cp, rfl, hrp, uf⟩
            have HDF := Lib.hid (HDE.out.nn uf)
            have HSM := Lib.hid (sameI_any ids (c := co) (c' := cp) wf (HRO.out.upd uf (fun _ h => h.elim)) hrp (by omega))
            clear hrp uf HOF
            go_wp2_with fail
            refine ⟨⟨⟨wf, HDF.out⟩, rfl⟩, ?_⟩
            refine wpS_seg ?_
            refine wpQuiet_nil ?_
            go_wp2_with fail
            refine HSM.out.mono ?_
            rintro e wg ⟨rfl, ug⟩
            have HDG := Lib.hid (HDF.out.dr ug)
            clear ug HSM
            go_wp2_with fail
            refine ⟨⟨⟨wg, HDG.out⟩, rfl⟩, ?_⟩
            refine wpS_seg ?_
            repeat (first | go_big_quiet_skip | (go_big_quiet_want; go_big_quiet_op; go_big_quiet_on))
            refine wpQuiet_nil ?_
            have HLN := Lib.hid ((HI8.out.nn HDG.out).own.ro.len_ (by omega))
            go_wp2_with fail
            refine HLN.out.mono ?_
            rintro e wh ⟨rfl, hwh⟩
            obtain rfl : wg = wh := hwh.symm
            clear HLN
            go_wp2_with fail
            refine ⟨⟨⟨wg, HDG.out⟩, rfl⟩, ?_⟩
            refine wpS_seg ?_
            repeat (first | go_big_quiet_skip | (go_big_quiet_want; go_big_quiet_op; go_big_quiet_on))
            refine wpQuiet_nil ?_
            clear X0 X1 X2 X3 X4 Y2 Y4
            have HF1 := Lib.hid ((HI8.out.nn HDG.out).own.ro.flying_ a.x.dest (by rw [HPX.out.len]; omega))
            rw [HPX.out.cnt] at HF1
            have hcb : cntF a.x.dest N ≤ 5000 := Nat.le_trans (cntF_le _ _) (by omega)
            go_wp2_with fail
            refine HF1.out.mono ?_
            rintro e wi ⟨rfl, ui⟩
            have HDI := Lib.hid (HDG.out.nn ui)
            clear ui HF1
            go_wp2_with fail
            refine ⟨⟨⟨wi, HDI.out⟩, rfl⟩, ?_⟩
            refine wpS_seg ?_
            refine wpQuiet_nil ?_
            have HF2 := Lib.hid (flyF_any wi age limit room A6 B6 L7.length ca6 cb6 N (HI8.out.nn HDI.out).rb (by omega) a.x.dest)
            have hcc : ((cntF a.x.dest N : Int) != cntF a.x.dest N) = false := by simp
            generalize cntF a.x.dest N = cy at *
            go_wp2_with fail
            refine HF2.out.mono ?_
            rintro e wj ⟨rfl, uj⟩
            have HDJ := Lib.hid (HDI.out.nn uj)
            clear uj HF2
            go_wp2_with fail
            refine ⟨⟨⟨wj, HDJ.out⟩, rfl⟩, ?_⟩
            refine wpS_last ?_
            repeat (first | go_big_quiet_skip | (go_big_quiet_want; go_big_quiet_op; go_big_quiet_on))
            refine wpQuiet_nil ?_
            go_wp2_with fail
            go_roundw
            case rel => exact ⟨k + 1, F8, L7, N, fly, A6, B6, ca6, cb6, by omega, by go_num, HI8.out.nn HDJ.out, HPX.out, hle1, hne1⟩
            case measure => simp [intOf]; omega
          · as_aux_lemma =>
            have y2 : w5.cell? ⟨qa, 2, none⟩ = some (.int .i64 a.now) := (HQ.out.cell 2).trans rfl
            obtain ⟨x0, x1, x2, x3, x4⟩ := HI.out.mb.agg5
            have HPF := Lib.hid (takeF_any w5 age limit room A1 B1 ca cb L N HI.out.ra HI.out.rb (by omega) (by omega) HLO.out HPI.out.ndL a.now n0 n1 a0 a1)
            go_wp2_with fail
            refine HPF.out.mono ?_
            rintro e w6 ⟨hn, hs⟩
            clear x0 x1 x2 x3 x4 y2 HPF
            have hcase : takeR a.now age limit L fly = none ∨ ∃ x, takeR a.now age limit L fly = some x := by
              cases takeR a.now age limit L fly with
              | none => exact .inl rfl
              | some x => exact .inr ⟨x, rfl⟩
            rcases hcase with htk | ⟨x, htk⟩
            · as_aux_lemma =>
              obtain ⟨A6, B6, ca6, cb6, rfl, hq6⟩ := hn (by rw [← HPI.out.take_]; exact htk)
              have HQ6 := Lib.hid hq6
              have HM6 := Lib.hid (HI.out.mb.upd hq6.u (fun h => h))
              have HB6 := Lib.hid (HQ.out.upd hq6.u (fun h => h))
              have HPS := Lib.hid (HPI.out)
              have HFX := Lib.hid (show (fly : List (Int × ByteArray)) = fly from rfl)
              clear hq6 hn hs
              obtain ⟨x0, x1, x2, x3, x4⟩ := HM6.out.agg5
              have f0 := HM6.out.frozen 0
              have f1 := HM6.out.frozen 1
              have f2 := HM6.out.frozen 2
              have f3 := HM6.out.frozen 3
              have f4 := HM6.out.frozen 4
              have lm := HM6.out.lt
              go_upto_region 25 with (fail)
              have hz7 : Blk (((((((w6.setCell ⟨gm, 0, none⟩ (.int .i64 age)).setCell ⟨gm, 1, none⟩ (.int .i64 limit)).setCell ⟨gm, 2, none⟩ (.int .i64 room)).setCell ⟨gm, 3, none⟩ (.slice A6 L.length ca6)).setCell ⟨gm, 4, none⟩ (.slice B6 N.length cb6)).alloc (.cells #[.int .i64 age, .int .i64 limit, .int .i64 room, .slice A6 L.length ca6, .slice B6 N.length cb6] 32)).alloc (.cells #[.int .i64 0, .string ⟨#[]⟩, .int .i64 0, .int .i64 0] 39)) (w6.heap.size + 1) #[.int .i64 0, .string ⟨#[]⟩, .int .i64 0, .int .i64 0] 39 := by
                have := Blk.new ((((((w6.setCell ⟨gm, 0, none⟩ (.int .i64 age)).setCell ⟨gm, 1, none⟩ (.int .i64 limit)).setCell ⟨gm, 2, none⟩ (.int .i64 room)).setCell ⟨gm, 3, none⟩ (.slice A6 L.length ca6)).setCell ⟨gm, 4, none⟩ (.slice B6 N.length cb6)).alloc (.cells #[.int .i64 age, .int .i64 limit, .int .i64 room, .slice A6 L.length ca6, .slice B6 N.length cb6] 32)) #[.int .i64 0, .string ⟨#[]⟩, .int .i64 0, .int .i64 0] 39
                rw [show ((((((w6.setCell ⟨gm, 0, none⟩ (.int .i64 age)).setCell ⟨gm, 1, none⟩ (.int .i64 limit)).setCell ⟨gm, 2, none⟩ (.int .i64 room)).setCell ⟨gm, 3, none⟩ (.slice A6 L.length ca6)).setCell ⟨gm, 4, none⟩ (.slice B6 N.length cb6)).alloc (.cells #[.int .i64 age, .int .i64 limit, .int .i64 room, .slice A6 L.length ca6, .slice B6 N.length cb6] 32)).heap.size = w6.heap.size + 1 by simp [World.setCell]] at this
                exact this
              have hzF : ¬ F5 (w6.heap.size + 1) := fun hf => by have := HI.out.own.ro.lt hf; have := HQ6.out.u.size; omega
              clear x0 x1 x2 x3 x4 f0 f1 f2 f3 f4 lm
              have hu7 : Upd w6 (((((((w6.setCell ⟨gm, 0, none⟩ (.int .i64 age)).setCell ⟨gm, 1, none⟩ (.int .i64 limit)).setCell ⟨gm, 2, none⟩ (.int .i64 room)).setCell ⟨gm, 3, none⟩ (.slice A6 L.length ca6)).setCell ⟨gm, 4, none⟩ (.slice B6 N.length cb6)).alloc (.cells #[.int .i64 age, .int .i64 limit, .int .i64 room, .slice A6 L.length ca6, .slice B6 N.length cb6] 32)).alloc (.cells #[.int .i64 0, .string ⟨#[]⟩, .int .i64 0, .int .i64 0] 39)) (fun i => i = gm) := ((((Upd.put5 w6 gm (.int .i64 age) (.int .i64 limit) (.int .i64 room) (.slice A6 L.length ca6) (.slice B6 N.length cb6)).alloc (.cells #[.int .i64 age, .int .i64 limit, .int .i64 room, .slice A6 L.length ca6, .slice B6 N.length cb6] 32))).alloc (.cells #[.int .i64 0, .string ⟨#[]⟩, .int .i64 0, .int .i64 0] 39))
              have hb7 : Blk (((((((w6.setCell ⟨gm, 0, none⟩ (.int .i64 age)).setCell ⟨gm, 1, none⟩ (.int .i64 limit)).setCell ⟨gm, 2, none⟩ (.int .i64 room)).setCell ⟨gm, 3, none⟩ (.slice A6 L.length ca6)).setCell ⟨gm, 4, none⟩ (.slice B6 N.length cb6)).alloc (.cells #[.int .i64 age, .int .i64 limit, .int .i64 room, .slice A6 L.length ca6, .slice B6 N.length cb6] 32)).alloc (.cells #[.int .i64 0, .string ⟨#[]⟩, .int .i64 0, .int .i64 0] 39)) gm #[.int .i64 age, .int .i64 limit, .int .i64 room, .slice A6 L.length ca6, .slice B6 N.length cb6] 32 := ((((HM6.out.put5 (.int .i64 age) (.int .i64 limit) (.int .i64 room) (.slice A6 L.length ca6) (.slice B6 N.length cb6)).alloc (.cells #[.int .i64 age, .int .i64 limit, .int .i64 room, .slice A6 L.length ca6, .slice B6 N.length cb6] 32))).alloc (.cells #[.int .i64 0, .string ⟨#[]⟩, .int .i64 0, .int .i64 0] 39))
              have hl6 : w6.heap.size = w6.heap.size := rfl
              generalize ((((((w6.setCell ⟨gm, 0, none⟩ (.int .i64 age)).setCell ⟨gm, 1, none⟩ (.int .i64 limit)).setCell ⟨gm, 2, none⟩ (.int .i64 room)).setCell ⟨gm, 3, none⟩ (.slice A6 L.length ca6)).setCell ⟨gm, 4, none⟩ (.slice B6 N.length cb6)).alloc (.cells #[.int .i64 age, .int .i64 limit, .int .i64 room, .slice A6 L.length ca6, .slice B6 N.length cb6] 32)).alloc (.cells #[.int .i64 0, .string ⟨#[]⟩, .int .i64 0, .int .i64 0] 39) = w7 at *
              have HI7 := Lib.hid (HI.out.setM HQ6.out hu7 hb7)
              have HQ7 := Lib.hid (HB6.out.upd hu7 (fun e => HQF.out.2 e))
              clear hu7 hb7 hl6
              have HZ7 := Lib.hid (And.intro hz7 hzF)
              clear hz7 hzF
              generalize w6.heap.size + 1 = qz at *
              have y2 : w7.cell? ⟨qa, 2, none⟩ = some (.int .i64 a.now) := (HQ7.out.cell 2).trans rfl
              have HT7 := Lib.hid (HI7.out.own.ro.take_ a.now (by omega) (by omega) n0 n1 a0 a1)
              go_wp2_with fail
              refine HT7.out.mono ?_
              rintro e w8 ⟨hn, hs⟩
              obtain ⟨rfl, u8⟩ := hn htk
              have HI8 := Lib.hid (HI7.out.nn u8)
              have HQ8 := Lib.hid (HQ7.out.upd u8 (fun h => h))
              have HZ8 := Lib.hid (HZ7.out.1.upd u8 (fun h => h))
              clear u8
              clear hn hs y2 HT7 HI7 HQ7 HZ7
              go_upto_region 26 with (fail)
              have hb9 := Blk.new w8 #[.int .i64 0, .string ⟨#[]⟩, .int .i64 0, .int .i64 0] 34
              have hu9 : Upd w8 (w8.alloc (.cells #[.int .i64 0, .string ⟨#[]⟩, .int .i64 0, .int .i64 0] 34)) Nope := (Upd.refl w8 _).alloc _
              have HI9 := Lib.hid (HI8.out.nn hu9)
              have HQ9 := Lib.hid (HQ8.out.upd hu9 (fun h => h))
              have hz9 := HZ8.out.upd hu9 (fun h => h)
              clear hu9 HI8 HQ8 HZ8
              generalize w8.alloc (.cells #[.int .i64 0, .string ⟨#[]⟩, .int .i64 0, .int .i64 0] 34) = w9 at *
              generalize w8.heap.size = qx at *
              obtain ⟨e0, e1, e2, e3⟩ : w9.cell? ⟨qx, 0, none⟩ = some (.int .i64 0) ∧ w9.cell? ⟨qx, 1, none⟩ = some (.string ⟨#[]⟩) ∧ w9.cell? ⟨qx, 2, none⟩ = some (.int .i64 0) ∧ w9.cell? ⟨qx, 3, none⟩ = some (.int .i64 0) := ⟨(hb9.cell 0).trans rfl, (hb9.cell 1).trans rfl, (hb9.cell 2).trans rfl, (hb9.cell 3).trans rfl⟩
              obtain ⟨t0, t1, t2, t3⟩ : w9.cell? ⟨qz, 0, none⟩ = some (.int .i64 0) ∧ w9.cell? ⟨qz, 1, none⟩ = some (.string ⟨#[]⟩) ∧ w9.cell? ⟨qz, 2, none⟩ = some (.int .i64 0) ∧ w9.cell? ⟨qz, 3, none⟩ = some (.int .i64 0) := ⟨(hz9.cell 0).trans rfl, (hz9.cell 1).trans rfl, (hz9.cell 2).trans rfl, (hz9.cell 3).trans rfl⟩
              clear hb9 hz9
              have hle1 : L.length ≤ k + 1 := by have := HLK.out; omega
              have hne1 : N.length ≤ k + 1 := by have := HLK.out; omega
              have HPX := Lib.hid HPS.out
              go_upto_region 38 with (fail)
              have hnl : ((L.length : Int) != L.length) = false := by simp
              have X0 := fun z : UW w9 => z.cell (HI9.out.mb.agg5.1)
              have X1 := fun z : UW w9 => z.cell (HI9.out.mb.agg5.2.1)
              have X2 := fun z : UW w9 => z.cell (HI9.out.mb.agg5.2.2.1)
              have X3 := fun z : UW w9 => z.cell (HI9.out.mb.agg5.2.2.2.1)
              have X4 := fun z : UW w9 => z.cell (HI9.out.mb.agg5.2.2.2.2)
              have Y2 := fun z : UW w9 => z.cell ((HQ9.out.cell 2).trans rfl : w9.cell? ⟨qa, 2, none⟩ = some (.int .i64 a.now))
              have Y4 := fun z : UW w9 => z.cell ((HQ9.out.cell 4).trans rfl : w9.cell? ⟨qa, 4, none⟩ = some (.string a.x.dest))
              refine region_seq [([0, 1, 2, 4, 5, 6], 3), ([], 7), ([], 8), ([9, 10, 11, 13, 14, 15], 12), ([16, 17, 18, 19, 20, 21, 22, 24, 25, 26, 27], 23), ([], 28)] [29, 30] (by kernel_rfl) (fun w' => ∃ z : UW w9, w' = z.val) (by kernel_rfl) (fun _ _ d _ _ h => by cases d <;> exact h) ⟨⟨w9.drew, (Upd.refl _ _).drew⟩, rfl⟩ ?_
              simp only [segsAt_cons, segsAt_nil, opsAt_cons, opsAt_nil, List.getElem?_toArray, List.getElem?_cons_zero, List.getElem?_cons_succ, consO_some, pairO_some]
              refine wpS_seg ?_
              repeat (first | go_big_quiet_skip | (go_big_quiet_want; go_big_quiet_op; go_big_quiet_on))
              refine wpQuiet_nil ?_
              have HD0 := Lib.hid (show Upd w9 w9.drew Nope from (Upd.refl _ _).drew)
              generalize w9.drew = wd at *
              have hP := HI9.out.nn HD0.out
              have hid : ((srtK (En.key a.now age) L).map (·.id)).length ≤ 5000 := by rw [List.length_map, len_srtK]; omega
              have HOR := Lib.hid (hP.own.ro.order_ a.now (by omega) (by omega) (by omega) a0 a1)
              generalize hids : (srtK (En.key a.now age) L).map (·.id) = ids at *
              have HIDS := Lib.hid hids
              clear hP hids
              go_wp2_with fail
              refine HOR.out.mono ?_
              rintro e we ⟨Ao, co, rfl, hro, ue, _⟩
              have HDE := Lib.hid (HD0.out.nn ue)
              have HRO := Lib.hid hro
              clear hro ue HOR
              go_wp2_with fail
              refine ⟨⟨⟨we, HDE.out⟩, rfl⟩, ?_⟩
              refine wpS_seg ?_
              refine wpQuiet_nil ?_
              have hP := HI9.out.nn HDE.out
              have HOF := Lib.hid (orderF_any we age limit room A6 B6 ca6 cb6 L N hP.ra hP.rb (by omega) (by omega) hP.own.ro.ok a.now (by omega) (by omega) a0 a1)
              rw [HIDS.out] at HOF
              clear hP
              go_wp2_with fail
              refine HOF.out.mono ?_
              rintro e wf ⟨Ap, cp, rfl, hrp, uf⟩
              have HDF := Lib.hid (HDE.out.nn uf)
              have HSM := Lib.hid (sameI_any ids (c := co) (c' := cp) wf (HRO.out.upd uf (fun _ h => h.elim)) hrp (by omega))
              clear hrp uf HOF
              go_wp2_with fail
              refine ⟨⟨⟨wf, HDF.out⟩, rfl⟩, ?_⟩
              refine wpS_seg ?_
              refine wpQuiet_nil ?_
              go_wp2_with fail
              refine HSM.out.mono ?_
              rintro e wg ⟨rfl, ug⟩
              have HDG := Lib.hid (HDF.out.dr ug)
              clear ug HSM
              go_wp2_with fail
              refine ⟨⟨⟨wg, HDG.out⟩, rfl⟩, ?_⟩
              refine wpS_seg ?_
              repeat (first | go_big_quiet_skip | (go_big_quiet_want; go_big_quiet_op; go_big_quiet_on))
              refine wpQuiet_nil ?_
              have HLN := Lib.hid ((HI9.out.nn HDG.out).own.ro.len_ (by omega))
              go_wp2_with fail
              refine HLN.out.mono ?_
              rintro e wh ⟨rfl, hwh⟩
              obtain rfl : wg = wh := hwh.symm
              clear HLN
              go_wp2_with fail
              refine ⟨⟨⟨wg, HDG.out⟩, rfl⟩, ?_⟩
              refine wpS_seg ?_
              repeat (first | go_big_quiet_skip | (go_big_quiet_want; go_big_quiet_op; go_big_quiet_on))
              refine wpQuiet_nil ?_
              clear X0 X1 X2 X3 X4 Y2 Y4
              have HF1 := Lib.hid ((HI9.out.nn HDG.out).own.ro.flying_ a.x.dest (by rw [HPX.out.len]; omega))
              rw [HPX.out.cnt] at HF1
              have hcb : cntF a.x.dest N ≤ 5000 := Nat.le_trans (cntF_le _ _) (by omega)
              go_wp2_with fail
              refine HF1.out.mono ?_
              rintro e wi ⟨rfl, ui⟩
              have HDI := Lib.hid (HDG.out.nn ui)
              clear ui HF1
              go_wp2_with fail
              refine ⟨⟨⟨wi, HDI.out⟩, rfl⟩, ?_⟩
              refine wpS_seg ?_
              refine wpQuiet_nil ?_
              have HF2 := Lib.hid (flyF_any wi age limit room A6 B6 L.length ca6 cb6 N (HI9.out.nn HDI.out).rb (by omega) a.x.dest)
              have hcc : ((cntF a.x.dest N : Int) != cntF a.x.dest N) = false := by simp
              generalize cntF a.x.dest N = cy at *
              go_wp2_with fail
              refine HF2.out.mono ?_
              rintro e wj ⟨rfl, uj⟩
              have HDJ := Lib.hid (HDI.out.nn uj)
              clear uj HF2
              go_wp2_with fail
              refine ⟨⟨⟨wj, HDJ.out⟩, rfl⟩, ?_⟩
              refine wpS_last ?_
              repeat (first | go_big_quiet_skip | (go_big_quiet_want; go_big_quiet_op; go_big_quiet_on))
              refine wpQuiet_nil ?_
              go_wp2_with fail
              go_roundw
              case rel => exact ⟨k + 1, F5, L, N, fly, A6, B6, ca6, cb6, by omega, by go_num, HI9.out.nn HDJ.out, HPX.out, hle1, hne1⟩
              case measure => simp [intOf]; omega
            · as_aux_lemma =>
              obtain ⟨A6, B6, ca6, cb6, rfl, hq6⟩ := hs x (by rw [← HPI.out.take_]; exact htk)
              have HQ6 := Lib.hid hq6
              have HM6 := Lib.hid (HI.out.mb.upd hq6.u (fun h => h))
              have HB6 := Lib.hid (HQ.out.upd hq6.u (fun h => h))
              have HPS := Lib.hid (HPI.out.takeS (takeR_mem htk))
              have HFX := Lib.hid (show (put x.id x.dest fly : List (Int × ByteArray)) = put x.id x.dest fly from rfl)
              clear hq6 hn hs
              have HLL := Lib.hid (remL_len (p := fun e : En => e.id == x.id) (L := L))
              have HNL := Lib.hid (show (N ++ [x]).length = N.length + 1 by simp)
              have HEL := Lib.hid (show remL (fun e => e.id == x.id) L = remL (fun e => e.id == x.id) L from rfl)
              generalize hL7 : remL (fun e => e.id == x.id) L = L7 at HQ6 HPS HLL ⊢
              replace HEL := Lib.hid hL7
              clear hL7
              generalize N ++ [x] = N7 at *
              obtain ⟨x0, x1, x2, x3, x4⟩ := HM6.out.agg5
              have f0 := HM6.out.frozen 0
              have f1 := HM6.out.frozen 1
              have f2 := HM6.out.frozen 2
              have f3 := HM6.out.frozen 3
              have f4 := HM6.out.frozen 4
              have lm := HM6.out.lt
              go_upto_region 25 with (fail)
              have hz7 : Blk (((((((w6.setCell ⟨gm, 0, none⟩ (.int .i64 age)).setCell ⟨gm, 1, none⟩ (.int .i64 limit)).setCell ⟨gm, 2, none⟩ (.int .i64 room)).setCell ⟨gm, 3, none⟩ (.slice A6 L7.length ca6)).setCell ⟨gm, 4, none⟩ (.slice B6 N7.length cb6)).alloc (.cells #[.int .i64 age, .int .i64 limit, .int .i64 room, .slice A6 L7.length ca6, .slice B6 N7.length cb6] 32)).alloc (.cells #[.int .i64 x.id, .string x.dest, .int .i64 x.pri, .int .i64 x.at_] 39)) (w6.heap.size + 1) #[.int .i64 x.id, .string x.dest, .int .i64 x.pri, .int .i64 x.at_] 39 := by
                have := Blk.new ((((((w6.setCell ⟨gm, 0, none⟩ (.int .i64 age)).setCell ⟨gm, 1, none⟩ (.int .i64 limit)).setCell ⟨gm, 2, none⟩ (.int .i64 room)).setCell ⟨gm, 3, none⟩ (.slice A6 L7.length ca6)).setCell ⟨gm, 4, none⟩ (.slice B6 N7.length cb6)).alloc (.cells #[.int .i64 age, .int .i64 limit, .int .i64 room, .slice A6 L7.length ca6, .slice B6 N7.length cb6] 32)) #[.int .i64 x.id, .string x.dest, .int .i64 x.pri, .int .i64 x.at_] 39
                rw [show ((((((w6.setCell ⟨gm, 0, none⟩ (.int .i64 age)).setCell ⟨gm, 1, none⟩ (.int .i64 limit)).setCell ⟨gm, 2, none⟩ (.int .i64 room)).setCell ⟨gm, 3, none⟩ (.slice A6 L7.length ca6)).setCell ⟨gm, 4, none⟩ (.slice B6 N7.length cb6)).alloc (.cells #[.int .i64 age, .int .i64 limit, .int .i64 room, .slice A6 L7.length ca6, .slice B6 N7.length cb6] 32)).heap.size = w6.heap.size + 1 by simp [World.setCell]] at this
                exact this
              have hzF : ¬ F5 (w6.heap.size + 1) := fun hf => by have := HI.out.own.ro.lt hf; have := HQ6.out.u.size; omega
              clear x0 x1 x2 x3 x4 f0 f1 f2 f3 f4 lm
              have hu7 : Upd w6 (((((((w6.setCell ⟨gm, 0, none⟩ (.int .i64 age)).setCell ⟨gm, 1, none⟩ (.int .i64 limit)).setCell ⟨gm, 2, none⟩ (.int .i64 room)).setCell ⟨gm, 3, none⟩ (.slice A6 L7.length ca6)).setCell ⟨gm, 4, none⟩ (.slice B6 N7.length cb6)).alloc (.cells #[.int .i64 age, .int .i64 limit, .int .i64 room, .slice A6 L7.length ca6, .slice B6 N7.length cb6] 32)).alloc (.cells #[.int .i64 x.id, .string x.dest, .int .i64 x.pri, .int .i64 x.at_] 39)) (fun i => i = gm) := ((((Upd.put5 w6 gm (.int .i64 age) (.int .i64 limit) (.int .i64 room) (.slice A6 L7.length ca6) (.slice B6 N7.length cb6)).alloc (.cells #[.int .i64 age, .int .i64 limit, .int .i64 room, .slice A6 L7.length ca6, .slice B6 N7.length cb6] 32))).alloc (.cells #[.int .i64 x.id, .string x.dest, .int .i64 x.pri, .int .i64 x.at_] 39))
              have hb7 : Blk (((((((w6.setCell ⟨gm, 0, none⟩ (.int .i64 age)).setCell ⟨gm, 1, none⟩ (.int .i64 limit)).setCell ⟨gm, 2, none⟩ (.int .i64 room)).setCell ⟨gm, 3, none⟩ (.slice A6 L7.length ca6)).setCell ⟨gm, 4, none⟩ (.slice B6 N7.length cb6)).alloc (.cells #[.int .i64 age, .int .i64 limit, .int .i64 room, .slice A6 L7.length ca6, .slice B6 N7.length cb6] 32)).alloc (.cells #[.int .i64 x.id, .string x.dest, .int .i64 x.pri, .int .i64 x.at_] 39)) gm #[.int .i64 age, .int .i64 limit, .int .i64 room, .slice A6 L7.length ca6, .slice B6 N7.length cb6] 32 := ((((HM6.out.put5 (.int .i64 age) (.int .i64 limit) (.int .i64 room) (.slice A6 L7.length ca6) (.slice B6 N7.length cb6)).alloc (.cells #[.int .i64 age, .int .i64 limit, .int .i64 room, .slice A6 L7.length ca6, .slice B6 N7.length cb6] 32))).alloc (.cells #[.int .i64 x.id, .string x.dest, .int .i64 x.pri, .int .i64 x.at_] 39))
              have hl6 : w6.heap.size = w6.heap.size := rfl
              generalize ((((((w6.setCell ⟨gm, 0, none⟩ (.int .i64 age)).setCell ⟨gm, 1, none⟩ (.int .i64 limit)).setCell ⟨gm, 2, none⟩ (.int .i64 room)).setCell ⟨gm, 3, none⟩ (.slice A6 L7.length ca6)).setCell ⟨gm, 4, none⟩ (.slice B6 N7.length cb6)).alloc (.cells #[.int .i64 age, .int .i64 limit, .int .i64 room, .slice A6 L7.length ca6, .slice B6 N7.length cb6] 32)).alloc (.cells #[.int .i64 x.id, .string x.dest, .int .i64 x.pri, .int .i64 x.at_] 39) = w7 at *
              have HI7 := Lib.hid (HI.out.setM HQ6.out hu7 hb7)
              have HQ7 := Lib.hid (HB6.out.upd hu7 (fun e => HQF.out.2 e))
              clear hu7 hb7 hl6
              have HZ7 := Lib.hid (And.intro hz7 hzF)
              clear hz7 hzF
              generalize w6.heap.size + 1 = qz at *
              have y2 : w7.cell? ⟨qa, 2, none⟩ = some (.int .i64 a.now) := (HQ7.out.cell 2).trans rfl
              have HT7 := Lib.hid (HI7.out.own.ro.take_ a.now (by omega) (by omega) n0 n1 a0 a1)
              go_wp2_with fail
              refine HT7.out.mono ?_
              rintro e w8 ⟨hn, hs⟩
              obtain ⟨rfl, hro, u8⟩ := hs x htk
              have HI8 := Lib.hid (HI7.out.stay u8 hro)
              have HQ8 := Lib.hid (HQ7.out.upd u8 HQF.out.1)
              have HZ8 := Lib.hid (HZ7.out.1.upd u8 HZ7.out.2)
              rw [HEL.out] at HI8
              clear hro u8
              generalize put x.id x.dest fly = fly7 at *
              clear hn hs y2 HT7 HI7 HQ7 HZ7
              go_upto_region 26 with (fail)
              have hb9 := Blk.new w8 #[.int .i64 x.id, .string x.dest, .int .i64 x.pri, .int .i64 x.at_] 34
              have hu9 : Upd w8 (w8.alloc (.cells #[.int .i64 x.id, .string x.dest, .int .i64 x.pri, .int .i64 x.at_] 34)) Nope := (Upd.refl w8 _).alloc _
              have HI9 := Lib.hid (HI8.out.nn hu9)
              have HQ9 := Lib.hid (HQ8.out.upd hu9 (fun h => h))
              have hz9 := HZ8.out.upd hu9 (fun h => h)
              clear hu9 HI8 HQ8 HZ8
              generalize w8.alloc (.cells #[.int .i64 x.id, .string x.dest, .int .i64 x.pri, .int .i64 x.at_] 34) = w9 at *
              generalize w8.heap.size = qx at *
              obtain ⟨e0, e1, e2, e3⟩ : w9.cell? ⟨qx, 0, none⟩ = some (.int .i64 x.id) ∧ w9.cell? ⟨qx, 1, none⟩ = some (.string x.dest) ∧ w9.cell? ⟨qx, 2, none⟩ = some (.int .i64 x.pri) ∧ w9.cell? ⟨qx, 3, none⟩ = some (.int .i64 x.at_) := ⟨(hb9.cell 0).trans rfl, (hb9.cell 1).trans rfl, (hb9.cell 2).trans rfl, (hb9.cell 3).trans rfl⟩
              obtain ⟨t0, t1, t2, t3⟩ : w9.cell? ⟨qz, 0, none⟩ = some (.int .i64 x.id) ∧ w9.cell? ⟨qz, 1, none⟩ = some (.string x.dest) ∧ w9.cell? ⟨qz, 2, none⟩ = some (.int .i64 x.pri) ∧ w9.cell? ⟨qz, 3, none⟩ = some (.int .i64 x.at_) := ⟨(hz9.cell 0).trans rfl, (hz9.cell 1).trans rfl, (hz9.cell 2).trans rfl, (hz9.cell 3).trans rfl⟩
              clear hb9 hz9
              have hle1 : L7.length ≤ k + 1 := by have := HLL.out; have := HLK.out; omega
              have hne1 : N7.length ≤ k + 1 := by have := HNL.out; have := HLK.out; omega
              have HPX := Lib.hid HPS.out
              go_upto_region 38 with (fail)
              have hnl : ((L7.length : Int) != L7.length) = false := by simp
              have X0 := fun z : UW w9 => z.cell (HI9.out.mb.agg5.1)
              have X1 := fun z : UW w9 => z.cell (HI9.out.mb.agg5.2.1)
              have X2 := fun z : UW w9 => z.cell (HI9.out.mb.agg5.2.2.1)
              have X3 := fun z : UW w9 => z.cell (HI9.out.mb.agg5.2.2.2.1)
              have X4 := fun z : UW w9 => z.cell (HI9.out.mb.agg5.2.2.2.2)
              have Y2 := fun z : UW w9 => z.cell ((HQ9.out.cell 2).trans rfl : w9.cell? ⟨qa, 2, none⟩ = some (.int .i64 a.now))
              have Y4 := fun z : UW w9 => z.cell ((HQ9.out.cell 4).trans rfl : w9.cell? ⟨qa, 4, none⟩ = some (.string a.x.dest))
              refine region_seq [([0, 1, 2, 4, 5, 6], 3), ([], 7), ([], 8), ([9, 10, 11, 13, 14, 15], 12), ([16, 17, 18, 19, 20, 21, 22, 24, 25, 26, 27], 23), ([], 28)] [29, 30] (by kernel_rfl) (fun w' => ∃ z : UW w9, w' = z.val) (by kernel_rfl) (fun _ _ d _ _ h => by cases d <;> exact h) ⟨⟨w9.drew, (Upd.refl _ _).drew⟩, rfl⟩ ?_
              simp only [segsAt_cons, segsAt_nil, opsAt_cons, opsAt_nil, List.getElem?_toArray, List.getElem?_cons_zero, List.getElem?_cons_succ, consO_some, pairO_some]
              refine wpS_seg ?_
              repeat (first | go_big_quiet_skip | (go_big_quiet_want; go_big_quiet_op; go_big_quiet_on))
              refine wpQuiet_nil ?_
              have HD0 := Lib.hid (show Upd w9 w9.drew Nope from (Upd.refl _ _).drew)
              generalize w9.drew = wd at *
              have hP := HI9.out.nn HD0.out
              have hid : ((srtK (En.key a.now age) L7).map (·.id)).length ≤ 5000 := by rw [List.length_map, len_srtK]; omega
              have HOR := Lib.hid (hP.own.ro.order_ a.now (by omega) (by omega) (by omega) a0 a1)
              generalize hids : (srtK (En.key a.now age) L7).map (·.id) = ids at *
              have HIDS := Lib.hid hids
              clear hP hids
              go_wp2_with fail
              refine HOR.out.mono ?_
              rintro e we ⟨Ao, co, rfl, hro, ue, _⟩
              have HDE := Lib.hid (HD0.out.nn ue)
              have HRO := Lib.hid hro
              clear hro ue HOR
              go_wp2_with fail
              refine ⟨⟨⟨we, HDE.out⟩, rfl⟩, ?_⟩
              refine wpS_seg ?_
              refine wpQuiet_nil ?_
              have hP := HI9.out.nn HDE.out
              have HOF := Lib.hid (orderF_any we age limit room A6 B6 ca6 cb6 L7 N7 hP.ra hP.rb (by omega) (by omega) hP.own.ro.ok a.now (by omega) (by omega) a0 a1)
              rw [HIDS.out] at HOF
              clear hP
              go_wp2_with fail
              refine HOF.out.mono ?_
              rintro e wf ⟨Ap, cp, rfl, hrp, uf⟩
              have HDF := Lib.hid (HDE.out.nn uf)
              have HSM := Lib.hid (sameI_any ids (c := co) (c' := cp) wf (HRO.out.upd uf (fun _ h => h.elim)) hrp (by omega))
              clear hrp uf HOF
              go_wp2_with fail
              refine ⟨⟨⟨wf, HDF.out⟩, rfl⟩, ?_⟩
              refine wpS_seg ?_
              refine wpQuiet_nil ?_
              go_wp2_with fail
              refine HSM.out.mono ?_
              rintro e wg ⟨rfl, ug⟩
              have HDG := Lib.hid (HDF.out.dr ug)
              clear ug HSM
              go_wp2_with fail
              refine ⟨⟨⟨wg, HDG.out⟩, rfl⟩, ?_⟩
              refine wpS_seg ?_
              repeat (first | go_big_quiet_skip | (go_big_quiet_want; go_big_quiet_op; go_big_quiet_on))
              refine wpQuiet_nil ?_
              have HLN := Lib.hid ((HI9.out.nn HDG.out).own.ro.len_ (by omega))
              go_wp2_with fail
              refine HLN.out.mono ?_
              rintro e wh ⟨rfl, hwh⟩
              obtain rfl : wg = wh := hwh.symm
              clear HLN
              go_wp2_with fail
              refine ⟨⟨⟨wg, HDG.out⟩, rfl⟩, ?_⟩
              refine wpS_seg ?_
              repeat (first | go_big_quiet_skip | (go_big_quiet_want; go_big_quiet_op; go_big_quiet_on))
              refine wpQuiet_nil ?_
              clear X0 X1 X2 X3 X4 Y2 Y4
              have HF1 := Lib.hid ((HI9.out.nn HDG.out).own.ro.flying_ a.x.dest (by rw [HPX.out.len]; omega))
              rw [HPX.out.cnt] at HF1
              have hcb : cntF a.x.dest N7 ≤ 5000 := Nat.le_trans (cntF_le _ _) (by omega)
              go_wp2_with fail
              refine HF1.out.mono ?_
              rintro e wi ⟨rfl, ui⟩
              have HDI := Lib.hid (HDG.out.nn ui)
              clear ui HF1
              go_wp2_with fail
              refine ⟨⟨⟨wi, HDI.out⟩, rfl⟩, ?_⟩
              refine wpS_seg ?_
              refine wpQuiet_nil ?_
              have HF2 := Lib.hid (flyF_any wi age limit room A6 B6 L7.length ca6 cb6 N7 (HI9.out.nn HDI.out).rb (by omega) a.x.dest)
              have hcc : ((cntF a.x.dest N7 : Int) != cntF a.x.dest N7) = false := by simp
              generalize cntF a.x.dest N7 = cy at *
              go_wp2_with fail
              refine HF2.out.mono ?_
              rintro e wj ⟨rfl, uj⟩
              have HDJ := Lib.hid (HDI.out.nn uj)
              clear uj HF2
              go_wp2_with fail
              refine ⟨⟨⟨wj, HDJ.out⟩, rfl⟩, ?_⟩
              refine wpS_last ?_
              repeat (first | go_big_quiet_skip | (go_big_quiet_want; go_big_quiet_op; go_big_quiet_on))
              refine wpQuiet_nil ?_
              go_wp2_with fail
              go_roundw
              case rel => exact ⟨k + 1, F5, L7, N7, fly7, A6, B6, ca6, cb6, by omega, by go_num, HI9.out.nn HDJ.out, HPX.out, hle1, hne1⟩
              case measure => simp [intOf]; omega
          · as_aux_lemma =>
            have hii : okI a.id := HAO.out.1.2.1
            have y1 : w5.cell? ⟨qa, 1, none⟩ = some (.int .i64 a.id) := (HQ.out.cell 1).trans rfl
            obtain ⟨x0, x1, x2, x3, x4⟩ := HI.out.mb.agg5
            have HPF := Lib.hid (doneF_any w5 age limit room A1 B1 ca cb L N HI.out.ra HI.out.rb (by omega) (by omega) a.id)
            have HPS := Lib.hid (HPI.out.doneS a.id)
            have HLL := Lib.hid (remL_len (p := fun e : En => e.id == a.id) (L := N))
            go_wp2_with fail
            refine HPF.out.mono ?_
            rintro e w6 ⟨A6, B6, ca6, cb6, rfl, hq6⟩
            have HQ6 := Lib.hid hq6
            have HM6 := Lib.hid (HI.out.mb.upd hq6.u (fun h => h))
            have HB6 := Lib.hid (HQ.out.upd hq6.u (fun h => h))
            clear x0 x1 x2 x3 x4 y1 hq6 HPF
            have HPT := Lib.hid (fun (w' : World) (h : PR w w' g F5 age limit room L fly gm A6 ca6 L B6 cb6 (remL (fun e => e.id == a.id) N)) => h.own.ro.done_ a.id hii)
            rw [HPI.out.look_] at HPT
            generalize (N.any fun e => e.id == a.id) = bz at *
            have hcc : (bz != bz) = false := by simp
            generalize remL (fun e => e.id == a.id) N = M7 at *
            obtain ⟨x0, x1, x2, x3, x4⟩ := HM6.out.agg5
            have f0 := HM6.out.frozen 0
            have f1 := HM6.out.frozen 1
            have f2 := HM6.out.frozen 2
            have f3 := HM6.out.frozen 3
            have f4 := HM6.out.frozen 4
            have lm := HM6.out.lt
            go_upto_region 31 with (fail)
            clear x0 x1 x2 x3 x4 f0 f1 f2 f3 f4 lm
            have hu7 : Upd w6 ((((((w6.setCell ⟨gm, 0, none⟩ (.int .i64 age)).setCell ⟨gm, 1, none⟩ (.int .i64 limit)).setCell ⟨gm, 2, none⟩ (.int .i64 room)).setCell ⟨gm, 3, none⟩ (.slice A6 L.length ca6)).setCell ⟨gm, 4, none⟩ (.slice B6 M7.length cb6)).alloc (.cells #[.int .i64 age, .int .i64 limit, .int .i64 room, .slice A6 L.length ca6, .slice B6 M7.length cb6] 32)) (fun i => i = gm) := ((Upd.put5 w6 gm (.int .i64 age) (.int .i64 limit) (.int .i64 room) (.slice A6 L.length ca6) (.slice B6 M7.length cb6)).alloc (.cells #[.int .i64 age, .int .i64 limit, .int .i64 room, .slice A6 L.length ca6, .slice B6 M7.length cb6] 32))
            have hb7 : Blk ((((((w6.setCell ⟨gm, 0, none⟩ (.int .i64 age)).setCell ⟨gm, 1, none⟩ (.int .i64 limit)).setCell ⟨gm, 2, none⟩ (.int .i64 room)).setCell ⟨gm, 3, none⟩ (.slice A6 L.length ca6)).setCell ⟨gm, 4, none⟩ (.slice B6 M7.length cb6)).alloc (.cells #[.int .i64 age, .int .i64 limit, .int .i64 room, .slice A6 L.length ca6, .slice B6 M7.length cb6] 32)) gm #[.int .i64 age, .int .i64 limit, .int .i64 room, .slice A6 L.length ca6, .slice B6 M7.length cb6] 32 := ((HM6.out.put5 (.int .i64 age) (.int .i64 limit) (.int .i64 room) (.slice A6 L.length ca6) (.slice B6 M7.length cb6)).alloc (.cells #[.int .i64 age, .int .i64 limit, .int .i64 room, .slice A6 L.length ca6, .slice B6 M7.length cb6] 32))
            have hl6 : w6.heap.size = w6.heap.size := rfl
            generalize (((((w6.setCell ⟨gm, 0, none⟩ (.int .i64 age)).setCell ⟨gm, 1, none⟩ (.int .i64 limit)).setCell ⟨gm, 2, none⟩ (.int .i64 room)).setCell ⟨gm, 3, none⟩ (.slice A6 L.length ca6)).setCell ⟨gm, 4, none⟩ (.slice B6 M7.length cb6)).alloc (.cells #[.int .i64 age, .int .i64 limit, .int .i64 room, .slice A6 L.length ca6, .slice B6 M7.length cb6] 32) = w7 at *
            have HI7 := Lib.hid (HI.out.setM HQ6.out hu7 hb7)
            have HQ7 := Lib.hid (HB6.out.upd hu7 (fun e => HQF.out.2 e))
            clear hu7 hb7 hl6
            have y1 : w7.cell? ⟨qa, 1, none⟩ = some (.int .i64 a.id) := (HQ7.out.cell 1).trans rfl
            go_wp2_with fail
            refine (HPT.out w7 HI7.out).mono ?_
            rintro e w8 ⟨rfl, hro, u8⟩
            have HI8 := Lib.hid (HI7.out.stay u8 hro)
            have HQ8 := Lib.hid (HQ7.out.upd u8 HQF.out.1)
            clear hro u8 HPT y1 HI7 HQ7
            have hle1 : L.length ≤ k + 1 := by have := HLK.out; omega
            have hne1 : M7.length ≤ k + 1 := by have := HLL.out; have := HLK.out; omega
            have HPX := Lib.hid HPS.out
            go_upto_region 38 with (fail)
            have hnl : ((L.length : Int) != L.length) = false := by simp
            have X0 := fun z : UW w8 => z.cell (HI8.out.mb.agg5.1)
            have X1 := fun z : UW w8 => z.cell (HI8.out.mb.agg5.2.1)
            have X2 := fun z : UW w8 => z.cell (HI8.out.mb.agg5.2.2.1)
            have X3 := fun z : UW w8 => z.cell (HI8.out.mb.agg5.2.2.2.1)
            have X4 := fun z : UW w8 => z.cell (HI8.out.mb.agg5.2.2.2.2)
            have Y2 := fun z : UW w8 => z.cell ((HQ8.out.cell 2).trans rfl : w8.cell? ⟨qa, 2, none⟩ = some (.int .i64 a.now))
            have Y4 := fun z : UW w8 => z.cell ((HQ8.out.cell 4).trans rfl : w8.cell? ⟨qa, 4, none⟩ = some (.string a.x.dest))
            refine region_seq [([0, 1, 2, 4, 5, 6], 3), ([], 7), ([], 8), ([9, 10, 11, 13, 14, 15], 12), ([16, 17, 18, 19, 20, 21, 22, 24, 25, 26, 27], 23), ([], 28)] [29, 30] (by kernel_rfl) (fun w' => ∃ z : UW w8, w' = z.val) (by kernel_rfl) (fun _ _ d _ _ h => by cases d <;> exact h) ⟨⟨w8.drew, (Upd.refl _ _).drew⟩, rfl⟩ ?_
            simp only [segsAt_cons, segsAt_nil, opsAt_cons, opsAt_nil, List.getElem?_toArray, List.getElem?_cons_zero, List.getElem?_cons_succ, consO_some, pairO_some]
            refine wpS_seg ?_
            repeat (first | go_big_quiet_skip | (go_big_quiet_want; go_big_quiet_op; go_big_quiet_on))
            refine wpQuiet_nil ?_
            have HD0 := Lib.hid (show Upd w8 w8.drew Nope from (Upd.refl _ _).drew)
            generalize w8.drew = wd at *
            have hP := HI8.out.nn HD0.out
            have hid : ((srtK (En.key a.now age) L).map (·.id)).length ≤ 5000 := by rw [List.length_map, len_srtK]; omega
            have HOR := Lib.hid (hP.own.ro.order_ a.now (by omega) (by omega) (by omega) a0 a1)
            generalize hids : (srtK (En.key a.now age) L).map (·.id) = ids at *
            have HIDS := Lib.hid hids
            clear hP hids
            go_wp2_with fail
            refine HOR.out.mono ?_
            rintro e we ⟨Ao, co, rfl, hro, ue, _⟩
            have HDE := Lib.hid (HD0.out.nn ue)
            have HRO := Lib.hid hro
            clear hro ue HOR
            go_wp2_with fail
            refine ⟨⟨⟨we, HDE.out⟩, rfl⟩, ?_⟩
            refine wpS_seg ?_
            refine wpQuiet_nil ?_
            have hP := HI8.out.nn HDE.out
            have HOF := Lib.hid (orderF_any we age limit room A6 B6 ca6 cb6 L M7 hP.ra hP.rb (by omega) (by omega) hP.own.ro.ok a.now (by omega) (by omega) a0 a1)
            rw [HIDS.out] at HOF
            clear hP
            go_wp2_with fail
            refine HOF.out.mono ?_
            rintro e wf ⟨Ap, cp, rfl, hrp, uf⟩
            have HDF := Lib.hid (HDE.out.nn uf)
            have HSM := Lib.hid (sameI_any ids (c := co) (c' := cp) wf (HRO.out.upd uf (fun _ h => h.elim)) hrp (by omega))
            clear hrp uf HOF
            go_wp2_with fail
            refine ⟨⟨⟨wf, HDF.out⟩, rfl⟩, ?_⟩
            refine wpS_seg ?_
            refine wpQuiet_nil ?_
            go_wp2_with fail
            refine HSM.out.mono ?_
            rintro e wg ⟨rfl, ug⟩
            have HDG := Lib.hid (HDF.out.dr ug)
            clear ug HSM
            go_wp2_with fail
            refine ⟨⟨⟨wg, HDG.out⟩, rfl⟩, ?_⟩
            refine wpS_seg ?_
            repeat (first | go_big_quiet_skip | (go_big_quiet_want; go_big_quiet_op; go_big_quiet_on))
            refine wpQuiet_nil ?_
            have HLN := Lib.hid ((HI8.out.nn HDG.out).own.ro.len_ (by omega))
            go_wp2_with fail
            refine HLN.out.mono ?_
            rintro e wh ⟨rfl, hwh⟩
            obtain rfl : wg = wh := hwh.symm
            clear HLN
            go_wp2_with fail
            refine ⟨⟨⟨wg, HDG.out⟩, rfl⟩, ?_⟩
            refine wpS_seg ?_
            repeat (first | go_big_quiet_skip | (go_big_quiet_want; go_big_quiet_op; go_big_quiet_on))
            refine wpQuiet_nil ?_
            clear X0 X1 X2 X3 X4 Y2 Y4
            have HF1 := Lib.hid ((HI8.out.nn HDG.out).own.ro.flying_ a.x.dest (by rw [HPX.out.len]; omega))
            rw [HPX.out.cnt] at HF1
            have hcb : cntF a.x.dest M7 ≤ 5000 := Nat.le_trans (cntF_le _ _) (by omega)
            go_wp2_with fail
            refine HF1.out.mono ?_
            rintro e wi ⟨rfl, ui⟩
            have HDI := Lib.hid (HDG.out.nn ui)
            clear ui HF1
            go_wp2_with fail
            refine ⟨⟨⟨wi, HDI.out⟩, rfl⟩, ?_⟩
            refine wpS_seg ?_
            refine wpQuiet_nil ?_
            have HF2 := Lib.hid (flyF_any wi age limit room A6 B6 L.length ca6 cb6 M7 (HI8.out.nn HDI.out).rb (by omega) a.x.dest)
            have hcc : ((cntF a.x.dest M7 : Int) != cntF a.x.dest M7) = false := by simp
            generalize cntF a.x.dest M7 = cy at *
            go_wp2_with fail
            refine HF2.out.mono ?_
            rintro e wj ⟨rfl, uj⟩
            have HDJ := Lib.hid (HDI.out.nn uj)
            clear uj HF2
            go_wp2_with fail
            refine ⟨⟨⟨wj, HDJ.out⟩, rfl⟩, ?_⟩
            refine wpS_last ?_
            repeat (first | go_big_quiet_skip | (go_big_quiet_want; go_big_quiet_op; go_big_quiet_on))
            refine wpQuiet_nil ?_
            go_wp2_with fail
            go_roundw
            case rel => exact ⟨k + 1, F5, L, M7, (del a.id fly), A6, B6, ca6, cb6, by omega, by go_num, HI8.out.nn HDJ.out, HPX.out, hle1, hne1⟩
            case measure => simp [intOf]; omega
          · as_aux_lemma =>
            have hii : okI a.id := HAO.out.1.2.1
            have y1 : w5.cell? ⟨qa, 1, none⟩ = some (.int .i64 a.id) := (HQ.out.cell 1).trans rfl
            obtain ⟨x0, x1, x2, x3, x4⟩ := HI.out.mb.agg5
            have HPF := Lib.hid (remF_any w5 age limit room A1 B1 ca cb L N HI.out.ra HI.out.rb (by omega) (by omega) a.id)
            have HPS := Lib.hid (HPI.out.remS a.id)
            have HLL := Lib.hid (remL_len (p := fun e : En => e.id == a.id) (L := L))
            go_wp2_with fail
            refine HPF.out.mono ?_
            rintro e w6 ⟨A6, B6, ca6, cb6, rfl, hq6⟩
            have HQ6 := Lib.hid hq6
            have HM6 := Lib.hid (HI.out.mb.upd hq6.u (fun h => h))
            have HB6 := Lib.hid (HQ.out.upd hq6.u (fun h => h))
            clear x0 x1 x2 x3 x4 y1 hq6 HPF
            have HPT := Lib.hid (fun (w' : World) (h : PR w w' g F5 age limit room L fly gm A6 ca6 (remL (fun e => e.id == a.id) L) B6 cb6 N) => h.own.ro.remove_ a.id (by omega))
            generalize (L.any fun e => e.id == a.id) = bz at *
            have hcc : (bz != bz) = false := by simp
            generalize remL (fun e => e.id == a.id) L = M7 at *
            obtain ⟨x0, x1, x2, x3, x4⟩ := HM6.out.agg5
            have f0 := HM6.out.frozen 0
            have f1 := HM6.out.frozen 1
            have f2 := HM6.out.frozen 2
            have f3 := HM6.out.frozen 3
            have f4 := HM6.out.frozen 4
            have lm := HM6.out.lt
            go_upto_region 36 with (fail)
            clear x0 x1 x2 x3 x4 f0 f1 f2 f3 f4 lm
            have hu7 : Upd w6 ((((((w6.setCell ⟨gm, 0, none⟩ (.int .i64 age)).setCell ⟨gm, 1, none⟩ (.int .i64 limit)).setCell ⟨gm, 2, none⟩ (.int .i64 room)).setCell ⟨gm, 3, none⟩ (.slice A6 M7.length ca6)).setCell ⟨gm, 4, none⟩ (.slice B6 N.length cb6)).alloc (.cells #[.int .i64 age, .int .i64 limit, .int .i64 room, .slice A6 M7.length ca6, .slice B6 N.length cb6] 32)) (fun i => i = gm) := ((Upd.put5 w6 gm (.int .i64 age) (.int .i64 limit) (.int .i64 room) (.slice A6 M7.length ca6) (.slice B6 N.length cb6)).alloc (.cells #[.int .i64 age, .int .i64 limit, .int .i64 room, .slice A6 M7.length ca6, .slice B6 N.length cb6] 32))
            have hb7 : Blk ((((((w6.setCell ⟨gm, 0, none⟩ (.int .i64 age)).setCell ⟨gm, 1, none⟩ (.int .i64 limit)).setCell ⟨gm, 2, none⟩ (.int .i64 room)).setCell ⟨gm, 3, none⟩ (.slice A6 M7.length ca6)).setCell ⟨gm, 4, none⟩ (.slice B6 N.length cb6)).alloc (.cells #[.int .i64 age, .int .i64 limit, .int .i64 room, .slice A6 M7.length ca6, .slice B6 N.length cb6] 32)) gm #[.int .i64 age, .int .i64 limit, .int .i64 room, .slice A6 M7.length ca6, .slice B6 N.length cb6] 32 := ((HM6.out.put5 (.int .i64 age) (.int .i64 limit) (.int .i64 room) (.slice A6 M7.length ca6) (.slice B6 N.length cb6)).alloc (.cells #[.int .i64 age, .int .i64 limit, .int .i64 room, .slice A6 M7.length ca6, .slice B6 N.length cb6] 32))
            have hl6 : w6.heap.size = w6.heap.size := rfl
            generalize (((((w6.setCell ⟨gm, 0, none⟩ (.int .i64 age)).setCell ⟨gm, 1, none⟩ (.int .i64 limit)).setCell ⟨gm, 2, none⟩ (.int .i64 room)).setCell ⟨gm, 3, none⟩ (.slice A6 M7.length ca6)).setCell ⟨gm, 4, none⟩ (.slice B6 N.length cb6)).alloc (.cells #[.int .i64 age, .int .i64 limit, .int .i64 room, .slice A6 M7.length ca6, .slice B6 N.length cb6] 32) = w7 at *
            have HI7 := Lib.hid (HI.out.setM HQ6.out hu7 hb7)
            have HQ7 := Lib.hid (HB6.out.upd hu7 (fun e => HQF.out.2 e))
            clear hu7 hb7 hl6
            have y1 : w7.cell? ⟨qa, 1, none⟩ = some (.int .i64 a.id) := (HQ7.out.cell 1).trans rfl
            go_wp2_with fail
            refine (HPT.out w7 HI7.out).mono ?_
            rintro e w8 ⟨rfl, hro, u8⟩
            have HI8 := Lib.hid (HI7.out.stay u8 hro)
            have HQ8 := Lib.hid (HQ7.out.upd u8 HQF.out.1)
            clear hro u8 HPT y1 HI7 HQ7
            have hle1 : M7.length ≤ k + 1 := by have := HLL.out; have := HLK.out; omega
            have hne1 : N.length ≤ k + 1 := by have := HLK.out; omega
            have HPX := Lib.hid HPS.out
            go_upto_region 38 with (fail)
            have hnl : ((M7.length : Int) != M7.length) = false := by simp
            have X0 := fun z : UW w8 => z.cell (HI8.out.mb.agg5.1)
            have X1 := fun z : UW w8 => z.cell (HI8.out.mb.agg5.2.1)
            have X2 := fun z : UW w8 => z.cell (HI8.out.mb.agg5.2.2.1)
            have X3 := fun z : UW w8 => z.cell (HI8.out.mb.agg5.2.2.2.1)
            have X4 := fun z : UW w8 => z.cell (HI8.out.mb.agg5.2.2.2.2)
            have Y2 := fun z : UW w8 => z.cell ((HQ8.out.cell 2).trans rfl : w8.cell? ⟨qa, 2, none⟩ = some (.int .i64 a.now))
            have Y4 := fun z : UW w8 => z.cell ((HQ8.out.cell 4).trans rfl : w8.cell? ⟨qa, 4, none⟩ = some (.string a.x.dest))
            refine region_seq [([0, 1, 2, 4, 5, 6], 3), ([], 7), ([], 8), ([9, 10, 11, 13, 14, 15], 12), ([16, 17, 18, 19, 20, 21, 22, 24, 25, 26, 27], 23), ([], 28)] [29, 30] (by kernel_rfl) (fun w' => ∃ z : UW w8, w' = z.val) (by kernel_rfl) (fun _ _ d _ _ h => by cases d <;> exact h) ⟨⟨w8.drew, (Upd.refl _ _).drew⟩, rfl⟩ ?_
            simp only [segsAt_cons, segsAt_nil, opsAt_cons, opsAt_nil, List.getElem?_toArray, List.getElem?_cons_zero, List.getElem?_cons_succ, consO_some, pairO_some]
            refine wpS_seg ?_
            repeat (first | go_big_quiet_skip | (go_big_quiet_want; go_big_quiet_op; go_big_quiet_on))
            refine wpQuiet_nil ?_
            have HD0 := Lib.hid (show Upd w8 w8.drew Nope from (Upd.refl _ _).drew)
            generalize w8.drew = wd at *
            have hP := HI8.out.nn HD0.out
            have hid : ((srtK (En.key a.now age) M7).map (·.id)).length ≤ 5000 := by rw [List.length_map, len_srtK]; omega
            have HOR := Lib.hid (hP.own.ro.order_ a.now (by omega) (by omega) (by omega) a0 a1)
            generalize hids : (srtK (En.key a.now age) M7).map (·.id) = ids at *
            have HIDS := Lib.hid hids
            clear hP hids
            go_wp2_with fail
            refine HOR.out.mono ?_
            rintro e we ⟨Ao, co, rfl, hro, ue, _⟩
            have HDE := Lib.hid (HD0.out.nn ue)
            have HRO := Lib.hid hro
            clear hro ue HOR
            go_wp2_with fail
            refine ⟨⟨⟨we, HDE.out⟩, rfl⟩, ?_⟩
            refine wpS_seg ?_
            refine wpQuiet_nil ?_
            have hP := HI8.out.nn HDE.out
            have HOF := Lib.hid (orderF_any we age limit room A6 B6 ca6 cb6 M7 N hP.ra hP.rb (by omega) (by omega) hP.own.ro.ok a.now (by omega) (by omega) a0 a1)
            rw [HIDS.out] at HOF
            clear hP
            go_wp2_with fail
            refine HOF.out.mono ?_
            rintro e wf ⟨Ap, cp, rfl, hrp, uf⟩
            have HDF := Lib.hid (HDE.out.nn uf)
            have HSM := Lib.hid (sameI_any ids (c := co) (c' := cp) wf (HRO.out.upd uf (fun _ h => h.elim)) hrp (by omega))
            clear hrp uf HOF
            go_wp2_with fail
            refine ⟨⟨⟨wf, HDF.out⟩, rfl⟩, ?_⟩
            refine wpS_seg ?_
            refine wpQuiet_nil ?_
            go_wp2_with fail
            refine HSM.out.mono ?_
            rintro e wg ⟨rfl, ug⟩
            have HDG := Lib.hid (HDF.out.dr ug)
            clear ug HSM
            go_wp2_with fail
            refine ⟨⟨⟨wg, HDG.out⟩, rfl⟩, ?_⟩
            refine wpS_seg ?_
            repeat (first | go_big_quiet_skip | (go_big_quiet_want; go_big_quiet_op; go_big_quiet_on))
            refine wpQuiet_nil ?_
            have HLN := Lib.hid ((HI8.out.nn HDG.out).own.ro.len_ (by omega))
            go_wp2_with fail
            refine HLN.out.mono ?_
            rintro e wh ⟨rfl, hwh⟩
            obtain rfl : wg = wh := hwh.symm
            clear HLN
            go_wp2_with fail
            refine ⟨⟨⟨wg, HDG.out⟩, rfl⟩, ?_⟩
            refine wpS_seg ?_
            repeat (first | go_big_quiet_skip | (go_big_quiet_want; go_big_quiet_op; go_big_quiet_on))
            refine wpQuiet_nil ?_
            clear X0 X1 X2 X3 X4 Y2 Y4
            have HF1 := Lib.hid ((HI8.out.nn HDG.out).own.ro.flying_ a.x.dest (by rw [HPX.out.len]; omega))
            rw [HPX.out.cnt] at HF1
            have hcb : cntF a.x.dest N ≤ 5000 := Nat.le_trans (cntF_le _ _) (by omega)
            go_wp2_with fail
            refine HF1.out.mono ?_
            rintro e wi ⟨rfl, ui⟩
            have HDI := Lib.hid (HDG.out.nn ui)
            clear ui HF1
            go_wp2_with fail
            refine ⟨⟨⟨wi, HDI.out⟩, rfl⟩, ?_⟩
            refine wpS_seg ?_
            refine wpQuiet_nil ?_
            have HF2 := Lib.hid (flyF_any wi age limit room A6 B6 M7.length ca6 cb6 N (HI8.out.nn HDI.out).rb (by omega) a.x.dest)
            have hcc : ((cntF a.x.dest N : Int) != cntF a.x.dest N) = false := by simp
            generalize cntF a.x.dest N = cy at *
            go_wp2_with fail
            refine HF2.out.mono ?_
            rintro e wj ⟨rfl, uj⟩
            have HDJ := Lib.hid (HDI.out.nn uj)
            clear uj HF2
            go_wp2_with fail
            refine ⟨⟨⟨wj, HDJ.out⟩, rfl⟩, ?_⟩
            refine wpS_last ?_
            repeat (first | go_big_quiet_skip | (go_big_quiet_want; go_big_quiet_op; go_big_quiet_on))
            refine wpQuiet_nil ?_
            go_wp2_with fail
            go_roundw
            case rel => exact ⟨k + 1, F5, M7, N, fly, A6, B6, ca6, cb6, by omega, by go_num, HI8.out.nn HDJ.out, HPX.out, hle1, hne1⟩
            case measure => simp [intOf]; omega
          · as_aux_lemma =>
            have hle1 : L.length ≤ k + 1 := by have := HLK.out; omega
            have hne1 : N.length ≤ k + 1 := by have := HLK.out; omega
            have HPX := Lib.hid HPI.out
            go_upto_region 38 with (fail)
            have hnl : ((L.length : Int) != L.length) = false := by simp
            have X0 := fun z : UW w5 => z.cell (HI.out.mb.agg5.1)
            have X1 := fun z : UW w5 => z.cell (HI.out.mb.agg5.2.1)
            have X2 := fun z : UW w5 => z.cell (HI.out.mb.agg5.2.2.1)
            have X3 := fun z : UW w5 => z.cell (HI.out.mb.agg5.2.2.2.1)
            have X4 := fun z : UW w5 => z.cell (HI.out.mb.agg5.2.2.2.2)
            have Y2 := fun z : UW w5 => z.cell ((HQ.out.cell 2).trans rfl : w5.cell? ⟨qa, 2, none⟩ = some (.int .i64 a.now))
            have Y4 := fun z : UW w5 => z.cell ((HQ.out.cell 4).trans rfl : w5.cell? ⟨qa, 4, none⟩ = some (.string a.x.dest))
            refine region_seq [([0, 1, 2, 4, 5, 6], 3), ([], 7), ([], 8), ([9, 10, 11, 13, 14, 15], 12), ([16, 17, 18, 19, 20, 21, 22, 24, 25, 26, 27], 23), ([], 28)] [29, 30] (by kernel_rfl) (fun w' => ∃ z : UW w5, w' = z.val) (by kernel_rfl) (fun _ _ d _ _ h => by cases d <;> exact h) ⟨⟨w5.drew, (Upd.refl _ _).drew⟩, rfl⟩ ?_
            simp only [segsAt_cons, segsAt_nil, opsAt_cons, opsAt_nil, List.getElem?_toArray, List.getElem?_cons_zero, List.getElem?_cons_succ, consO_some, pairO_some]
            refine wpS_seg ?_
            repeat (first | go_big_quiet_skip | (go_big_quiet_want; go_big_quiet_op; go_big_quiet_on))
            refine wpQuiet_nil ?_
            have HD0 := Lib.hid (show Upd w5 w5.drew Nope from (Upd.refl _ _).drew)
            generalize w5.drew = wd at *
            have hP := HI.out.nn HD0.out
            have hid : ((srtK (En.key a.now age) L).map (·.id)).length ≤ 5000 := by rw [List.length_map, len_srtK]; omega
            have HOR := Lib.hid (hP.own.ro.order_ a.now (by omega) (by omega) (by omega) a0 a1)
            generalize hids : (srtK (En.key a.now age) L).map (·.id) = ids at *
            have HIDS := Lib.hid hids
            clear hP hids
            go_wp2_with fail
            refine HOR.out.mono ?_
            rintro e we ⟨Ao, co, rfl, hro, ue, _⟩
            have HDE := Lib.hid (HD0.out.nn ue)
            have HRO := Lib.hid hro
            clear hro ue HOR
            go_wp2_with fail
            refine ⟨⟨⟨we, HDE.out⟩, rfl⟩, ?_⟩
            refine wpS_seg ?_
            refine wpQuiet_nil ?_
            have hP := HI.out.nn HDE.out
            have HOF := Lib.hid (orderF_any we age limit room A1 B1 ca cb L N hP.ra hP.rb (by omega) (by omega) hP.own.ro.ok a.now (by omega) (by omega) a0 a1)
            rw [HIDS.out] at HOF
            clear hP
            go_wp2_with fail
            refine HOF.out.mono ?_
            rintro e wf ⟨Ap, cp, rfl, hrp, uf⟩
            have HDF := Lib.hid (HDE.out.nn uf)
            have HSM := Lib.hid (sameI_any ids (c := co) (c' := cp) wf (HRO.out.upd uf (fun _ h => h.elim)) hrp (by omega))
            clear hrp uf HOF
            go_wp2_with fail
            refine ⟨⟨⟨wf, HDF.out⟩, rfl⟩, ?_⟩
            refine wpS_seg ?_
            refine wpQuiet_nil ?_
            go_wp2_with fail
            refine HSM.out.mono ?_
            rintro e wg ⟨rfl, ug⟩
            have HDG := Lib.hid (HDF.out.dr ug)
            clear ug HSM
            go_wp2_with fail
            refine ⟨⟨⟨wg, HDG.out⟩, rfl⟩, ?_⟩
            refine wpS_seg ?_
            repeat (first | go_big_quiet_skip | (go_big_quiet_want; go_big_quiet_op; go_big_quiet_on))
            refine wpQuiet_nil ?_
            have HLN := Lib.hid ((HI.out.nn HDG.out).own.ro.len_ (by omega))
            go_wp2_with fail
            refine HLN.out.mono ?_
            rintro e wh ⟨rfl, hwh⟩
            obtain rfl : wg = wh := hwh.symm
            clear HLN
            go_wp2_with fail
            refine ⟨⟨⟨wg, HDG.out⟩, rfl⟩, ?_⟩
            refine wpS_seg ?_
            repeat (first | go_big_quiet_skip | (go_big_quiet_want; go_big_quiet_op; go_big_quiet_on))
            refine wpQuiet_nil ?_
            clear X0 X1 X2 X3 X4 Y2 Y4
            have HF1 := Lib.hid ((HI.out.nn HDG.out).own.ro.flying_ a.x.dest (by rw [HPX.out.len]; omega))
            rw [HPX.out.cnt] at HF1
            have hcb : cntF a.x.dest N ≤ 5000 := Nat.le_trans (cntF_le _ _) (by omega)
            go_wp2_with fail
            refine HF1.out.mono ?_
            rintro e wi ⟨rfl, ui⟩
            have HDI := Lib.hid (HDG.out.nn ui)
            clear ui HF1
            go_wp2_with fail
            refine ⟨⟨⟨wi, HDI.out⟩, rfl⟩, ?_⟩
            refine wpS_seg ?_
            refine wpQuiet_nil ?_
            have HF2 := Lib.hid (flyF_any wi age limit room A1 B1 L.length ca cb N (HI.out.nn HDI.out).rb (by omega) a.x.dest)
            have hcc : ((cntF a.x.dest N : Int) != cntF a.x.dest N) = false := by simp
            generalize cntF a.x.dest N = cy at *
            go_wp2_with fail
            refine HF2.out.mono ?_
            rintro e wj ⟨rfl, uj⟩
            have HDJ := Lib.hid (HDI.out.nn uj)
            clear uj HF2
            go_wp2_with fail
            refine ⟨⟨⟨wj, HDJ.out⟩, rfl⟩, ?_⟩
            refine wpS_last ?_
            repeat (first | go_big_quiet_skip | (go_big_quiet_want; go_big_quiet_op; go_big_quiet_on))
            refine wpQuiet_nil ?_
            go_wp2_with fail
            go_roundw
            case rel => exact ⟨k + 1, F5, L, N, fly, A1, B1, ca, cb, by omega, by go_num, HI.out.nn HDJ.out, HPX.out, hle1, hne1⟩
            case measure => simp [intOf]; omega
        · obtain rfl : k = l.length := by omega
          go_wp2_with fail
          go_ret
          exact ⟨rfl, HR.out.own.upd⟩
end Go.Proofs.Ythpilbooolgkiaa
