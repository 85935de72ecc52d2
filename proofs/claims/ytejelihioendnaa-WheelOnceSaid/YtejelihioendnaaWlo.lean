/- WheelOnce. -/
import Derived.Test.YtejelihioendnaaWpo
set_option linter.unusedVariables false
set_option linter.unusedSimpArgs false
namespace Go.Proofs.Ytejelihioendnaa
open Go.RowKit
attribute [local go_sem] bmin2 bmax2 bmin_two bmax_two

/-- The two wheels, the map, the row of those that fired. -/
structure FS (w wr : World) (g g2 : Nat) (F G : Nat → Prop) (now t : Int) (L0 : List (Int × Int)) (b : Nat) (Fm : List (Int × Int)) (v : Value) (ord : List Int) : Prop where
  two : Two w wr g F t (past t L0) g2 G now L0
  mp : Mp MF wr b Fm
  b0 : w.heap.size ≤ b
  bF : ¬ F b
  bG : ¬ G b
  own : wr.ownsRow w.heap.size 3 1 v ord.length (ord.map (Value.int .i64))
  aw : ∀ k, v.ownBlock = some k → ¬ F k ∧ ¬ G k ∧ k ≠ b
section
variable {w wr w' : World} {g g2 : Nat} {F F' G : Nat → Prop} {now t t' : Int} {L0 : List (Int × Int)} {b : Nat} {Fm Fm' : List (Int × Int)} {v v' : Value} {ord ord' : List Int} (h : FS w wr g g2 F G now t L0 b Fm v ord)
include h
theorem FS.upd : Upd w wr Nope := h.two.a.upd
theorem FS.adv (hg : Gr wr w' F F') (ha : At w' g F' t' (past t' L0)) : FS w w' g g2 F' G now t' L0 b Fm v ord :=
  ⟨h.two.stepA hg ha, h.mp.upd hg.upd h.bF, h.b0, fun hf => by
    rcases hg.new b hf with h1 | h1
    · exact h.bF h1
    · have := h.mp.lt; omega, h.bG, own_upd h.own hg.upd (fun k hk => (h.aw k hk).1), fun k hk => ⟨fun hf => by
      rcases hg.new k hf with h1 | h1
      · exact (h.aw k hk).1 h1
      · have := (own_blk h.own hk).2; omega, (h.aw k hk).2⟩⟩
theorem FS.nn (u : Upd wr w' Nope) : FS w w' g g2 F G now t L0 b Fm v ord :=
  ⟨h.two.nn u, h.mp.upd u id, h.b0, h.bF, h.bG, own_upd h.own u (fun k hk hf => hf), h.aw⟩
theorem FS.put (hm : Mp MF w' b Fm') (u : Upd wr w' (· = b)) : FS w w' g g2 F G now t L0 b Fm' v ord :=
  have hu : Upd w w' Nope := h.two.a.upd.on u h.b0
  ⟨⟨⟨h.two.a.at_.apart u (fun i hi e => h.bF (e ▸ hi)), h.two.a.fresh, hu⟩, ⟨h.two.b.at_.apart u (fun i hi e => h.bG (e ▸ hi)), h.two.b.fresh, hu⟩, h.two.ap⟩, hm, h.b0, h.bF, h.bG, own_upd h.own u (fun k hk e => (h.aw k hk).2.2 e), h.aw⟩
theorem FS.app (ho : w'.ownsRow w.heap.size 3 1 v' ord'.length (ord'.map (Value.int .i64))) (u : Upd wr w' (fun k => v.ownBlock = some k)) (hn : ∀ k, v'.ownBlock = some k → v.ownBlock = some k ∨ wr.heap.size ≤ k) : FS w w' g g2 F G now t L0 b Fm v' ord' :=
  have hu : Upd w w' Nope := h.two.a.upd.trans u (fun _ _ h => h) (fun i hi e => absurd (own_blk h.own e).1 (by omega))
  ⟨⟨⟨h.two.a.at_.apart u (fun i hi e => (h.aw i e).1 hi), h.two.a.fresh, hu⟩, ⟨h.two.b.at_.apart u (fun i hi e => (h.aw i e).2.1 hi), h.two.b.fresh, hu⟩, h.two.ap⟩, h.mp.upd u (fun e => (h.aw b e).2.2 rfl), h.b0, h.bF, h.bG, ho, fun k hk => by
    rcases hn k hk with h1 | h1
    · exact h.aw k h1
    · refine ⟨fun hf => ?_, fun hf => ?_, fun e => ?_⟩
      · have := h.two.a.at_.lt hf; omega
      · have := h.two.b.at_.lt hf; omega
      · have := h.mp.lt; omega⟩
end
def Fmk (Fm : List (Int × Int)) (ord : List Int) : Prop := ∀ x, look x Fm = if x ∈ ord then some 1 else none
theorem Fmk.put {Fm : List (Int × Int)} {ord : List Int} (h : Fmk Fm ord) (x : Int) : Fmk (put x 1 Fm) (ord ++ [x]) := fun y => by
  rw [look_put, h y]
  by_cases e : y = x
  · simp [e]
  · simp [e]
def Ok4 (now : Int) (l st : List Int) (bt : Int) : Prop := l.length ≤ 60 ∧ st.length ≤ 60 ∧ 0 ≤ now ∧ now ≤ 549755813888 ∧ 1 ≤ bt ∧ bt ≤ 1048576
set_option maxRecDepth 100000 in
set_option maxHeartbeats 8000000 in
theorem wheelOnce_any (w : World) (now : Int) (hnow : (Lit.int .i64 now).wf = true) (A : Option Addr) (cap : Nat) (l : List Int) (rd : Rd1 (Value.int .i64) w A l) (hc : l.length ≤ cap) (hm : cap ≤ maxLen) (ok : ∀ y ∈ l, (Lit.int .i64 y).wf = true)
    (B : Option Addr) (capb : Nat) (st : List Int) (rdb : Rd1 (Value.int .i64) w B st) (hcb : st.length ≤ capb) (hmb : capb ≤ maxLen) (okb : ∀ y ∈ st, (Lit.int .i64 y).wf = true) (bt : Int) (hbt : (Lit.int .i64 bt).wf = true) :
    Calls Try.prog 4 #[.int .i64 now, .slice A l.length cap, .slice B st.length capb, .int .i64 bt] w fun e w' => e = .returned (.bool true) ∧ Below w.heap.size w w' := by
  refine Calls.mono (R := fun e w' => e = .returned (.bool true) ∧ Upd w w' Nope) ?_ (fun e w' ⟨h, u⟩ => ⟨h, u.below (fun _ h => h.elim)⟩)
  have hmm := @run_makeMap Try.prog
  have hlm : l.length ≤ 9223372036854775807 := by unfold maxLen at hm; omega
  have hlb : st.length ≤ 9223372036854775807 := by unfold maxLen at hmb; omega
  have HA := Lib.hid (awake_any w)
  have HRD := Lib.hid rd
  have HRS := Lib.hid rdb
  have HMM := Lib.hid hmm
  clear rd hc hm ok rdb hcb hmb okb hmm
  go_enter Try.func4, Try.ntmps4
  go_wp2_with fail
  refine HA.out.mono ?_
  rintro e w1 ⟨rfl, u1⟩
  have U1 := Lib.hid u1
  clear HA u1
  by_cases hin : Ok4 now l st bt
  · obtain ⟨h1, h2, h3, h4, h5, h6⟩ := hin
    have hok : newOk now = true := by simp [newOk]; omega
    have d1 : decide (60 < (l.length : Int)) = false := by simp; omega
    have d2 : decide (60 < (st.length : Int)) = false := by simp; omega
    have d3 : decide (now < 0) = false := by simp; omega
    have d4 : decide (549755813888 < now) = false := by simp; omega
    have d5 : decide (bt < 1) = false := by simp; omega
    have d6 : decide (1048576 < bt) = false := by simp; omega
    have HNW := Lib.hid (at_new now w1)
    go_wp2_with fail
    refine HNW.out.mono ?_
    rintro e w2 ⟨_, hx, u2⟩
    obtain ⟨g, F, rfl, hA, hf⟩ := hx hok
    have hO : Own w w2 g F now [] := ⟨hA, fun i hi => by have := hf i hi; have := U1.out.size; omega, U1.out.nn u2⟩
    have HO := Lib.hid hO
    have HNW := Lib.hid (at_new now w2)
    clear hO hA hf u2 hx
    go_wp2_with fail
    refine HNW.out.mono ?_
    rintro e w3 ⟨_, hx, u3⟩
    obtain ⟨g2, G, rfl, hA, hf⟩ := hx hok
    have hT : Two w w3 g F now [] g2 G now [] := ⟨HO.out.nn u3, ⟨hA, fun i hi => by have := hf i hi; have := HO.out.upd.size; omega, HO.out.upd.nn u3⟩, fun i hi hi2 => by have := HO.out.at_.lt hi; have := hf i hi2; omega⟩
    have HT := Lib.hid hT
    clear hT hA hf u3 hx HNW HO
    go_wp2_with fail
    clear d1 d2 d3 d4 d5 d6
    go_loopw [13] (fun i wr => ∃ (k : Nat) (F' G' : Nat → Prop) (L : List (Int × Int)), k ≤ l.length ∧ i = .int .i64 k ∧ Two w wr g F' now L g2 G' now L ∧ SetK now l k L) (fun i _ => l.length - (intOf i).toNat)
    case atStart => exact ⟨0, F, G, [], by omega, rfl, HT.out, SetK.start now l⟩
    case round =>
      obtain ⟨k, F1, G1, L, hk, rfl, hT, hS⟩ := hrel
      by_cases hkl : k < l.length
      · obtain ⟨ad, rfl, hcell⟩ := (HRD.out.upd hT.a.upd (fun _ h => h.elim)) k hkl
        have hS1 := hS.next hkl
        by_cases hb : 0 ≤ l[k] ∧ l[k] ≤ 1099511627776
        · have hC := hT.a.at_.set_ (k : Int) l[k] (okI_of (by omega) (by omega))
          obtain ⟨t1, t2⟩ := setT_of (now := now) (L := L) (id := (k : Int)) (due := l[k]) (by omega) hb.1 (by omega)
          rw [t1, t2] at hC
          have d1 : decide (l[k] < 0) = false := by simp; omega
          have d2 : decide (1099511627776 < l[k]) = false := by simp; omega
          have HC := Lib.hid hC
          have HS := Lib.hid hS1
          have HT1 := Lib.hid hT
          have HE := Lib.hid (And.intro t1 t2)
          have HCL := Lib.hid (fun (wx : World) (u : Upd w wx Nope) => (HRD.out.upd u (fun _ h => h.elim)).at_ k hkl)
          clear hC hS1 hT t1 t2 hS hb
          generalize l[k] = v at *
          go_wp2_with fail
          refine HC.out.mono ?_
          rintro e w4 ⟨rfl, F4, hA4, hg4⟩
          have hT4 := HT1.out.stepA hg4 hA4
          have hcell4 := HCL.out w4 hT4.a.upd
          have hC := hT4.b.at_.set_ (k : Int) v (okI_of (by omega) (by omega))
          rw [HE.out.1, HE.out.2] at hC
          have HC := Lib.hid hC
          have HT4 := Lib.hid hT4
          clear hA4 hg4 hcell hC hT4 d1 d2
          go_wp2_with fail
          refine HC.out.mono ?_
          rintro e w5 ⟨rfl, G5, hA5, hg5⟩
          have HT5 := Lib.hid (HT4.out.stepB hg5 hA5)
          clear hA5 hg5 hcell4
          go_wp2_with fail
          go_roundw
          case rel => exact ⟨k + 1, F4, G5, _, by omega, by go_num, HT5.out, HS.out⟩
          case measure => simp [intOf]; omega
        · have hbb : decide (l[k] < 0) = true ∨ (decide (l[k] < 0) = false ∧ decide (1099511627776 < l[k]) = true) := by simp; omega
          have HU := Lib.hid hT.a.upd
          clear hT hS hS1 hb
          generalize l[k] = v at *
          rcases hbb with d1 | ⟨d1, d2⟩
          all_goals
            go_wp2
            go_returns
            exact ⟨rfl, HU.out⟩
      · obtain rfl : k = l.length := by omega
        have HS := Lib.hid hS
        have HNW := Lib.hid hT.a.at_.gt
        have hp0 : past now L = L := (past_all hT.a.at_.gt).1
        have hu0 : upTo now L = [] := (past_all hT.a.at_.gt).2
        have hwm : Upd wr (wr.alloc (.map #[] 0)) Nope := (Upd.refl wr _).alloc _
        have hF0 : FS w (wr.alloc (.map #[] 0)) g g2 F1 G1 now now L wr.heap.size [] (.slice none 0 0) [] := by
          refine ⟨by rw [hp0]; exact hT.nn hwm, Mp.new MF wr, hT.a.upd.size, fun hf => Nat.lt_irrefl _ (hT.a.at_.lt hf), fun hf => Nat.lt_irrefl _ (hT.b.at_.lt hf), ⟨by simp, .inl ⟨rfl, rfl⟩⟩, fun k hk => by cases hk⟩
        have hsrt := hT.b.at_.srt
        have hids := hT.b.at_.ids
        have HSR := Lib.hid hsrt
        have HID := Lib.hid hids
        have H0 := Lib.hid (show ∃ (k : Nat) (t : Int) (F' : Nat → Prop) (Fm : List (Int × Int)) (A' : Option Addr) (cap' : Nat), k ≤ st.length ∧ (Value.int .i64 0 : Value) = .int .i64 k ∧ (Value.int .i64 now : Value) = .int .i64 t ∧ (Value.slice none 0 0 : Value) = .slice A' (idsOf (upTo t L)).length cap' ∧ FS w (wr.alloc (.map #[] 0)) g g2 F' G1 now t L wr.heap.size Fm (.slice A' (idsOf (upTo t L)).length cap') (idsOf (upTo t L)) ∧ Fmk Fm (idsOf (upTo t L)) ∧ now ≤ t ∧ t ≤ 1099511627776 from
          ⟨0, now, F1, [], none, 0, by omega, rfl, rfl, by rw [hu0]; rfl, by rw [hu0]; exact hF0, by rw [hu0]; intro x; simp [look, idsOf], Int.le_refl _, by omega⟩)
        have hmm := HMM.out
        have hlw : wr.heap.size = wr.heap.size := rfl
        clear hS hT hp0 hu0 hwm hF0 hsrt hids hlw
        go_wp2_with fail
        generalize (wr.alloc (.map #[] 0)) = wm at *
        generalize wr.heap.size = b at *
        clear hmm
        go_loopw [14, 16, 17] (fun tov v i wr => ∃ (k : Nat) (t : Int) (F' : Nat → Prop) (Fm : List (Int × Int)) (A' : Option Addr) (cap' : Nat), k ≤ st.length ∧ i = .int .i64 k ∧ tov = .int .i64 t ∧ v = .slice A' (idsOf (upTo t L)).length cap' ∧ FS w wr g g2 F' G1 now t L b Fm (.slice A' (idsOf (upTo t L)).length cap') (idsOf (upTo t L)) ∧ Fmk Fm (idsOf (upTo t L)) ∧ now ≤ t ∧ t ≤ 1099511627776) (fun _ _ i _ => st.length - (intOf i).toNat)
        case atStart => exact H0.out
        case round =>
          clear H0
          obtain ⟨i, t, F2, Fm, A2, cap2, hi, rfl, rfl, rfl, hFS, hFm, hnt, htm⟩ := hrel
          have hLl : L.length = l.length := HS.out.1
          have hnd : (idsOf (upTo t L)).Nodup := HID.out.sublist (List.filter_sublist.map _)
          by_cases hil : i < st.length
          · obtain ⟨bd, rfl, hsc⟩ := (HRS.out.upd hFS.upd (fun _ h => h.elim)) i hil
            have hLol : ∀ t3, (idsOf (upTo t3 L)).length ≤ l.length := fun t3 => by
              have := upTo_len t3 L
              unfold idsOf
              rw [List.length_map]
              omega
            have HLOL := Lib.hid hLol
            have HFS := Lib.hid hFS
            have HFM := Lib.hid hFm
            have HLL := Lib.hid hLl
            by_cases hsb : 0 ≤ st[i] ∧ st[i] ≤ 549755813888 ∧ t + st[i] ≤ 1099511627776
            · obtain ⟨q1, q2, q3⟩ := hsb
              have d1 : decide (st[i] < 0) = false := by simp; omega
              have d2 : decide (549755813888 < st[i]) = false := by simp; omega
              clear hFS hFm hLol hLl hnd
              generalize st[i] = si at *
              obtain ⟨to2, hto⟩ : ∃ to2, t + si = to2 := ⟨_, rfl⟩
              have hw2 : wrap64 to2 = to2 := by rw [← hto]; go_arith
              have d3 : decide (1099511627776 < to2) = false := by simp; omega
              have htt : t ≤ to2 := by omega
              have ht2 : to2 ≤ 1099511627776 := by omega
              go_wp2_with fail
              clear d1 d2 d3 hw2 hto q1 q2 q3 hsc
              go_loopw [16, 18] (fun v kv wr => ∃ (k : Nat) (t3 : Int) (F3 : Nat → Prop) (Fm3 : List (Int × Int)) (A3 : Option Addr) (cap3 : Nat), kv = .int .i64 k ∧ v = .slice A3 (idsOf (upTo t3 L)).length cap3 ∧ FS w wr g g2 F3 G1 now t3 L b Fm3 (.slice A3 (idsOf (upTo t3 L)).length cap3) (idsOf (upTo t3 L)) ∧ Fmk Fm3 (idsOf (upTo t3 L)) ∧ now ≤ t3 ∧ t3 ≤ to2 ∧ k ≤ (idsOf (upTo t3 L)).length) (fun _ kv _ => l.length + 1 - (intOf kv).toNat)
              case atStart => exact ⟨0, t, F2, Fm, A2, cap2, rfl, rfl, HFS.out, HFM.out, hnt, htt, by omega⟩
              case round =>
                obtain ⟨k, t3, F3, Fm3, A3, cap3, rfl, rfl, hFS3, hFm3, hn3, h3to, hko⟩ := hrel
                have hkl2 : k ≤ l.length := Nat.le_trans hko (HLOL.out t3)
                have dk : decide ((k : Int) ≤ (l.length : Int)) = true := by simp; omega
                have hok3 : advOk t3 to2 bt = true := by simp [advOk]; omega
                obtain ⟨t', he, ht1, ht2', ht3⟩ := advR_spec hok3 hFS3.two.a.at_.srt hFS3.two.a.at_.gt
                rw [past_past ht2'] at he
                have hC := hFS3.two.a.at_.adv_ (by have := upTo_len t3 L; have := HLL.out; omega) to2 bt
                rw [he] at hC
                have hsp := ids_split HSR.out ht2'
                have hmf : ∀ x ∈ idsOf (upTo t' (past t3 L)), ∃ i, ∃ h : i < l.length, x = (i : Int) ∧ max l[i] (now + 1) ≤ t' := fun x hx => by
                  obtain ⟨p, hp, e⟩ := List.mem_map.1 hx
                  have hp := mem_upTo.1 hp
                  obtain ⟨i', hi', _, h1, h2⟩ := (HS.out.2 p.1 p.2).1 (mem_past.1 hp.1).1
                  exact ⟨i', hi', by rw [← e]; exact h1, by rw [← h2]; exact hp.2⟩
                have hnd2 : (idsOf (upTo t3 L) ++ idsOf (upTo t' (past t3 L))).Nodup := by
                  rw [hsp]
                  exact HID.out.sublist (List.filter_sublist.map _)
                have hfl : (idsOf (upTo t3 L)).length + (idsOf (upTo t' (past t3 L))).length ≤ l.length := by
                  rw [← List.length_append, hsp]
                  exact HLOL.out t'
                have d4 : decide (to2 < t') = false := by simp; omega
                have HC := Lib.hid hC
                have HF3 := Lib.hid hFS3
                have HFM3 := Lib.hid hFm3
                have HSP := Lib.hid hsp
                have HMF := Lib.hid hmf
                have HND2 := Lib.hid hnd2
                have HT3 := Lib.hid ht3
                clear hC hFS3 hFm3 hsp hmf hnd2 he ht3 hok3
                generalize idsOf (upTo t' (past t3 L)) = f at *
                generalize hord : idsOf (upTo t3 L) = ord at *
                go_wp2_with fail
                refine HC.out.mono ?_
                rintro e w5 ⟨A5, cap5, F5, rfl, hr5, hA5, hg5, hd5⟩
                have hF5 := HF3.out.adv hg5 hA5
                have haw5 : ∀ ad, A5 = some ad → ad.block ≠ b ∧ ∀ q, A3 = some q → q.block ≠ ad.block := fun ad e => by
                  have h1 := (hd5 ad e).1
                  refine ⟨fun e' => ?_, fun q eq e' => ?_⟩
                  · have := HF3.out.mp.lt; omega
                  · subst eq
                    have := (own_blk HF3.out.own (k := q.block) rfl).2
                    omega
                have H5 := Lib.hid (show ∃ (j : Nat) (A4 : Option Addr) (cap4 : Nat) (Fm4 : List (Int × Int)), j ≤ f.length ∧ (Value.int .i64 0 : Value) = .int .i64 j ∧ (Value.slice A3 ord.length cap3 : Value) = .slice A4 (ord ++ f.take j).length cap4 ∧ FS w w5 g g2 F5 G1 now t' L b Fm4 (.slice A4 (ord ++ f.take j).length cap4) (ord ++ f.take j) ∧ Fmk Fm4 (ord ++ f.take j) ∧ Rd1 (Value.int .i64) w5 A5 f ∧ (∀ ad, A5 = some ad → ad.block ≠ b ∧ ∀ q, A4 = some q → q.block ≠ ad.block) from
                  ⟨0, A3, cap3, Fm3, by omega, rfl, by simp, by simpa using hF5, by simpa using HFM3.out, hr5, haw5⟩)
                clear hF5 haw5 hr5 hA5 hg5 hd5 HC
                go_wp2_with fail
                clear d4 dk
                go_loopw [16, 22] (fun v jv wr => ∃ (j : Nat) (A4 : Option Addr) (cap4 : Nat) (Fm4 : List (Int × Int)), j ≤ f.length ∧ jv = .int .i64 j ∧ v = .slice A4 (ord ++ f.take j).length cap4 ∧ FS w wr g g2 F5 G1 now t' L b Fm4 (.slice A4 (ord ++ f.take j).length cap4) (ord ++ f.take j) ∧ Fmk Fm4 (ord ++ f.take j) ∧ Rd1 (Value.int .i64) wr A5 f ∧ (∀ ad, A5 = some ad → ad.block ≠ b ∧ ∀ q, A4 = some q → q.block ≠ ad.block)) (fun _ jv _ => f.length - (intOf jv).toNat)
                case atStart => exact H5.out
                case round =>
                  clear H5
                  obtain ⟨j, A4, cap4, Fm4, hj, rfl, rfl, hFS4, hFm4, hr4, haw4⟩ := hrel
                  by_cases hjl : j < f.length
                  · obtain ⟨qd, rfl, hq⟩ := hr4 j hjl
                    obtain ⟨i', hi', hki, hmx⟩ := HMF.out f[j] (List.getElem_mem hjl)
                    obtain ⟨ad, rfl, hd⟩ := (HRD.out.upd hFS4.upd (fun _ h => h.elim)) i' hi'
                    have hnin : f[j] ∉ ord ++ f.take j := by
                      intro hx
                      have hn := HND2.out
                      rcases List.mem_append.1 hx with h | h
                      · exact (List.nodup_append.1 hn).2.2 _ h _ (List.getElem_mem hjl) rfl
                      · have hnf := (List.nodup_append.1 hn).2.1
                        obtain ⟨m, hm1, hm2⟩ := List.mem_take_iff_getElem.1 h
                        exact (List.pairwise_iff_getElem.1 hnf) m j (by omega) hjl (by omega) hm2
                    have hlk := hFm4 f[j]
                    rw [if_neg hnin] at hlk
                    have hput := hFm4.put f[j]
                    have e1 : ord ++ f.take j ++ [f[j]] = ord ++ f.take (j + 1) := by rw [List.append_assoc, List.take_add_one]; simp [hjl]
                    rw [e1] at hput
                    rw [hki] at hq hlk hput e1
                    have okx := okI_of (a := (i' : Int)) (by omega) (by omega)
                    have d5 : decide ((l.length : Int) ≤ (i' : Int)) = false := by simp; omega
                    have d5' : ¬ l.length ≤ i' := by omega
                    have d6 : decide (t' < imax l[i'] (now + 1)) = false := by rw [imax_eq]; simp; omega
                    have HQC := Lib.hid (fun (w6 : World) (u : Upd wr w6 (· = b)) => u.cell hq (by rw [addB]; exact (haw4 qd rfl).1))
                    have HSB := Lib.hid (fun (w6 : World) (e : w6.heap.size = wr.heap.size) => show w.heap.size ≤ w6.heap.size by rw [e]; exact hFS4.upd.size)
                    have HLT := Lib.hid (show (ord ++ f.take j).length ≤ 1000000 by simp; omega)
                    have HE1 := Lib.hid e1
                    have HPUT := Lib.hid hput
                    have HMP := Lib.hid hFS4.mp
                    have HFS4 := Lib.hid hFS4
                    have HR4 := Lib.hid hr4
                    have HAW4 := Lib.hid haw4
                    clear hFS4 hr4 haw4 hmx hki hnin hput e1 hFm4 d5
                    generalize l[i'] = v at *
                    generalize hm : (ord ++ f.take j).length = m at HFS4 ⊢
                    go_wp2_with (first
                      | (at_lookup; refine lookF1 HMP.out rfl _ _ rfl rfl (i' : Int) rfl okx ?_; rw [hlk])
                      | (at_mapUpdate; refine putF HMP.out rfl _ _ _ rfl rfl (i' : Int) 1 rfl rfl okx ?_; intro w6 hm6 hu6 hz6; have hq6 := HQC.out w6 hu6; obtain ⟨v', w7, hap, hown7, hu7, hl7⟩ := app1 (HFS4.out.put hm6 hu6).own (i' : Int) (HSB.out w6 hz6) HLT.out; obtain ⟨A8, cap8, rfl, hlen8, _, _, _⟩ := rd1_of_owns hown7; clear hz6)
                      | (at_builtin; refine wpList_append_eq _ _ rfl rfl hap rfl rfl rfl ?_)
                      | fail)
                    have he2 : (ord ++ f.take j).length + 1 = (ord ++ f.take (j + 1)).length := by simp; omega
                    have he3 : m + 1 = (ord ++ f.take (j + 1)).length := by rw [← he2, hm]
                    have HE3 := Lib.hid he3
                    rw [HE1.out, he2] at hown7
                    have hF7 : FS w w7 g g2 F5 G1 now t' L b (put (i' : Int) 1 Fm4) (.slice A8 (ord ++ f.take (j + 1)).length cap8) (ord ++ f.take (j + 1)) := by
                      rw [he2] at hl7
                      exact (HFS4.out.put hm6 hu6).app hown7 hu7 hl7
                    have hr7 : Rd1 (Value.int .i64) w7 (some qd) f := rd1_away (rd1_away HR4.out hu6 (fun q e => (HAW4.out q e).1)) hu7 (fun q e hf => by
                      have hf : (Value.slice A4 m cap4).ownBlock = some q.block := hf
                      cases A4 with
                      | none => cases hf
                      | some r =>
                        injection hf with hf
                        exact (HAW4.out q e).2 r rfl hf)
                    have haw7 : ∀ q, some qd = some q → q.block ≠ b ∧ ∀ r, A8 = some r → r.block ≠ q.block := fun q e => by
                      refine ⟨(HAW4.out q e).1, fun r er hrq => ?_⟩
                      subst er
                      rcases hl7 r.block rfl with h1 | h1
                      · cases A4 with
                        | none => cases h1
                        | some r' =>
                          injection h1 with h1
                          exact (HAW4.out q e).2 r' rfl (by omega)
                      · cases e
                        have := World.block_lt_of_cell? w6 _ hq6
                        rw [addB] at this
                        omega
                    have HF7 := Lib.hid hF7
                    have HR7 := Lib.hid hr7
                    have HAW7 := Lib.hid haw7
                    clear hF7 hr7 haw7 hown7 hu7 hl7 hlen8 hap hq6 hm6 hu6 he2 he3
                    go_roundw
                    case rel => exact ⟨j + 1, A8, cap8, _, by omega, by go_num, by rw [HE3.out], HF7.out, HPUT.out, HR7.out, HAW7.out⟩
                    case measure => simp [intOf]; omega
                  · obtain rfl : j = f.length := by omega
                    rw [List.take_length] at hFS4 hFm4 ⊢
                    rw [HSP.out] at hFS4 hFm4 ⊢
                    have HFS4 := Lib.hid hFS4
                    have HFM4 := Lib.hid hFm4
                    have hnt' : now ≤ t' := by omega
                    have hlen' : (idsOf (upTo t' L)).length = ord.length + f.length := by rw [← HSP.out, List.length_append]
                    clear hFS4 hFm4 hr4 haw4
                    by_cases hbr : t' = to2 ∧ (f.length : Int) < bt
                    · obtain ⟨rfl, hfb⟩ := hbr
                      go_wp2_with fail
                      go_roundw
                      case rel => exact ⟨i + 1, t', F5, Fm4, A4, cap4, by omega, by go_num, rfl, rfl, HFS4.out, HFM4.out, hnt', ht2⟩
                      case measure => simp [intOf]; omega
                    · have hfb : bt ≤ (f.length : Int) := by
                        rcases HT3.out with h | h
                        · by_cases hx : (f.length : Int) < bt
                          · exact absurd ⟨h, hx⟩ hbr
                          · omega
                        · exact h
                      have hcc : (t' == to2) = false ∨ ((t' == to2) = true ∧ decide ((f.length : Int) < bt) = false) := by
                        by_cases c : t' = to2
                        · exact .inr ⟨by simpa using c, by simp; omega⟩
                        · exact .inl (by simpa using c)
                      have hk1 : k + 1 ≤ (idsOf (upTo t' L)).length := by rw [hlen']; omega
                      rcases hcc with hc1 | ⟨hc1, hc2⟩
                      all_goals
                        go_wp2_with fail
                        go_roundw
                        case rel => exact ⟨k + 1, t', F5, Fm4, A4, cap4, by go_num, rfl, HFS4.out, HFM4.out, hnt', ht1, hk1⟩
                        case measure => simp [intOf]; omega
            · have hbb : decide (st[i] < 0) = true ∨ (decide (st[i] < 0) = false ∧ decide (549755813888 < st[i]) = true) ∨ (decide (st[i] < 0) = false ∧ decide (549755813888 < st[i]) = false ∧ decide (1099511627776 < t + st[i]) = true ∧ wrap64 (t + st[i]) = t + st[i]) := by
                by_cases c1 : st[i] < 0
                · exact .inl (by simpa using c1)
                · by_cases c2 : 549755813888 < st[i]
                  · exact .inr (.inl ⟨by simpa using c1, by simpa using c2⟩)
                  · exact .inr (.inr ⟨by simpa using c1, by simpa using c2, by simp; omega, by go_arith⟩)
              clear hsb hFS hFm hLol hLl hnd
              generalize st[i] = si at *
              have HU := Lib.hid HFS.out.upd
              rcases hbb with d1 | ⟨d1, d2⟩ | ⟨d1, d2, d3, d4⟩
              all_goals
                go_wp2
                go_returns
                exact ⟨rfl, HU.out⟩
          · obtain rfl : i = st.length := by omega
            have hok2 : advOk now t 1048576 = true := by simp [advOk]; omega
            obtain ⟨t', he, ht1, ht2, ht3⟩ := advR_spec hok2 HSR.out HNW.out
            obtain rfl : t' = t := by
              rcases ht3 with h | h
              · exact h
              · have := upTo_len t' L
                unfold idsOf at h
                rw [List.length_map] at h
                omega
            have hC := hFS.two.b.at_.adv_ (by omega) t' 1048576
            rw [he] at hC
            have HC := Lib.hid hC
            have HFS := Lib.hid hFS
            have HFM := Lib.hid hFm
            have hol : (idsOf (upTo t' L)).length ≤ 1000000000 := by
              have := upTo_len t' L
              unfold idsOf
              rw [List.length_map]
              omega
            have HOL := Lib.hid hol
            have HND := Lib.hid hnd
            have HMO := Lib.hid (fun x (hx : x ∈ idsOf (upTo t' L)) => List.mem_map.1 hx)
            have HLL := Lib.hid hLl
            clear hC hFS hFm he ht1 ht2 ht3 hol hok2 hnd hLl
            go_wp2_with fail
            refine HC.out.mono ?_
            rintro e w5 ⟨A5, cap5, G5, rfl, hr5, hA5, hg5, hd5⟩
            have hT5 := HFS.out.two.stepB hg5 hA5
            have hown5 := own_upd HFS.out.own hg5.upd (fun k hk => (HFS.out.aw k hk).2.1)
            obtain ⟨A', cap', e', _, hrd', _⟩ := rd1_of_owns hown5
            injection e' with e1 e2 e3
            subst e1
            have hS := same_any (ca := cap5) (cb := cap2) hr5 hrd' HOL.out
            simp only [decide_true] at hS
            have HSM := Lib.hid hS
            have HT := Lib.hid hT5
            have HMP := Lib.hid (HFS.out.mp.upd hg5.upd HFS.out.bG)
            clear hr5 hA5 hg5 hd5 hT5 hown5 hrd' hS e2 e3 HC
            go_wp2_with fail
            refine HSM.out.mono ?_
            rintro e w6 ⟨rfl, u6⟩
            have hT6 := HT.out.nn u6
            have HMP := Lib.hid (HMP.out.upd u6 id)
            have HN := Lib.hid hT6.a.at_.now_
            have HL1 := Lib.hid hT6.a.at_.len_
            have HL2 := Lib.hid hT6.b.at_.len_
            have HU := Lib.hid hT6.a.upd
            clear u6 hT6 HSM HT
            go_wp2_with (first
              | (go_at_call 18; refine HN.out.mono ?_; rintro e w7 ⟨rfl, rfl⟩)
              | fail)
            refine HL1.out.mono ?_
            rintro e w7 ⟨rfl, rfl⟩
            go_wp2_with fail
            refine HL2.out.mono ?_
            rintro e w8 ⟨rfl, rfl⟩
            go_wp2_with fail
            go_loopw [26] (fun i wr => ∃ k : Nat, k ≤ l.length ∧ i = .int .i64 k ∧ Upd w8 wr Nope) (fun i _ => l.length - (intOf i).toNat)
            case atStart => exact ⟨0, by omega, rfl, Upd.refl _ _⟩
            case round =>
              obtain ⟨k, hk, rfl, hdr⟩ := hrel
              have HDR := Lib.hid hdr
              by_cases hkl : k < l.length
              · have hu9 := HU.out.nn hdr
                obtain ⟨ad, rfl, hd⟩ := (HRD.out.upd hu9 (fun _ h => h.elim)) k hkl
                have okk := okI_of (a := (k : Int)) (by omega) (by omega)
                have HMQ := Lib.hid (fun (x : UW wr) => (HMP.out.upd hdr id).upd x.ok id)
                have XD := fun (x : UW wr) => x.cell hd
                have hmem : (k : Int) ∈ idsOf (upTo t' L) ↔ max l[k] (now + 1) ≤ t' := by
                  constructor
                  · intro h
                    obtain ⟨p, hp, e⟩ := HMO.out _ h
                    have hp := mem_upTo.1 hp
                    obtain ⟨i', hi', _, h1, h2⟩ := (HS.out.2 p.1 p.2).1 hp.1
                    have : i' = k := by omega
                    subst this
                    rw [← h2]
                    exact hp.2
                  · intro h
                    exact List.mem_map.2 ⟨(max l[k] (now + 1), (k : Int)), mem_upTo.2 ⟨(HS.out.2 _ _).2 ⟨k, hkl, hkl, rfl, rfl⟩, h⟩, rfl⟩
                have hfm := HFM.out (k : Int)
                generalize hlv : (look (k : Int) Fm).getD 0 = lv
                have hcon : (lv == 1) = decide (max l[k] (now + 1) ≤ t') := by
                  rw [← hlv, hfm]
                  by_cases hx : (k : Int) ∈ idsOf (upTo t' L)
                  · rw [if_pos hx, show decide (max l[k] (now + 1) ≤ t') = true by simpa using hmem.1 hx]
                    rfl
                  · rw [if_neg hx, show decide (max l[k] (now + 1) ≤ t') = false by
                      simp only [decide_eq_false_iff_not]
                      exact fun h => hx (hmem.2 h)]
                    rfl
                rw [← imax_eq] at hcon
                generalize l[k] = v at *
                have HLV := Lib.hid hlv
                clear hmem hfm hlv hu9 hd
                go_wp2_with fail
                refine region_uw (by kernel_rfl) (by kernel_rfl) ?_
                repeat (first
                  | go_big_quiet_skip
                  | (go_big_quiet_want; first
                    | (refine quiet_lookF (fun w' hw' => by obtain ⟨x, rfl⟩ := hw'; exact HMQ.out x) _ _ rfl rfl (k : Int) lv rfl okk HLV.out ?_; go_frame; go_big_quiet_on)
                    | (go_big_quiet_op; go_big_quiet_on)))
                refine wpQuiet_nil ?_
                rintro _ ⟨x, rfl⟩
                have HUX := Lib.hid (HDR.out.nn x.ok)
                go_wp2_with fail
                go_roundw
                case rel => exact ⟨k + 1, by omega, by go_num, HUX.out⟩
                case measure => simp [intOf]; omega
              · obtain rfl : k = l.length := by omega
                have HUE := Lib.hid (HU.out.nn hdr)
                clear hdr
                go_wp2_with fail
                go_returns
                exact ⟨rfl, HUE.out⟩
  · have hbb : decide (60 < (l.length : Int)) = true ∨ (decide (60 < (l.length : Int)) = false ∧ decide (60 < (st.length : Int)) = true) ∨ (decide (60 < (l.length : Int)) = false ∧ decide (60 < (st.length : Int)) = false ∧ decide (now < 0) = true) ∨ (decide (60 < (l.length : Int)) = false ∧ decide (60 < (st.length : Int)) = false ∧ decide (now < 0) = false ∧ decide (549755813888 < now) = true) ∨ (decide (60 < (l.length : Int)) = false ∧ decide (60 < (st.length : Int)) = false ∧ decide (now < 0) = false ∧ decide (549755813888 < now) = false ∧ decide (bt < 1) = true) ∨ (decide (60 < (l.length : Int)) = false ∧ decide (60 < (st.length : Int)) = false ∧ decide (now < 0) = false ∧ decide (549755813888 < now) = false ∧ decide (bt < 1) = false ∧ decide (1048576 < bt) = true) := by
      simp only [decide_eq_true_eq, decide_eq_false_iff_not]; unfold Ok4 at hin; omega
    clear hin
    rcases hbb with d1 | ⟨d1, d2⟩ | ⟨d1, d2, d3⟩ | ⟨d1, d2, d3, d4⟩ | ⟨d1, d2, d3, d4, d5⟩ | ⟨d1, d2, d3, d4, d5, d6⟩
    all_goals
      go_wp2
      go_returns
      exact ⟨rfl, U1.out⟩
end Go.Proofs.Ytejelihioendnaa
