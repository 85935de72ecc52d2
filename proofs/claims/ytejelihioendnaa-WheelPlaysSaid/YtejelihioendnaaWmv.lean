/- A wheel's move, whole. -/
import Derived.Test.YtejelihioendnaaWmo
set_option linter.unusedVariables false
set_option linter.unusedSimpArgs false
set_option linter.unusedSectionVars false
namespace Go.Proofs.Ytejelihioendnaa
open Go.RowKit

theorem inv_now {s : Wh} (h : Inv s) {tt : Int} (h1 : s.now ≤ tt) (h2 : tt ≤ 1099511627776) (hge : ∀ x d, dueOf s x = some d → tt ≤ d) : Inv ⟨tt, s.sl, s.pl⟩ :=
  ⟨by show 0 ≤ tt; have := h.n0; omega, h2, h.ok, h.to_, h.of_, fun i x d hi hl => by obtain ⟨_, b⟩ := h.b i x d hi hl; exact ⟨hge x d (h.due hi hl), b⟩,
    fun i x d hi hl => by obtain ⟨a, b⟩ := h.l0 i x d hi hl; exact ⟨by show d - tt < 64; omega, b⟩, h.ap, h.app⟩
/-- What holds while a wheel is moved. -/
structure Mv (w0 wr : World) (g : Nat) (bs0 : Nat → Option Nat) (bf bp : Nat) (s0 s : Wh) (bs : Nat → Option Nat) : Prop where
  wh : WH wr g bs bf bp s
  new : ∀ k c, bs k = some c → bs0 k = some c ∨ w0.heap.size ≤ c
  upd : Upd w0 wr (FT g bs0 bf bp)
  inv : Inv s
  now : s.now = s0.now
  due : ∀ x, dueOf s x = dueOf s0 x
theorem done_same {s s' : Wh} {j : Nat} (h : DoneAt s j) (h1 : s'.sl j = s.sl j) (h2 : s'.now = s.now) : DoneAt s' j := fun x d hx => by
  rw [h1] at hx
  rw [h2]
  exact h x d hx
set_option maxRecDepth 100000 in
set_option maxHeartbeats 8000000 in
theorem move_any {w : World} {g : Nat} {F : Nat → Prop} {s : Wh} (h : WO w g F s) (hi : Inv s) (tt : Int) (h1 : s.now ≤ tt) (h2 : tt ≤ 1099511627776) (hge : ∀ x d, dueOf s x = some d → tt ≤ d) :
    Calls Try.prog 24 #[.pointer (some ⟨g, 0, none⟩), .int .i64 tt] w fun e w' => e = .returned (.tuple #[]) ∧ ∃ F' s', WO w' g F' s' ∧ Gr w w' F F' ∧ Inv s' ∧ s'.now = tt ∧ (∀ x, dueOf s' x = dueOf s x) ∧ ∀ j, 64 ≤ j → j ≤ 256 → DoneAt s' j := by
  obtain ⟨bs, bf, bp, h, hF⟩ := h
  have hlF : ∀ k, FT g bs bf bp k → k < w.heap.size := fun k hk => h.lt hk
  have hlg := h.blk.lt
  have hq := Blk.new w #[.pointer (some ⟨g, 0, none⟩)] 24
  have u1 : Upd w (w.alloc (.cells #[.pointer (some ⟨g, 0, none⟩)] 24)) Nope := (Upd.refl w _).alloc _
  have ha := h.nn u1
  have us : Upd (w.alloc (.cells #[.pointer (some ⟨g, 0, none⟩)] 24)) ((w.alloc (.cells #[.pointer (some ⟨g, 0, none⟩)] 24)).setCell ⟨g, 0, none⟩ (.int .i64 tt)) (· = g) := (Upd.refl _ _).set ⟨g, 0, none⟩ _ (.inl rfl)
  have hs : WH ((w.alloc (.cells #[.pointer (some ⟨g, 0, none⟩)] 24)).setCell ⟨g, 0, none⟩ (.int .i64 tt)) g bs bf bp ⟨tt, s.sl, s.pl⟩ := by
    refine ⟨?_, ha.nil_, fun k b hk hb => (ha.slot k b hk hb).upd us ((ha.slot k b hk hb).ne_blk ha.blk), ha.far.upd us (ha.far.ne_blk ha.blk), ha.place.upd us (ha.place.ne_blk ha.blk), ha.inj, ha.nf, ha.fp⟩
    have := ha.blk.set 0 (.int .i64 tt)
    rw [wc_now] at this
    exact this
  have hqs := hq.upd us (by omega)
  have hcom := World.setCell_alloc_past (w := w) (.cells #[.pointer (some ⟨g, 0, none⟩)] 24) g 0 (.int .i64 tt) hlg
  rw [hcom] at hs us hqs
  have hM : Mv ((w.setCell ⟨g, 0, none⟩ (.int .i64 tt)).alloc (.cells #[.pointer (some ⟨g, 0, none⟩)] 24)) ((w.setCell ⟨g, 0, none⟩ (.int .i64 tt)).alloc (.cells #[.pointer (some ⟨g, 0, none⟩)] 24)) g bs bf bp ⟨tt, s.sl, s.pl⟩ ⟨tt, s.sl, s.pl⟩ bs :=
    ⟨hs, fun _ _ h => .inl h, Upd.refl _ _, inv_now hi h1 h2 hge, rfl, fun _ => rfl⟩
  have hU1 : Upd w ((w.setCell ⟨g, 0, none⟩ (.int .i64 tt)).alloc (.cells #[.pointer (some ⟨g, 0, none⟩)] 24)) (FT g bs bf bp) := (u1.mono (fun _ _ h => h.elim)).then_ (us.mono (fun i _ e => .inl e))
  have hqn : ¬ FT g bs bf bp w.heap.size := fun hx => Nat.lt_irrefl _ (hlF _ hx)
  have hsz : ((w.setCell ⟨g, 0, none⟩ (.int .i64 tt)).alloc (.cells #[.pointer (some ⟨g, 0, none⟩)] 24)).heap.size = w.heap.size + 1 := by simp
  have c0 := ha.c0
  have f0 := ha.blk.frozen 0
  have HM := Lib.hid hM
  have HU1 := Lib.hid hU1
  have HQN := Lib.hid hqn
  have HQ := Lib.hid hqs
  have HLF := Lib.hid hlF
  have HF := Lib.hid hF
  have HSZ := Lib.hid hsz
  clear hM hU1 hqn hqs hlF hF hsz hcom hs us ha u1 hq hi h hge
  go_enter Try.func24, Try.ntmps24
  go_wp2_with fail
  generalize (w.setCell ⟨g, 0, none⟩ (.int .i64 tt)).alloc (.cells #[.pointer (some ⟨g, 0, none⟩)] 24) = w1 at HM HQ HSZ HU1 ⊢
  generalize hs1 : (⟨tt, s.sl, s.pl⟩ : Wh) = s1 at HM
  have HS1 := Lib.hid hs1
  clear hs1 c0 f0
  go_loopw [5] (fun i wr => ∃ (lv : Nat) (s' : Wh) (bs' : Nat → Option Nat), 1 ≤ lv ∧ lv ≤ 4 ∧ i = .int .i64 lv ∧ Mv w1 wr g bs bf bp s1 s' bs' ∧ ∀ j, 64 ≤ j → j < lv * 64 → DoneAt s' j) (fun i _ => 4 - (intOf i).toNat)
  case atStart => exact ⟨1, s1, bs, by omega, by omega, rfl, HM.out, fun j _ _ => by omega⟩
  case round =>
    obtain ⟨lv, s', bs', hl1, hl4, rfl, hm, hdone⟩ := hrel
    have HD := Lib.hid hdone
    have hq := HQ.out.upd hm.upd HQN.out
    have hqr : wr.cell? ⟨w.heap.size, 0, none⟩ = some (.pointer (some ⟨g, 0, none⟩)) := (hq.cell 0).trans rfl
    have hsr : w.heap.size + 1 ≤ wr.heap.size := by have := hm.upd.size; have := HSZ.out; omega
    by_cases hlt : lv < 4
    · have hrow := hm.wh.row lv hlt
      have HML := Lib.hid hm
      clear hm hdone hq
      obtain ⟨wo, rfl⟩ : ∃ wo : World, wo = wr := ⟨_, rfl⟩
      go_wp2_with (first | (refine wpList_load_mid rfl 61 _ rfl g (1 + lv * 64) rfl (rowB bs' lv) _ hrow Try.underlying61 rfl (by rw [rowB_len]; exact info61) ?_) | go_in)
      clear hrow hqr
      go_loopw [23] (fun i wq => ∃ (k : Nat) (s2 : Wh) (bs2 : Nat → Option Nat), k ≤ 64 ∧ i = .int .i64 k ∧ Mv w1 wq g bs bf bp s1 s2 bs2 ∧ (∀ j c, bs' j = some c → bs2 j = some c) ∧ (∀ j, 64 ≤ j → j < lv * 64 + k → DoneAt s2 j) ∧ (∀ j, lv * 64 + k ≤ j → s2.sl j = s'.sl j) ∧ w.heap.size + 1 ≤ wq.heap.size) (fun i _ => 64 - (intOf i).toNat)
      case atStart => exact ⟨0, s', bs', by omega, rfl, HML.out, fun _ _ h => h, fun j h1 h2 => HD.out j h1 (by omega), fun _ _ => rfl, hsr⟩
      case round =>
        obtain ⟨k, s2, bs2, hk, rfl, hm2, hold, hdn, hoth, hsq⟩ := hrel
        by_cases hk64 : k < 64
        · have hx := run_idx61 (rowB bs' lv).toArray k hk64 _ (rowB_get bs' lv k hk64)
          have hq2 := HQ.out.upd hm2.upd HQN.out
          have hqn2 : ¬ FT g bs2 bf bp w.heap.size := fun hf => by
            rcases FT_of hm2.new hf with h | h
            · exact HQN.out h
            · have := HSZ.out; omega
          have hmm : (∃ b, bs' (lv * 64 + k) = some b ∧ at_ bs2 bf (lv * 64 + k) = some b) ∨ (bs' (lv * 64 + k) = none ∧ s2.sl (lv * 64 + k) = []) := by
            cases hb : bs' (lv * 64 + k) with
            | none => exact .inr ⟨rfl, by rw [hoth _ (Nat.le_refl _)]; exact HML.out.wh.nil_ _ (by omega) hb⟩
            | some b => exact .inl ⟨b, rfl, by unfold at_; rw [if_neg (by omega)]; exact hold _ b hb⟩
          have hA := again_any hm2.wh hm2.inv hq2 hqn2 lv (lv * 64 + k) (lv : Int) (by omega) (by omega) (by omega) _ hmm
          have HA := Lib.hid hA
          have HM2 := Lib.hid hm2
          have HOLD := Lib.hid hold
          have HDN := Lib.hid hdn
          have HOTH := Lib.hid hoth
          clear hA hm2 hold hdn hoth hq2 hqn2 hmm
          generalize bs' (lv * 64 + k) = m at hx HA
          go_wp2_with fail
          refine HA.out.mono ?_
          rintro e w3 ⟨rfl, bs3, s3, hM3, hP3⟩
          obtain ⟨p1, p2, p3, p4, p5, p6⟩ := hP3
          have hM' : Mv w1 w3 g bs bf bp s1 s3 bs3 := ⟨hM3.wh, fun j c hc => by
              rcases hM3.new j c hc with h | h
              · exact HM2.out.new j c h
              · exact .inr (by have := HM2.out.upd.size; omega), HM2.out.upd.trans hM3.upd (fun _ _ h => h) (fun i hi hf => (FT_of HM2.out.new hf).resolve_right (by omega)), p1, p2.trans HM2.out.now, fun x => (p3 x).trans (HM2.out.due x)⟩
          have hold' : ∀ j c, bs' j = some c → bs3 j = some c := fun j c hc => hM3.old j c (HOLD.out j c hc)
          have hdn' : ∀ j, 64 ≤ j → j < lv * 64 + (k + 1) → DoneAt s3 j := fun j j1 j2 => by
            by_cases e : j = lv * 64 + k
            · subst e
              intro x d hx
              rw [show (lv * 64 + k) / 64 = lv by omega]
              exact p4 x d hx
            · by_cases e2 : j < lv * 64
              · exact p6 j j1 e2 (HDN.out j j1 (by omega))
              · exact done_same (HDN.out j j1 (by omega)) (p5 j (by omega) e) p2
          have hoth' : ∀ j, lv * 64 + (k + 1) ≤ j → s3.sl j = s'.sl j := fun j hj => (p5 j (by omega) (by omega)).trans (HOTH.out j (by omega))
          have HM3 := Lib.hid hM'
          have HOLD3 := Lib.hid hold'
          have HDN3 := Lib.hid hdn'
          have HOTH3 := Lib.hid hoth'
          have hs3 := hM3.upd.size
          clear hM' hold' hdn' hoth' hM3 p1 p2 p3 p4 p5 p6 hx
          go_wp2_with fail
          go_roundw
          case rel => exact ⟨k + 1, s3, bs3, by omega, by go_num, HM3.out, HOLD3.out, HDN3.out, HOTH3.out, by omega⟩
          case measure => simp [intOf]; omega
        · obtain rfl : k = 64 := by omega
          have HM2 := Lib.hid hm2
          have HDN := Lib.hid hdn
          clear hm2 hold hdn hoth
          go_wp2
          go_roundw
          case rel => exact ⟨lv + 1, s2, bs2, by omega, by omega, by go_num, HM2.out, fun j j1 j2 => HDN.out j j1 (by omega)⟩
          case measure => simp [intOf]; omega
    · obtain rfl : lv = 4 := by omega
      have hqn2 : ¬ FT g bs' bf bp w.heap.size := fun hf => by
        rcases FT_of hm.new hf with h | h
        · exact HQN.out h
        · have := HSZ.out; omega
      have cf := hm.wh.cf
      have hA := again_any hm.wh hm.inv hq hqn2 4 256 4 (by omega) (by omega) (by omega) (some bf) (.inl ⟨bf, rfl, by unfold at_; rw [if_pos rfl]⟩)
      have HA := Lib.hid hA
      have HML := Lib.hid hm
      clear hA hm hdone hq hqn2
      go_wp2_with fail
      refine HA.out.mono ?_
      rintro e w3 ⟨rfl, bs3, s3, hM3, hP3⟩
      obtain ⟨p1, p2, p3, p4, p5, p6⟩ := hP3
      have hn3 : ∀ k c, bs3 k = some c → bs k = some c ∨ w1.heap.size ≤ c := fun j c hc => by
        rcases hM3.new j c hc with h | h
        · exact HML.out.new j c h
        · exact .inr (by have := HML.out.upd.size; omega)
      have hu3 : Upd w1 w3 (FT g bs bf bp) := HML.out.upd.trans hM3.upd (fun _ _ h => h) (fun i hi hf => (FT_of HML.out.new hf).resolve_right (by omega))
      have hgr : Gr w w3 F (FT g bs3 bf bp) := ⟨(HU1.out.trans hu3 (fun _ _ h => h) (fun _ _ h => h)).mono (fun i _ h => (HF.out i).2 h), fun i hi => by
        rcases FT_of hn3 hi with h | h
        · exact .inl ((HF.out i).2 h)
        · exact .inr (by have := HSZ.out; omega)⟩
      have hs1 := HS1.out
      have hnow : s3.now = tt := by rw [p2, HML.out.now, ← hs1]
      have hdu : ∀ x, dueOf s3 x = dueOf s x := fun x => by rw [p3 x, HML.out.due x, ← hs1]; rfl
      have hdn : ∀ j, 64 ≤ j → j ≤ 256 → DoneAt s3 j := fun j j1 j2 => by
        by_cases e : j = 256
        · subst e
          exact p4
        · exact p6 j j1 (by omega) (HD.out j j1 (by omega))
      have HW := Lib.hid hM3.wh
      have HGR := Lib.hid hgr
      have HP1 := Lib.hid p1
      have HNW := Lib.hid hnow
      have HDU := Lib.hid hdu
      have HDN := Lib.hid hdn
      clear hdn hdu hnow hs1 hgr hu3 hn3 hM3 p1 p2 p3 p4 p5 p6
      go_wp2_with fail
      go_end0
      exact ⟨rfl, _, s3, ⟨bs3, bf, bp, HW.out, fun _ => Iff.rfl⟩, HGR.out, HP1.out, HNW.out, HDU.out, HDN.out⟩
end Go.Proofs.Ytejelihioendnaa
