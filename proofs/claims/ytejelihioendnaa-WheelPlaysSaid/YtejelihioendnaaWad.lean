/- Advance. -/
import Derived.Test.YtejelihioendnaaWks
import Derived.Test.YtejelihioendnaaWrp
set_option linter.unusedVariables false
set_option linter.unusedSimpArgs false
set_option linter.unusedSectionVars false
namespace Go.Proofs.Ytejelihioendnaa
open Go.RowKit

theorem infoI : (Try.prog.info? 3).map (fun i => (i.zero, i.size, i.bytes)) = some (some (.int .i64 0), 1, 8) := by kernel_rfl
/-- One number more, behind a row of the call's own. -/
theorem app1 {W : World} {B n : Nat} {v : Value} {xs : List Int} (hown : W.ownsRow B 3 1 v n (xs.map (Value.int .i64))) (r : Int) (hB : B ≤ W.heap.size) (hn : n ≤ 1000000) :
    ∃ v' w', (Builtin.append_ #[40, 40] 40 #[v, .slice (some ⟨W.heap.size, 0, none⟩) 1 1]).run Try.prog (W.alloc (.cells #[.int .i64 r] 3)) = .ok v' w' ∧ w'.ownsRow B 3 1 v' (n + 1) ((xs ++ [r]).map (Value.int .i64)) ∧
      Upd W w' (fun k => v.ownBlock = some k) ∧ ∀ k, v'.ownBlock = some k → v.ownBlock = some k ∨ W.heap.size ≤ k := by
  obtain ⟨i0, hi, hz0, hz1, hz2⟩ := info_parts infoI
  have hr : Rd1 (Value.int .i64) (W.alloc (.cells #[.int .i64 r] 3)) (some ⟨W.heap.size, 0, none⟩) [r] := by
    intro i hi
    obtain rfl : i = 0 := by simp at hi; omega
    exact ⟨_, rfl, by simpa using (World.news_of_block (heap_alloc_new W (.cells #[.int .i64 r] 3))) 0 (.int .i64 r) rfl⟩
  obtain ⟨v', w', h1, h2, h3, h4⟩ := append_row (P := Try.prog) B 40 Try.underlying40 hi hz0 hz1 hz2 rfl (fun _ => by simp [Value.oneCell']) (hown.alloc (.cells #[.int .i64 r] 3)) (c := 1) hr (by intro h; cases h) (by unfold maxLen; simp; omega) (by simp; omega) (by simp; omega)
  refine ⟨v', w', h1, h2, ((Upd.refl W _).alloc _).grown h3 (fun k e => .inl e), fun k hk => ?_⟩
  rcases h4 with e | e
  · exact .inl (by rw [← e]; exact hk)
  · rw [e] at hk
    injection hk with hk
    right
    simp at hk
    omega
theorem WO.cnow {w : World} {g : Nat} {F : Nat → Prop} {s : Wh} (h : WO w g F s) : w.cell? ⟨g, 0, none⟩ = some (.int .i64 s.now) := by
  obtain ⟨_, _, _, h, _⟩ := h
  exact h.c0
theorem WO.g_in {w : World} {g : Nat} {F : Nat → Prop} {s : Wh} (h : WO w g F s) : F g := by
  obtain ⟨_, _, _, _, hF⟩ := h
  exact (hF g).2 (.inl rfl)
/-- The row of those that fired so far. -/
structure Fd (B : Nat) (wr : World) (F : Nat → Prop) (v : Value) (fired : List Int) : Prop where
  own : wr.ownsRow B 3 1 v fired.length (fired.map (Value.int .i64))
  away : ∀ k, v.ownBlock = some k → ¬ F k
theorem own_blk {B : Nat} {wr : World} {v : Value} {n : Nat} {l : List Int} (h : wr.ownsRow B 3 1 v n (l.map (Value.int .i64))) {k : Nat} (hk : v.ownBlock = some k) : B ≤ k ∧ k < wr.heap.size := by
  obtain ⟨_, h2⟩ := h
  rcases h2 with ⟨h0, _⟩ | ⟨g', cap, cur, e, hb, hg, _⟩
  · rw [h0] at hk; cases hk
  · rw [e] at hk
    injection hk with hk
    subst hk
    exact ⟨hb, (Array.getElem?_eq_some_iff.1 hg).1⟩
theorem own_upd {B : Nat} {wr w' : World} {F : Nat → Prop} {v : Value} {n : Nat} {xs : List Value} (h : wr.ownsRow B 3 1 v n xs) (u : Upd wr w' F) (ha : ∀ k, v.ownBlock = some k → ¬ F k) : w'.ownsRow B 3 1 v n xs := by
  obtain ⟨h1, h2⟩ := h
  refine ⟨h1, ?_⟩
  rcases h2 with h | ⟨g', cap, cur, e, hb, hg, hr⟩
  · exact .inl h
  · exact .inr ⟨g', cap, cur, e, hb, u.blk hg (ha g' (by rw [e]; rfl)), hr⟩
theorem Fd.gr {B : Nat} {wr w' : World} {F F' : Nat → Prop} {v : Value} {fired : List Int} (h : Fd B wr F v fired) (hg : Gr wr w' F F') : Fd B w' F' v fired := by
  refine ⟨?_, fun k hk hf => ?_⟩
  · exact own_upd h.own hg.upd h.away
  · rcases hg.new k hf with h1 | h1
    · exact h.away k hk h1
    · have := (own_blk h.own hk).2; omega

theorem addB (a : Addr) (n : Nat) : (a.add n).block = a.block := by unfold Addr.add; split <;> rfl
theorem rd1_away {w w1 : World} {F : Nat → Prop} {A : Option Addr} {l : List Int} (h : Rd1 (Value.int .i64) w A l) (k : Upd w w1 F) (hA : ∀ ad, A = some ad → ¬ F ad.block) : Rd1 (Value.int .i64) w1 A l := by
  intro i hi
  obtain ⟨ad, e, hc⟩ := h i hi
  exact ⟨ad, e, k.cell hc (by rw [addB]; exact hA ad e)⟩
theorem Fd.rd {B : Nat} {wr : World} {F : Nat → Prop} {A : Option Addr} {cap : Nat} {fired : List Int} (h : Fd B wr F (.slice A fired.length cap) fired) : Rd1 (Value.int .i64) wr A fired ∧ ∀ ad, A = some ad → B ≤ ad.block ∧ ¬ F ad.block := by
  obtain ⟨A', cap', e, _, hrd, _⟩ := rd1_of_owns h.own
  injection e with e1 e2 e3
  subst e1
  refine ⟨hrd, fun ad e => ?_⟩
  subst e
  exact ⟨(own_blk h.own rfl).1, h.away _ rfl⟩
theorem adv_full {tt : Int} {most : Nat} {now : Int} {L : List (Int × Int)} {fired : List Int} (h : ¬ fired.length < most) : adv tt most now L fired = (now, L, fired) := by
  rw [adv.eq_def, if_neg h]
theorem adv_stop {tt : Int} {most : Nat} {now : Int} {L : List (Int × Int)} {fired : List Int} (h : fired.length < most) (hs : ∀ n x T, L = (n, x) :: T → tt < n) : adv tt most now L fired = (tt, L, fired) := by
  rw [adv.eq_def, if_pos h]
  cases L with
  | nil => rfl
  | cons a T =>
    have := hs a.1 a.2 T rfl
    simp only [if_pos this]
theorem adv_go {tt : Int} {most : Nat} {now n x : Int} {T : List (Int × Int)} {fired : List Int} (h : fired.length < most) (hs : n ≤ tt) : adv tt most now ((n, x) :: T) fired = adv tt most n (rest n ((n, x) :: T)) (fired ++ grp n ((n, x) :: T)) := by
  rw [adv.eq_def, if_pos h]
  simp only
  rw [if_neg (by omega)]
def advOk (now tt most : Int) : Bool := decide (now ≤ tt) && decide (tt ≤ 1099511627776) && decide (1 ≤ most) && decide (most ≤ 1048576)
structure AdvR where
  fired : List Int
  at_ : Int
  code : Int
  now : Int
  L : List (Int × Int)
def advR (now : Int) (L : List (Int × Int)) (tt most : Int) : AdvR :=
  if advOk now tt most then ⟨(adv tt most.toNat now L []).2.2, (adv tt most.toNat now L []).1, 0, (adv tt most.toNat now L []).1, (adv tt most.toNat now L []).2.1⟩ else ⟨[], 0, 1, now, L⟩
def AdvPost (w : World) (g : Nat) (F : Nat → Prop) (R : AdvR) (e : Ending) (w' : World) : Prop := ∃ A cap F' s', e = .returned (.tuple #[.slice A R.fired.length cap, .int .i64 R.at_, .int .i64 R.code]) ∧
  Rd1 (Value.int .i64) w' A R.fired ∧ WO w' g F' s' ∧ Rep s' R.L ∧ s'.now = R.now ∧ Gr w w' F F' ∧ ∀ ad, A = some ad → w.heap.size ≤ ad.block ∧ ¬ F' ad.block
def lenOf : Value → Nat
  | .slice _ n _ => n
  | _ => 0
set_option maxRecDepth 100000 in
set_option maxHeartbeats 8000000 in
theorem advance_any {w : World} {g : Nat} {F : Nat → Prop} {s : Wh} {L : List (Int × Int)} (h : WO w g F s) (hr : Rep s L) (hL : L.length ≤ 1000000) (tt most : Int) :
    Calls Try.prog 15 #[.pointer (some ⟨g, 0, none⟩), .int .i64 tt, .int .i64 most] w fun e w' => AdvPost w g F (advR s.now L tt most) e w' := by
  have c0 := h.cnow
  cases hok : advOk s.now tt most with
  | false =>
    have hR : advR s.now L tt most = ⟨[], 0, 1, s.now, L⟩ := by unfold advR; rw [hok]; rfl
    rw [hR]
    have h1 : decide (tt < s.now) = true ∨ (decide (tt < s.now) = false ∧ decide (1099511627776 < tt) = true) ∨ (decide (tt < s.now) = false ∧ decide (1099511627776 < tt) = false ∧ decide (most < 1) = true) ∨ (decide (tt < s.now) = false ∧ decide (1099511627776 < tt) = false ∧ decide (most < 1) = false ∧ decide (1048576 < most) = true) := by
      simp only [advOk, Bool.and_eq_false_iff, decide_eq_false_iff_not, decide_eq_true_eq] at hok ⊢
      omega
    have H := Lib.hid (show ∃ F' s', WO w g F' s' ∧ Rep s' L ∧ s'.now = s.now ∧ Gr w w F F' from ⟨F, s, h, hr, rfl, Gr.same (Upd.refl _ _)⟩)
    clear hok hR h hr
    rcases h1 with h1 | ⟨h1, h2⟩ | ⟨h1, h2, h3⟩ | ⟨h1, h2, h3, h4⟩
    all_goals
      go_enter Try.func15, Try.ntmps15
      go_wp2
      go_returns
      obtain ⟨F', s', a, b, c, d⟩ := H.out
      exact ⟨none, 0, F', s', rfl, fun i hi => absurd hi (by simp), a, b, c, d, fun ad e => by cases e⟩
  | true =>
    have hb : s.now ≤ tt ∧ tt ≤ 1099511627776 ∧ 1 ≤ most ∧ most ≤ 1048576 := by
      simp only [advOk, Bool.and_eq_true, decide_eq_true_eq] at hok
      omega
    have hR : advR s.now L tt most = ⟨(adv tt most.toNat s.now L []).2.2, (adv tt most.toNat s.now L []).1, 0, (adv tt most.toNat s.now L []).1, (adv tt most.toNat s.now L []).2.1⟩ := by unfold advR; rw [hok]; rfl
    rw [hR]
    clear hR hok
    generalize hRR : adv tt most.toNat s.now L [] = RR
    have h1 : decide (tt < s.now) = false := by simp; omega
    have h2 : decide (1099511627776 < tt) = false := by simp; omega
    have h3 : decide (most < 1) = false := by simp; omega
    have h4 : decide (1048576 < most) = false := by simp; omega
    have hF0 : Fd w.heap.size w F (.slice none 0 0) [] := ⟨⟨by simp, .inl ⟨rfl, rfl⟩⟩, fun k hk => by cases hk⟩
    have HB := Lib.hid hb
    have HRR := Lib.hid hRR
    have HL := Lib.hid hL
    have H0 := Lib.hid (show ∃ (A : Option Addr) (cap : Nat) (fired : List Int) (F' : Nat → Prop) (s' : Wh) (L' : List (Int × Int)), (Value.slice none 0 0 : Value) = .slice A fired.length cap ∧ Fd w.heap.size w F' (.slice A fired.length cap) fired ∧ WO w g F' s' ∧ Rep s' L' ∧ Gr w w F F' ∧ adv tt most.toNat s'.now L' fired = RR ∧ fired.length + L'.length = L.length ∧ s'.now ≤ tt from
      ⟨none, 0, [], F, s, L, rfl, hF0, h, hr, Gr.same (Upd.refl _ _), hRR, by simp, hb.1⟩)
    clear hb hRR hL h hr hF0
    go_enter Try.func15, Try.ntmps15
    go_wp2_with fail
    clear h1 h2 h3 h4 c0
    go_loopw [6] (fun i wr => ∃ (A : Option Addr) (cap : Nat) (fired : List Int) (F' : Nat → Prop) (s' : Wh) (L' : List (Int × Int)), i = .slice A fired.length cap ∧ Fd w.heap.size wr F' (.slice A fired.length cap) fired ∧ WO wr g F' s' ∧ Rep s' L' ∧ Gr w wr F F' ∧ adv tt most.toNat s'.now L' fired = RR ∧ fired.length + L'.length = L.length ∧ s'.now ≤ tt) (fun i _ => most.toNat - lenOf i)
    case atStart => exact H0.out
    case round =>
      obtain ⟨A, cap, fired, F1, s1, L1, rfl, hfd, hw, hr, hg, had, hln, hnt⟩ := hrel
      by_cases hm : (fired.length : Int) < most
      · have hmn : fired.length < most.toNat := by omega
        have hmd : decide ((fired.length : Int) < most) = true := by simpa using hm
        have hN : Calls Try.prog 20 #[.pointer (some ⟨g, 0, none⟩)] wr fun e w' => e = .returned (.tuple #[mv (headO L1), mf (headO L1)]) ∧ Upd wr w' Nope := by
          obtain ⟨_, _, _, hw', _⟩ := hw
          refine (next_any hw').mono ?_
          rintro e w1 ⟨⟨o, ho, rfl⟩, u1⟩
          rw [hr.head ho]
          exact ⟨rfl, u1⟩
        by_cases hst : ∀ n x T, L1 = (n, x) :: T → tt < n
        · have had2 := adv_stop hmn hst (now := s1.now)
          rw [had] at had2
          have hge : ∀ p ∈ L1, tt ≤ p.1 := fun p hp => by
            cases hL1 : L1 with
            | nil => rw [hL1] at hp; simp at hp
            | cons a T =>
              have h1 := hst a.1 a.2 T hL1
              have hs := hr.srt
              rw [hL1] at hp hs
              rcases List.mem_cons.1 hp with rfl | hp
              · omega
              · have := (List.pairwise_cons.1 hs).1 p hp
                unfold lt2 at this
                omega
          have hcc : headO L1 = none ∨ ∃ n, headO L1 = some n ∧ decide (tt < n) = true := by
            cases hL1 : L1 with
            | nil => exact .inl rfl
            | cons a T => exact .inr ⟨a.1, rfl, by simpa using hst a.1 a.2 T hL1⟩
          have HN := Lib.hid hN
          have HW := Lib.hid hw
          have HR := Lib.hid hr
          have HG := Lib.hid hg
          have HFD := Lib.hid hfd
          have HGE := Lib.hid hge
          have HNT := Lib.hid hnt
          clear hN hw hr hg hfd hge hst had hmn hm hln hnt
          subst had2
          rcases hcc with hcc | ⟨n, hcc, hd⟩
          all_goals
            rw [hcc] at HN
            simp only [mv, mf, Option.getD_none, Option.getD_some, Option.isSome_none, Option.isSome_some] at HN
            clear hcc
            go_wp2_with fail
            refine HN.out.mono ?_
            rintro e w2 ⟨rfl, u2⟩
            have hM := move_any (HW.out.nn u2) HR.out.inv tt HNT.out HB.out.2.1 (HR.out.ge HGE.out)
            have HM := Lib.hid hM
            have U2 := Lib.hid u2
            clear hM u2 HN
            go_wp2_with fail
            refine HM.out.mono ?_
            rintro e w3 ⟨rfl, F3, s3, hw3, hg3, hi3, hn3, hd3, hdn3⟩
            have c3 := hw3.cnow
            rw [hn3] at c3
            have H3 := Lib.hid (And.intro hw3 (And.intro hg3 (And.intro hi3 (And.intro hn3 hd3))))
            clear hw3 hg3 hi3 hn3 hd3 hdn3 HM
            go_wp2_with fail
            go_big_region
            go_wp2_with fail
            go_returns
            obtain ⟨hw3, hg3, hi3, hn3, hd3⟩ := H3.out
            have hf3 := ((HFD.out.gr (Gr.same U2.out)).gr hg3).gr (Gr.same (Upd.refl w3 Nope).drew)
            obtain ⟨r1, r2⟩ := hf3.rd
            exact ⟨A, cap, F3, s3, rfl, r1, hw3.nn (Upd.refl w3 _).drew, HR.out.moved hi3 hd3, hn3, ((HG.out.post U2.out).trans hg3).post (Upd.refl w3 _).drew, r2⟩
        · obtain ⟨n, x, T, rfl, hnt2⟩ : ∃ n x T, L1 = (n, x) :: T ∧ n ≤ tt := by
            cases L1 with
            | nil => exact absurd (fun n x T e => by cases e) hst
            | cons a T =>
              refine ⟨a.1, a.2, T, rfl, ?_⟩
              by_cases h : a.1 ≤ tt
              · exact h
              · exact absurd (fun n x T e => by cases e; simp at h ⊢; omega) hst
          have had2 := adv_go hmn hnt2 (now := s1.now) (x := x) (T := T)
          rw [had] at had2
          clear had hst
          have hge : ∀ p ∈ (n, x) :: T, n ≤ p.1 := fun p hp => by
            have hs := hr.srt
            rcases List.mem_cons.1 hp with rfl | hp
            · exact Int.le_refl _
            · have := (List.pairwise_cons.1 hs).1 p hp
              unfold lt2 at this
              simp only at this
              omega
          have hbn := hr.inv.bnd ((hr.mem n x).1 List.mem_cons_self)
          simp only [headO, List.head?_cons, Option.map_some, mv, mf, Option.getD_some, Option.isSome_some] at hN
          have hxg : x ∈ grp n ((n, x) :: T) := mem_grp.2 List.mem_cons_self
          generalize hLL : (n, x) :: T = L1 at *
          have hd0 : decide (tt < n) = false := by simp; omega
          have hn0 := hr.inv.n0
          have HN := Lib.hid hN
          have HW := Lib.hid hw
          have HR := Lib.hid hr
          have HG := Lib.hid hg
          have HFD := Lib.hid hfd
          have HGE := Lib.hid hge
          have HBN := Lib.hid hbn
          have HLN := Lib.hid hln
          have HXG := Lib.hid hxg
          have HAD := Lib.hid had2
          have HMN := Lib.hid hmn
          have HNT2 := Lib.hid hnt2
          have HN0 := Lib.hid hn0
          clear hN hw hr hg hfd hge hmn hm hln hnt had2 hxg hbn hLL hnt2 hn0
          go_wp2_with fail
          refine HN.out.mono ?_
          rintro e w2 ⟨rfl, u2⟩
          have hM := move_any (HW.out.nn u2) HR.out.inv n HBN.out.1 (by have := HB.out; have := HNT2.out; omega) (HR.out.ge HGE.out)
          have HM := Lib.hid hM
          have U2 := Lib.hid u2
          clear hM u2 HN
          go_wp2_with fail
          refine HM.out.mono ?_
          rintro e w3 ⟨rfl, F3, s3, hw3, hg3, hi3, hn3, hd3, hdn3⟩
          have hr3 := HR.out.moved hi3 hd3
          have hfd3 := ((HFD.out.gr (Gr.same U2.out)).gr hg3)
          have hg03 := (HG.out.post U2.out).trans hg3
          have hbits := and63 n (by have := HN0.out; have := HBN.out; omega) (by have := HBN.out; omega)
          obtain ⟨i, hi⟩ : ∃ i : Nat, (i : Int) = n % 64 := ⟨(n % 64).toNat, by omega⟩
          rw [← hi] at hbits
          have hO : Calls Try.prog 23 #[.pointer (some ⟨g, 0, none⟩), .agg #[.int .i64 0, .int .i64 (i : Int)]] w3 fun e w4 => ∃ b F4, e = .returned (.map (some b)) ∧ WO w4 g F4 s3 ∧ Mp MI w4 b (s3.sl i) ∧ Gr w3 w4 F3 F4 := by
            obtain ⟨bs, bf, bp, hw', hF⟩ := hw3
            have := of_any hw' (0, (i : Int)) (.inr ⟨by simp, by simp, by simp, by show (i : Int) < 64; omega⟩)
            refine this.mono ?_
            rintro e w4 ⟨b, bs', rfl, hw4, hb4, hu4, hgr, hold⟩
            have hidx : idx (0, (i : Int)) = i := by unfold idx; simp
            rw [hidx] at hb4
            exact ⟨b, _, rfl, ⟨bs', bf, bp, hw4, fun _ => Iff.rfl⟩, hw4.mp (by omega) hb4, hu4.mono (fun k _ e => (hF k).2 (.inl e)), fun k hk => (FT_of hgr hk).imp (hF k).2 _root_.id⟩
          have HO := Lib.hid hO
          have HR3 := Lib.hid hr3
          have HFD3 := Lib.hid hfd3
          have HG03 := Lib.hid hg03
          have HDN3 := Lib.hid hdn3
          have HN3 := Lib.hid hn3
          have HI := Lib.hid hi
          clear hO hr3 hfd3 hg03 hdn3 hn3 hi hw3 hg3 hi3 hd3 HM
          go_wp2_with fail
          refine HO.out.mono ?_
          rintro e w4 ⟨b, F4, rfl, hw4, hmp, hg4⟩
          have hll := HR3.out.slot_len (i := i) (by have := HI.out; omega)
          have hK := callsIn_wide.1 (Try.maps_Keys_26 (some b) w4)
          have hS := sorted_ids hmp (by have := HL.out; have := HLN.out; omega)
          have HK := Lib.hid hK
          have HS := Lib.hid hS
          have HW4 := Lib.hid hw4
          have HG4 := Lib.hid hg4
          clear hK hS hw4 hg4 hmp hll HO
          go_wp2_with (first
            | (go_at_call 26; refine HK.out.mono ?_; rintro e w5 ⟨rfl, rfl⟩)
            | (go_at_call 25; refine HS.out.mono ?_; rintro e w5 ⟨A2, cap2, ks, rfl, hrd2, hperm, hpw, hu5, hfr5⟩))
          obtain rfl : ks = grp n L1 := by
            have := HR3.out.slot_now HDN3.out (by rw [HN3.out]; exact HI.out) hperm hpw
            rw [HN3.out] at this
            exact this
          clear hperm hpw
          generalize hks : grp n L1 = ks at *
          have HKS := Lib.hid hks
          have hX : ∃ (A' : Option Addr) (cap' : Nat) (F' : Nat → Prop) (s' : Wh), (Value.slice A fired.length cap : Value) = .slice A' (fired ++ ks.take 0).length cap' ∧ Fd w.heap.size w5 F' (.slice A' (fired ++ ks.take 0).length cap') (fired ++ ks.take 0) ∧ WO w5 g F' s' ∧ Rep s' (delAll (ks.take 0) L1) ∧ Gr w w5 F F' ∧ s'.now = n ∧ Rd1 (Value.int .i64) w5 A2 ks ∧ (∀ ad, A2 = some ad → ¬ F' ad.block ∧ w.heap.size ≤ ad.block ∧ ∀ q, A' = some q → q.block ≠ ad.block) := by
            have hfd := (HFD3.out.gr HG4.out).gr (Gr.same hu5)
            refine ⟨A, cap, F4, s3, by simp, by simpa using hfd, HW4.out.nn hu5, by rw [List.take_zero, delAll_nil]; exact HR3.out, (HG03.out.trans HG4.out).post hu5, HN3.out, hrd2, fun ad e => ?_⟩
            have h1 := hfr5 ad e
            have h2 := HG03.out.upd.size
            have h3 := HG4.out.upd.size
            refine ⟨fun hf => by have := HW4.out.lt hf; omega, by omega, fun q eq hq => ?_⟩
            subst eq
            have := (own_blk (HFD3.out.gr HG4.out).own (k := q.block) rfl).2
            omega
          have hkb : ks.length ≤ 1000000 := by
            have h1 := grp_rest n L1
            have h2 := HLN.out
            have h3 := HL.out
            rw [hks] at h1
            omega
          have HX := Lib.hid hX
          have HR0 := Lib.hid HR3.out
          clear hX hrd2 hfr5 hu5 hks HFD3 HG03 HW4 HG4 HK HS HFD HG HW HR3
          go_wp2_with fail
          go_loopw [6, 63] (fun v i wr => ∃ (k : Nat) (A' : Option Addr) (cap' : Nat) (F' : Nat → Prop) (s' : Wh), k ≤ ks.length ∧ i = .int .i64 k ∧ v = .slice A' (fired ++ ks.take k).length cap' ∧ Fd w.heap.size wr F' (.slice A' (fired ++ ks.take k).length cap') (fired ++ ks.take k) ∧ WO wr g F' s' ∧ Rep s' (delAll (ks.take k) L1) ∧ Gr w wr F F' ∧ s'.now = n ∧ Rd1 (Value.int .i64) wr A2 ks ∧ (∀ ad, A2 = some ad → ¬ F' ad.block ∧ w.heap.size ≤ ad.block ∧ ∀ q, A' = some q → q.block ≠ ad.block)) (fun _ i _ => ks.length - (intOf i).toNat)
          case atStart =>
            obtain ⟨A', cap', F', s', x1, x2⟩ := HX.out
            exact ⟨0, A', cap', F', s', by omega, rfl, x1, x2⟩
          case round =>
            obtain ⟨k, A', cap', F', s', hk, rfl, rfl, hfd, hw, hr, hg, hn, hrd, haw⟩ := hrel
            by_cases hkl : k < ks.length
            · obtain ⟨ad, rfl, hcell⟩ := hrd k hkl
              have hmem : (n, ks[k]) ∈ L1 := by
                have : ks[k] ∈ grp n L1 := by rw [HKS.out]; exact List.getElem_mem hkl
                exact mem_grp.1 this
              have hbd := HR0.out.inv.bnd ((HR0.out.mem _ _).1 hmem)
              have hC := cancel_any hw hr.inv.plok ks[k] (okI_of (by omega) (by omega))
              obtain ⟨rc1, rc2, rc3⟩ := hr.cancel ks[k]
              rw [delAll_snoc, show ks.take k ++ [ks[k]] = ks.take (k + 1) by rw [List.take_add_one]; simp [hkl]] at rc1
              have HC := Lib.hid hC
              have HRC := Lib.hid rc1
              have HSN := Lib.hid (rc3.trans hn)
              have HG := Lib.hid hg
              have HFD := Lib.hid hfd
              have HRD := Lib.hid hrd
              have HAW := Lib.hid haw
              clear hC rc1 rc2 rc3 hn hg hfd hrd haw hw hr hbd hmem
              generalize hid' : ks[k] = id at *
              generalize hm : (fired ++ ks.take k).length = m at HFD ⊢
              go_wp2_with fail
              refine HC.out.mono ?_
              rintro e w7 ⟨rfl, F7, hw7, hg7⟩
              have hfd7 := HFD.out.gr hg7
              have hlt : (fired ++ ks.take k).length ≤ 1000000 := by
                have h1 := grp_rest n L1
                have h2 := HLN.out
                have h3 := HL.out
                rw [HKS.out] at h1
                simp
                omega
              obtain ⟨v', w8, hap, hown8, hu8, hl8⟩ := app1 hfd7.own id (by have := HG.out.upd.size; have := hg7.upd.size; omega) hlt
              obtain ⟨A8, cap8, rfl, hlen8, _, _, _⟩ := rd1_of_owns hown8
              have hrd7 := rd1_away HRD.out hg7.upd (fun q e => (HAW.out q e).1)
              have haw7 : ∀ q, some ad = some q → ¬ F7 q.block := fun q e hf => by
                cases e
                rcases hg7.new _ hf with h1 | h1
                · exact (HAW.out ad rfl).1 h1
                · have := World.block_lt_of_cell? wr _ (HRD.out.at_ k hkl)
                  rw [addB] at this
                  omega
              have hrd8 := rd1_away hrd7 hu8 (fun q e hf => by
                cases e
                have hf : (Value.slice A' m cap').ownBlock = some ad.block := hf
                cases A' with
                | none => cases hf
                | some q =>
                  injection hf with hf
                  exact (HAW.out ad rfl).2.2 q rfl hf)
              have hw8 := hw7.apart hu8 (fun i hi hf => hfd7.away i hf hi)
              have hfd8 : Fd w.heap.size w8 F7 (.slice A8 ((fired ++ ks.take k).length + 1) cap8) (fired ++ ks.take (k + 1)) := by
                refine ⟨?_, fun q hq hf => ?_⟩
                · have e1 : fired ++ ks.take k ++ [id] = fired ++ ks.take (k + 1) := by
                    rw [List.append_assoc, List.take_add_one]
                    simp [hkl, hid']
                  rw [e1] at hown8
                  have e2 : (fired ++ ks.take k).length + 1 = (fired ++ ks.take (k + 1)).length := by simp; omega
                  rw [e2] at hown8 ⊢
                  exact hown8
                · rcases hl8 q hq with h1 | h1
                  · exact hfd7.away q h1 hf
                  · have := hw7.lt hf; omega
              have haw8 : ∀ q, some ad = some q → ¬ F7 q.block ∧ w.heap.size ≤ q.block ∧ ∀ r, A8 = some r → r.block ≠ q.block := fun q e => by
                refine ⟨haw7 q e, (HAW.out q e).2.1, fun r er hrq => ?_⟩
                subst er
                rcases hl8 r.block rfl with h1 | h1
                · cases A' with
                  | none => cases h1
                  | some q' =>
                    injection h1 with h1
                    exact (HAW.out q e).2.2 q' rfl (by omega)
                · cases e
                  have := World.block_lt_of_cell? w7 _ (hrd7.at_ k hkl)
                  rw [addB] at this
                  omega
              have hg8 : Gr w w8 F F7 := ⟨((HG.out.trans hg7).upd).trans hu8 (fun _ _ h => h) (fun i hi hf => absurd (own_blk hfd7.own hf).1 (by omega)), (HG.out.trans hg7).new⟩
              have he2 : (fired ++ ks.take k).length + 1 = (fired ++ ks.take (k + 1)).length := by simp; omega
              rw [he2] at hfd8
              have he3 : m + 1 = (fired ++ ks.take (k + 1)).length := by rw [← he2, hm]
              have HE3 := Lib.hid he3
              clear he2 he3
              have HG8 := Lib.hid hg8
              have HFD8 := Lib.hid hfd8
              have HAW8 := Lib.hid haw8
              have HRD8 := Lib.hid hrd8
              have HW8 := Lib.hid hw8
              clear hg8 hfd8 haw8 hrd8 hw8 hu8 hl8 hown8 hlen8 hlt hfd7 hg7 hw7 hrd7 haw7 HC
              go_wp2_with (first | (at_builtin; refine wpList_append_eq _ _ rfl rfl hap rfl rfl rfl ?_) | fail)
              go_roundw
              case rel => exact ⟨k + 1, A8, cap8, F7, _, by omega, by go_num, by rw [HE3.out], HFD8.out, HW8.out, HRC.out, HG8.out, HSN.out, HRD8.out, HAW8.out⟩
              case measure => simp [intOf]; omega
            · obtain rfl : k = ks.length := by omega
              have hkp : 0 < ks.length := by
                have := HXG.out
                exact List.length_pos_of_mem this
              have hmn := HMN.out
              rw [List.take_length] at hfd hr ⊢
              have hda := HR0.out.delAll_grp n
              rw [HKS.out] at hda
              rw [hda] at hr
              have HE := Lib.hid (show adv tt most.toNat s'.now (rest n L1) (fired ++ ks) = RR by
                have := HAD.out
                rw [hn]
                exact this.symm)
              have HLE := Lib.hid (show (fired ++ ks).length + (rest n L1).length = L.length by
                have h1 := grp_rest n L1
                have h2 := HLN.out
                rw [HKS.out] at h1
                rw [List.length_append]
                omega)
              have HTT := Lib.hid (show s'.now ≤ tt by rw [hn]; exact HNT2.out)
              have HFD := Lib.hid hfd
              have HW := Lib.hid hw
              have HR := Lib.hid hr
              have HG := Lib.hid hg
              clear hfd hw hr hg hrd haw hn hda
              go_wp2_with fail
              go_roundw
              case rel => exact ⟨A', cap', fired ++ ks, F', s', rest n L1, by simp, HFD.out, HW.out, HR.out, HG.out, HE.out, HLE.out, HTT.out⟩
              case measure => simp [lenOf]; omega
      · have had2 := adv_full (by omega : ¬ fired.length < most.toNat) (tt := tt) (now := s1.now) (L := L1)
        rw [had] at had2
        have hmd : decide ((fired.length : Int) < most) = false := by simpa using hm
        have c1 := hw.cnow
        subst had2
        have HX := Lib.hid (And.intro hfd (And.intro hw (And.intro hr hg)))
        clear hm hfd hw hr hg had hln hnt
        go_wp2_with fail
        go_big_region
        go_wp2_with fail
        go_returns
        obtain ⟨hfd, hw, hr, hg⟩ := HX.out
        obtain ⟨r1, r2⟩ := (hfd.gr (Gr.same (Upd.refl wr Nope).drew)).rd
        exact ⟨A, cap, F1, s1, rfl, r1, hw.nn (Upd.refl wr _).drew, hr, rfl, hg.post (Upd.refl wr _).drew, r2⟩
end Go.Proofs.Ytejelihioendnaa
