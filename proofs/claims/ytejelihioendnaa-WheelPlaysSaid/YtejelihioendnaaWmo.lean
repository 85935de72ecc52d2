/- A wheel's move. -/
import Derived.Test.YtejelihioendnaaWpl
import Derived.Test.YtejelihioendnaaShelf
set_option linter.unusedVariables false
set_option linter.unusedSimpArgs false
set_option linter.unusedSectionVars false
namespace Go.Proofs.Ytejelihioendnaa
open Go.RowKit Go.Shelf

theorem clone_any {w : World} {b : Nat} {L : List (Int × Int)} (h : Mp MI w b L) :
    Calls Try.prog 29 #[.map (some b)] w fun e w' => e = .returned (.map (some w.heap.size)) ∧ Mp MI w' w.heap.size L ∧ Upd w w' Nope ∧ w'.heap.size = w.heap.size + 1 := by
  obtain ⟨es, clock, hb, r⟩ := h.out
  refine (AnyW.maps_Clone Try.clone29 b es clock w hb).mono fun e w' ⟨he, hw⟩ => ?_
  subst hw
  exact ⟨he, ⟨es, clock, (MapKept.heap_alloc w _).1, r⟩, (Upd.refl w _).alloc _, by simp⟩
theorem clone_nil (w : World) : Calls Try.prog 29 #[.map none] w fun e w' => e = .returned (.map none) ∧ w' = w := AnyW.maps_Clone_nil Try.clone29 w

def P64 : Nat → Int
  | 0 => 0
  | 1 => 64
  | 2 => 4096
  | 3 => 262144
  | _ => 16777216
/-- Who is at a slot of the greater wheels is far enough. -/
def DoneAt (s : Wh) (j : Nat) : Prop := ∀ x d, look x (s.sl j) = some d → P64 (j / 64) ≤ d - s.now
theorem place_lvl {now d : Int} {lv : Nat} (h0 : 0 ≤ now) (h : now ≤ d) (h1 : 1 ≤ lv) (h4 : lv ≤ 4) (hd : d - now < P64 lv) : idx (placeR now d) < lv * 64 ∧ P64 (idx (placeR now d) / 64) ≤ d - now := by
  have m0 : 0 ≤ d % 64 ∧ d % 64 < 64 := by omega
  have m1 : 0 ≤ d / 64 % 64 ∧ d / 64 % 64 < 64 := by omega
  have m2 : 0 ≤ d / 4096 % 64 ∧ d / 4096 % 64 < 64 := by omega
  have m3 : 0 ≤ d / 262144 % 64 ∧ d / 262144 % 64 < 64 := by omega
  have hd' : d - now < 16777216 := by
    have : lv = 1 ∨ lv = 2 ∨ lv = 3 ∨ lv = 4 := by omega
    rcases this with rfl | rfl | rfl | rfl <;> simp only [P64] at hd <;> omega
  by_cases c0 : d - now < 64
  · have e : placeR now d = (0, d % 64) := by unfold placeR; simp only [c0, if_true]
    have ei : idx (placeR now d) = (d % 64).toNat := by rw [e]; unfold idx; rw [if_neg (by simp)]; simp
    have ej : idx (placeR now d) / 64 = 0 := by omega
    rw [ej]
    exact ⟨by omega, by show (0 : Int) ≤ _; omega⟩
  by_cases c1 : d - now < 4096
  · have e : placeR now d = (1, d / 64 % 64) := by unfold placeR; simp only [c0, c1, if_true, if_false]
    have ei : idx (placeR now d) = (64 + d / 64 % 64).toNat := by rw [e]; unfold idx; rw [if_neg (by simp)]; simp
    have ej : idx (placeR now d) / 64 = 1 := by omega
    have hl : 2 ≤ lv := by
      rcases Nat.lt_or_ge lv 2 with h | h
      · have : lv = 1 := by omega
        subst this; simp only [P64] at hd; omega
      · exact h
    rw [ej]
    exact ⟨by omega, by show (64 : Int) ≤ _; omega⟩
  by_cases c2 : d - now < 262144
  · have e : placeR now d = (2, d / 4096 % 64) := by unfold placeR; simp only [c0, c1, c2, if_true, if_false]
    have ei : idx (placeR now d) = (128 + d / 4096 % 64).toNat := by rw [e]; unfold idx; rw [if_neg (by simp)]; simp
    have ej : idx (placeR now d) / 64 = 2 := by omega
    have hl : 3 ≤ lv := by
      rcases Nat.lt_or_ge lv 3 with h | h
      · have : lv = 1 ∨ lv = 2 := by omega
        rcases this with rfl | rfl <;> simp only [P64] at hd <;> omega
      · exact h
    rw [ej]
    exact ⟨by omega, by show (4096 : Int) ≤ _; omega⟩
  · have e : placeR now d = (3, d / 262144 % 64) := by unfold placeR; simp only [c0, c1, c2, hd', if_true, if_false]
    have ei : idx (placeR now d) = (192 + d / 262144 % 64).toNat := by rw [e]; unfold idx; rw [if_neg (by simp)]; simp
    have ej : idx (placeR now d) / 64 = 3 := by omega
    have hl : 4 ≤ lv := by
      rcases Nat.lt_or_ge lv 4 with h | h
      · have : lv = 1 ∨ lv = 2 ∨ lv = 3 := by omega
        rcases this with rfl | rfl | rfl <;> simp only [P64] at hd <;> omega
      · exact h
    rw [ej]
    exact ⟨by omega, by show (262144 : Int) ≤ _; omega⟩

/-- While a slot is gone through: rest is to come. -/
structure Ag (s0 s : Wh) (i lv : Nat) (rest : List (Int × Int)) : Prop where
  inv : Inv s
  now : s.now = s0.now
  due : ∀ x, dueOf s x = dueOf s0 x
  r1 : ∀ p ∈ rest, look p.1 (s.sl i) = some p.2
  r2 : ∀ x d, look x (s.sl i) = some d → (x, d) ∈ rest ∨ P64 lv ≤ d - s.now
  oth : ∀ j, lv * 64 ≤ j → j ≠ i → s.sl j = s0.sl j
  done : ∀ j, 64 ≤ j → j < lv * 64 → DoneAt s0 j → DoneAt s j
theorem Ag.start {s : Wh} (h : Inv s) {i lv : Nat} (hi : i ≤ 256) : Ag s s i lv (s.sl i) :=
  ⟨h, rfl, fun _ => rfl, fun p hp => look_of_mem (h.ap i hi) hp, fun x d hx => .inl (look_mem hx), fun _ _ _ => rfl, fun _ _ _ h => h⟩
/-- One that stays. -/
theorem Ag.stay {s0 s : Wh} {i lv : Nat} {l1 l2 : List (Int × Int)} {x d : Int} (h : Ag s0 s i lv (l1 ++ (x, d) :: l2)) (hd : P64 lv ≤ d - s.now) : Ag s0 s i lv (l1 ++ l2) :=
  ⟨h.inv, h.now, h.due, fun p hp => h.r1 p (by simp at hp ⊢; rcases hp with hp | hp; exact .inl hp; exact .inr (.inr hp)), fun y e hy => by
    rcases h.r2 y e hy with hm | hm
    · simp only [List.mem_append, List.mem_cons, Prod.mk.injEq] at hm ⊢
      rcases hm with hm | ⟨rfl, rfl⟩ | hm
      · exact .inl (.inl hm)
      · exact .inr hd
      · exact .inl (.inr hm)
    · exact .inr hm, h.oth, h.done⟩
/-- One that is laid anew. -/
theorem Ag.move {s0 s : Wh} {i lv : Nat} {l1 l2 : List (Int × Int)} {x d : Int} (h : Ag s0 s i lv (l1 ++ (x, d) :: l2)) (hne : ∀ q ∈ l1 ++ l2, q.1 ≠ x) (hi : i ≤ 256) (hli : lv * 64 ≤ i) (h1 : 1 ≤ lv) (h4 : lv ≤ 4) (hd : d - s.now < P64 lv) :
    Ag s0 (layR ⟨s.now, upS s.sl i (del x (s.sl i)), s.pl⟩ x d) i lv (l1 ++ l2) := by
  have hx : look x (s.sl i) = some d := h.r1 (x, d) (by simp)
  obtain ⟨b1, b2, b3, b4⟩ := h.inv.b i x d hi hx
  obtain ⟨p1, p2⟩ := place_lvl h.inv.n0 b1 h1 h4 hd
  obtain ⟨i1, i2⟩ := relay_inv h.inv hi hx
  have hsl : ∀ j, (layR ⟨s.now, upS s.sl i (del x (s.sl i)), s.pl⟩ x d).sl j = if j = idx (placeR s.now d) then put x d (s.sl j) else if j = i then del x (s.sl i) else s.sl j := by
    intro j
    show upS (upS s.sl i (del x (s.sl i))) (idx (placeR s.now d)) (put x d (upS s.sl i (del x (s.sl i)) (idx (placeR s.now d)))) j = _
    unfold upS
    split
    · rename_i e
      rw [e, if_neg (by omega)]
    · rfl
  have hii : (layR ⟨s.now, upS s.sl i (del x (s.sl i)), s.pl⟩ x d).sl i = del x (s.sl i) := by rw [hsl, if_neg (by omega), if_pos rfl]
  refine ⟨i1, h.now, fun y => (i2 y).trans (h.due y), fun p hp => ?_, fun y e hy => ?_, fun j hj hji => ?_, fun j hj hjl hdj => ?_⟩
  · rw [hii, look_del, if_neg (hne p hp)]
    exact h.r1 p (by simp at hp ⊢; rcases hp with hp | hp; exact .inl hp; exact .inr (.inr hp))
  · rw [hii, look_del] at hy
    split at hy
    · cases hy
    · rename_i hyx
      rcases h.r2 y e hy with hm | hm
      · simp only [List.mem_append, List.mem_cons, Prod.mk.injEq] at hm ⊢
        rcases hm with hm | ⟨rfl, rfl⟩ | hm
        · exact .inl (.inl hm)
        · exact absurd rfl hyx
        · exact .inl (.inr hm)
      · exact .inr hm
  · rw [hsl, if_neg (by omega), if_neg hji]
    exact h.oth j hj hji
  · intro y e hy
    rw [hsl] at hy
    show _ ≤ e - s.now
    have hds := h.done j hj hjl hdj
    split at hy
    · rename_i ej
      rw [look_put] at hy
      split at hy
      · injection hy with hy
        subst hy
        rw [ej]
        exact p2
      · exact hds y e hy
    · rw [if_neg (by omega)] at hy
      exact hds y e hy

/-- One slot gone through. -/
structure AgM (w0 wr : World) (g qb : Nat) (bs0 : Nat → Option Nat) (bf bp : Nat) (s0 s : Wh) (bs : Nat → Option Nat) (n : Nat) : Prop where
  wh : WH wr g bs bf bp s
  old : ∀ k c, bs0 k = some c → bs k = some c
  new : ∀ k c, bs k = some c → bs0 k = some c ∨ n ≤ c
  upd : Upd w0 wr (FT g bs0 bf bp)
def AgPost (s0 s : Wh) (i lv : Nat) : Prop := Inv s ∧ s.now = s0.now ∧ (∀ x, dueOf s x = dueOf s0 x) ∧ (∀ x d, look x (s.sl i) = some d → P64 lv ≤ d - s.now) ∧ (∀ j, lv * 64 ≤ j → j ≠ i → s.sl j = s0.sl j) ∧ ∀ j, 64 ≤ j → j < lv * 64 → DoneAt s0 j → DoneAt s j
set_option maxRecDepth 100000 in
set_option maxHeartbeats 8000000 in
theorem again_any {w : World} {g qb : Nat} {bs : Nat → Option Nat} {bf bp : Nat} {s : Wh} (h : WH w g bs bf bp s) (hi0 : Inv s) (hq : Blk w qb #[.pointer (some ⟨g, 0, none⟩)] 24) (hqn : ¬ FT g bs bf bp qb)
    (lv i : Nat) (lvI : Int) (hlv : (lv = 1 ∧ lvI = 1) ∨ (lv = 2 ∧ lvI = 2) ∨ (lv = 3 ∧ lvI = 3) ∨ (lv = 4 ∧ lvI = 4)) (hi : i ≤ 256) (hli : lv * 64 ≤ i) (m : Option Nat) (hm : (∃ b, m = some b ∧ at_ bs bf i = some b) ∨ (m = none ∧ s.sl i = [])) :
    Calls Try.prog 28 #[.int .i64 lvI, .map m, .pointer (some ⟨qb, 0, none⟩)] w fun e w' => e = .returned (.tuple #[]) ∧ (∃ bs' s', AgM w w' g qb bs bf bp s s' bs' w.heap.size ∧ AgPost s s' i lv) := by
  have h1 : 1 ≤ lv := by omega
  have h4 : lv ≤ 4 := by omega
  have hlq := hq.lt
  have hlF : ∀ k, FT g bs bf bp k → k < w.heap.size := fun k hk => h.lt hk
  cases m with
  | none =>
    have hsl : s.sl i = [] := by
      rcases hm with ⟨b, e, _⟩ | ⟨_, h⟩
      · cases e
      · exact h
    have hr0 : (Instr.range 59 (.map none)).run Try.prog w = .ok (.pointer (some ⟨w.heap.size, 0, none⟩)) (w.alloc (.mapIter none 0 #[] 0)) := by
      simp [Instr.range, run_underlying Try.underlying59, go_sem, Result.andThen]
    have hnx := fun ty => run_next_nilMap (P := Try.prog) w ty 0 0 #[]
    have hP : ∃ bs' s', AgM w (w.alloc (.mapIter none 0 #[] 0)) g qb bs bf bp s s' bs' w.heap.size ∧ AgPost s s' i lv :=
      ⟨bs, s, ⟨h.nn ((Upd.refl w _).alloc _), fun _ _ h => h, fun _ _ h => .inl h, (Upd.refl w _).alloc _⟩, hi0, rfl, fun _ => rfl, fun x d hx => by rw [hsl] at hx; simp [look] at hx, fun _ _ _ => rfl, fun _ _ _ h => h⟩
    have H := Lib.hid hP
    have hC := clone_nil w
    clear h hi0 hq hqn hm hP hsl hlF
    go_enter Try.func28, Try.ntmps28
    go_wp2_with fail
    refine hC.mono ?_
    rintro e w2 ⟨rfl, hw⟩
    obtain rfl : w = w2 := hw.symm
    go_wp2_with fail
    refine wp_loop_rounds 1 ?_
    rw [rounds_succ]
    go_wp2
    go_end0
    exact ⟨rfl, H.out⟩
  | some b =>
    have hb : at_ bs bf i = some b := by
      rcases hm with ⟨c, e, h⟩ | ⟨e, _⟩
      · injection e with e; subst e; exact h
      · cases e
    have hmp := h.mp hi hb
    have hFb := FT_at (g := g) (bp := bp) hi hb
    have hC := clone_any hmp
    have H := Lib.hid h
    have HI := Lib.hid hi0
    have HQ := Lib.hid hq
    have HQN := Lib.hid hqn
    have HB := Lib.hid hb
    have HFB := Lib.hid hFb
    have HLF := Lib.hid hlF
    have hlb := hlF b hFb
    have hnow := hi0.n1
    have hnow0 := hi0.n0
    clear h hi0 hq hqn hm hb hFb hlF hmp
    rcases hlv with ⟨hE, rfl⟩ | ⟨hE, rfl⟩ | ⟨hE, rfl⟩ | ⟨hE, rfl⟩
    all_goals
      have HLV := Lib.hid hE
      clear hE
      go_enter Try.func28, Try.ntmps28
      go_wp2_with fail
      refine hC.mono ?_
      rintro e w1 ⟨rfl, hc1, hu1, hz1⟩
      go_wp2_with (first | (at_range; refine wp_rangeM hc1 rfl _ rfl rfl ?_; intro w2 hr2 hu2 hz2) | go_in)
      go_frame
      have hz2' : w2.heap.size = w.heap.size + 2 := by omega
      have hw1 : w1.heap.size = w.heap.size + 1 := hz1
      rw [hw1] at hr2
      have HZ := Lib.hid hz2'
      have HR2 := Lib.hid hr2
      have HU2 := Lib.hid (hu1.nn hu2)
      clear hz1 hz2 hz2' hr2 hu1 hu2 hc1 hC
      generalize w1.heap.size = r at *
      subst hw1
      go_loopw [] (fun wr => ∃ rest s' bs', Rng MI wr w.heap.size (w.heap.size + 1) (s.sl i) rest ∧ AgM w wr g qb bs bf bp s s' bs' (w.heap.size + 2) ∧ Ag s s' i lv rest ∧ w.heap.size + 2 ≤ wr.heap.size) (fun wr => wr.rangeLeft w.heap.size (w.heap.size + 1))
      case atStart => exact ⟨s.sl i, s, bs, HR2.out, ⟨H.out.nn HU2.out, fun _ _ h => h, fun _ _ h => .inl h, HU2.out.mono (fun _ _ h => h.elim)⟩, Ag.start HI.out hi, by rw [HZ.out]; exact Nat.le_refl _⟩
      case round =>
        obtain ⟨rest, s', bs', hrg, hM, hA, hsz⟩ := hrel
        have HM := Lib.hid hM
        have HA := Lib.hid hA
        clear hM hA
        go_wp2_with (first | (at_next; refine nextI hrg rfl _ rfl rfl ?_ ?_) | go_in)
        · rintro rfl
          go_wp2
          go_end0
          exact ⟨rfl, bs', s', ⟨HM.out.wh, HM.out.old, fun k c hc => (HM.out.new k c hc).imp _root_.id (fun h => by omega), HM.out.upd⟩, HA.out.inv, HA.out.now, HA.out.due, fun x d hx => (HA.out.r2 x d hx).resolve_left (by simp), HA.out.oth, HA.out.done⟩
        · intro l1 k d l2 w3 hre hr3 hmem hne hu3 hz3 hen
          have hlen : rest.length = (l1 ++ l2).length + 1 := by rw [hre]; simp; omega
          have hAg := HA.out
          rw [hre] at hAg
          have hx := hAg.r1 (k, d) (by simp)
          obtain ⟨b1, b2, b3, b4⟩ := hAg.inv.b i k d hi hx
          have hnow' := hAg.now
          have hFT : ∀ x, FT g bs' bf bp x → FT g bs bf bp x ∨ w.heap.size + 2 ≤ x := fun x hx => FT_of HM.out.new hx
          have hFl : ∀ x, FT g bs' bf bp x → x < w.heap.size ∨ w.heap.size + 2 ≤ x := fun x hx => (hFT x hx).imp (HLF.out x) _root_.id
          have h3 := HM.out.wh.upd hu3 (fun x hx e => by have := hFl x hx; omega)
          have hu03 : Upd w w3 (FT g bs bf bp) := HM.out.upd.trans hu3 (fun _ _ h => h) (fun x hx e => by omega)
          have hq3 := HQ.out.upd hu03 HQN.out
          have hb' : at_ bs' bf i = some b := by
            have := HB.out
            unfold at_ at this ⊢
            split
            · rename_i e; rw [if_pos e] at this; exact this
            · rename_i e; rw [if_neg e] at this; exact HM.out.old i b this
          have cn := h3.c0
          have cq : w3.cell? ⟨qb, 0, none⟩ = some (.pointer (some ⟨g, 0, none⟩)) := (hq3.cell 0).trans rfl
          rw [hnow'] at cn
          have hbq : qb ≠ b := fun e => HQN.out (e ▸ HFB.out)
          have hm3 := (h3.nn (Upd.refl w3 _).drew).mp hi hb'
          have hz3' : w.heap.size + 2 ≤ w3.heap.size := by omega
          have HAG := Lib.hid hAg
          have HRE := Lib.hid hre
          have HLEN := Lib.hid hlen
          have hne' : ∀ q ∈ l1 ++ l2, q.1 ≠ k := fun q hq => hne q.1 q.2 (by simpa using hq)
          have HNE := Lib.hid hne'
          have H3 := Lib.hid h3
          have HU3 := Lib.hid hu03
          have HFT := Lib.hid hFT
          have HFl := Lib.hid hFl
          have HBB := Lib.hid hb'
          have HQ3 := Lib.hid hq3
          have HR3 := Lib.hid hr3
          have HRG := Lib.hid hrg
          have HNW := Lib.hid hnow'
          have HOK : okI k := okI_of (by omega) b4
          rw [hnow'] at b1
          clear hAg hre hlen hne hne' h3 hu03 hFT hFl hb' hq3 hr3 hrg hu3 hnow'
          by_cases hlt : d - s.now < P64 lv
          · have hd : decide (d - s.now < P64 lv) = true := by simpa using hlt
            have hlt' : d - s'.now < P64 lv := by rw [HNW.out]; exact hlt
            have HMV := Lib.hid (HAG.out.move HNE.out hi hli h1 h4 hlt')
            clear hlt hlt'
            rw [HLV.out] at hd
            simp only [P64] at hd
            go_wp2_with fail
            go_big_region
            go_wp2_with (first | (at_delete; refine delI hm3 rfl _ _ rfl rfl k rfl HOK ?_; intro w4 hm4 hu4 hz4; have cq4 : w4.cell? ⟨qb, 0, none⟩ = some (.pointer (some ⟨g, 0, none⟩)) := hu4.cell (show w3.drew.cell? _ = _ from cq) hbq) | fail)
            have h4' := (H3.out.nn (Upd.refl w3 _).drew).slot_up hi HBB.out hm4 hu4
            have hL := lay_wh h4' k d HOK (by omega) (by omega) (by show 0 ≤ s'.now; rw [HNW.out]; exact hnow0) (by show s'.now ≤ _; rw [HNW.out]; omega)
            have HL := Lib.hid hL
            have H4 := Lib.hid h4'
            have HU4 := Lib.hid hu4
            have hz4' : w4.heap.size = w3.heap.size := hz4
            clear hL h4' hu4 hm4 hz4 hm3
            go_wp2_with fail
            refine HL.out.mono ?_
            rintro e w5 ⟨rfl, bs2, h5, u5, n5, o5⟩
            have hr5 := ((HR3.out.upd (Upd.refl w3 Nope).drew id id).upd HU4.out (by omega) (by omega)).upd u5 (fun hx => by have := HFl.out _ hx; omega) (fun hx => by have := HFl.out _ hx; omega)
            have hu5 : Upd w w5 (FT g bs bf bp) := (HU3.out.drew.trans HU4.out (fun _ _ h => h) (fun x hx e => by subst e; exact HFB.out)).trans u5 (fun _ _ h => h) (fun x hx hf => (HFT.out x hf).resolve_right (by omega))
            have hM5 : AgM w w5 g qb bs bf bp s _ bs2 (w.heap.size + 2) := ⟨h5, fun k c hc => o5 k c (HM.out.old k c hc), fun k c hc => by
              rcases n5 k c hc with h | h
              · exact HM.out.new k c h
              · exact .inr (by omega), hu5⟩
            have HR5 := Lib.hid hr5
            have HM5 := Lib.hid hM5
            have hz5 := u5.size
            clear hr5 hu5 hM5 h5 u5 n5 o5
            go_wp2_with fail
            go_roundw
            case rel => exact ⟨l1 ++ l2, _, bs2, HR5.out, HM5.out, HMV.out, by omega⟩
            case measure => rw [HR5.out.left_eq, HRG.out.left_eq, HLEN.out]; omega
          · have hd : decide (d - s.now < P64 lv) = false := by simpa using hlt
            have hge : P64 lv ≤ d - s'.now := by rw [HNW.out]; omega
            have HST := Lib.hid (HAG.out.stay hge)
            clear hlt hge hm3
            rw [HLV.out] at hd
            simp only [P64] at hd
            go_wp2_with fail
            go_big_region
            go_wp2_with fail
            go_roundw
            case rel => exact ⟨l1 ++ l2, s', bs', HR3.out.upd (Upd.refl w3 Nope).drew id id, ⟨H3.out.nn (Upd.refl w3 _).drew, HM.out.old, HM.out.new, HU3.out.drew⟩, HST.out, hz3'⟩
            case measure => rw [(HR3.out.upd (Upd.refl w3 Nope).drew id id).left_eq, HRG.out.left_eq, HLEN.out]; omega
end Go.Proofs.Ytejelihioendnaa
