/- WheelRebuilt. -/
import Derived.Test.YtejelihioendnaaWac
import Derived.Test.YtejelihioendnaaSeq
set_option linter.unusedVariables false
set_option linter.unusedSimpArgs false
namespace Go.Proofs.Ytejelihioendnaa
open Go.RowKit
open Go.Maps (int_keyed keyOf_int_mk)

/-- The map of the numbers that came up. -/
def MB : MK Try.prog 3 Int Bool where
  kv := .int .i64
  ok := okI
  vv := .bool
  K := int_keyed Try.underlying3
  key a h := ⟨_, keyOf_int_mk Try.underlying3 h⟩
  inj a b h := by injection h
  vinj a b h := by injection h
  tT := 55
  eT := 4
  under := Try.underlying55
  zero := false
  zrun w := by kernel_rfl
section
variable {ops : Array Oper} {Q : Exit → Act → World → Prop} {tail : List Oper} {o : Oper} {a : Act} {w : World} {b : Nat} {L : List (Int × Bool)}
theorem putB (h : Mp MB w b L) (hg : o.guard = none) (m x v : Operand) (hop : o.op = Op.mapUpdate 55 m x v) (hm : a.eval m = .map (some b)) (key : Int) (c : Bool) (hx : a.eval x = .int .i64 key) (hv : a.eval v = .bool c) (ha : okI key)
    (hK : ∀ w', Mp MB w' b (put key c L) → Upd w w' (· = b) → w'.heap.size = w.heap.size → wpList Try.prog ops Q tail (a.put o.dst undef) w') : wpList Try.prog ops Q (o :: tail) a w :=
  wp_putM h hg m x v hop hm key c hx hv ha hK
end
/-- A wheel, and the map of all numbers that it may hold. -/
structure WI (w wr : World) (g : Nat) (F : Nat → Prop) (now : Int) (L : List (Int × Int)) (b : Nat) (I : List (Int × Bool)) : Prop where
  own : Own w wr g F now L
  mp : Mp MB wr b I
  b0 : w.heap.size ≤ b
  bF : ¬ F b
section
variable {w wr w' : World} {g : Nat} {F F' : Nat → Prop} {now now' : Int} {L L' : List (Int × Int)} {b : Nat} {I I' : List (Int × Bool)} (h : WI w wr g F now L b I)
include h
theorem WI.step (hg : Gr wr w' F F') (ha : At w' g F' now' L') : WI w w' g F' now' L' b I :=
  ⟨h.own.step hg ha, h.mp.upd hg.upd h.bF, h.b0, fun hf => by
    rcases hg.new b hf with h1 | h1
    · exact h.bF h1
    · have := h.mp.lt; omega⟩
theorem WI.nn (u : Upd wr w' Nope) : WI w w' g F now L b I := ⟨h.own.nn u, h.mp.upd u id, h.b0, h.bF⟩
theorem WI.put (hm : Mp MB w' b I') (u : Upd wr w' (· = b)) : WI w w' g F now L b I' :=
  ⟨⟨h.own.at_.apart u (fun i hi e => h.bF (e ▸ hi)), h.own.fresh, h.own.upd.on u h.b0⟩, hm, h.b0, h.bF⟩
end
def InI (L : List (Int × Int)) (I : List (Int × Bool)) : Prop := ∀ p ∈ L, (look p.2 I).isSome = true
theorem InI.put {L : List (Int × Int)} {I : List (Int × Bool)} {id due now : Int} (h : InI L I) : InI (setT now L id due) (put id true I) := fun p hp => by
  rw [look_put]
  split
  · rfl
  · rename_i hne
    unfold setT at hp
    split at hp
    · exact h p hp
    · rcases mem_insT.1 hp with rfl | hp
      · exact absurd rfl hne
      · exact h p (mem_delT.1 hp).1
theorem setT_len {now id due : Int} {L : List (Int × Int)} : (setT now L id due).length ≤ L.length + 1 := by
  unfold setT
  split
  · omega
  · unfold setL delT
    rw [insT_len]
    have := List.length_filter_le (fun p : Int × Int => !decide (p.2 = id)) L
    omega
theorem delT_le {id : Int} {L : List (Int × Int)} : (delT id L).length ≤ L.length := List.length_filter_le _ _
theorem adv_sub {tt : Int} {most : Nat} (now : Int) (L : List (Int × Int)) (fired : List Int) : (adv tt most now L fired).2.1.Sublist L := by
  induction now, L, fired using adv.induct (tt := tt) (most := most) with
  | case1 now fired h => rw [adv_stop h (fun n x T e => by cases e)]; exact List.Sublist.refl _
  | case2 now fired h n x T hlt => rw [adv_stop h (fun n' x' T' e => by cases e; exact hlt)]; exact List.Sublist.refl _
  | case3 now fired h n x T hlt ih => rw [adv_go h (by omega)]; exact ih.trans List.filter_sublist
  | case4 now L fired h => rw [adv_full h]; exact List.Sublist.refl _
theorem advR_sub (now tt most : Int) (L : List (Int × Int)) : (advR now L tt most).L.Sublist L := by
  unfold advR
  split
  · exact adv_sub _ _ _
  · exact List.Sublist.refl _
section
variable {w : World} {b r : Nat} {L rest : List (Int × Bool)} {ops : Array Oper} {tail : List Oper} {o : Oper} {a : Act} {Q : Exit → Act → World → Prop}
/-- One number more came out of the map. -/
def NB (w w' : World) (b r : Nat) (L rest : List (Int × Bool)) (x : Int) (v : Value) : Prop :=
  ∃ l1 d l2, rest = l1 ++ (x, d) :: l2 ∧ Rng MB w' b r L (l1 ++ l2) ∧ (x, d) ∈ L ∧ (∀ q ∈ l1 ++ l2, q.1 ≠ x) ∧ Upd w w' (· = r) ∧ w'.heap.size = w.heap.size ∧ (Instr.entry (.pointer (some ⟨r, 0, none⟩))).run Try.prog w' = .ok (.tuple #[.int .i64 x, v]) w'
theorem nextB (h : Rng MB w b r L rest) (hg : o.guard = none) (it : Operand) (hop : o.op = Op.next it false) (hit : a.eval it = .pointer (some ⟨r, 0, none⟩))
    (hDone : rest = [] → wpList Try.prog ops Q tail (a.put o.dst (.tuple #[.bool false])) w)
    (hMore : ∀ x v w', NB w w' b r L rest x v → wpList Try.prog ops Q tail (a.put o.dst (.tuple #[.bool true, .int .i64 x, v])) w') : wpList Try.prog ops Q (o :: tail) a w :=
  wp_nextM h hg it hop hit hDone (fun l1 p l2 w' h1 h2 h3 h4 h5 h6 h7 => by obtain ⟨k, d⟩ := p; exact hMore k (.bool d) w' ⟨l1, d, l2, h1, h2, h3, h4, h5, h6, h7⟩)
end
theorem fired_len (now tt most : Int) (L : List (Int × Int)) (hs : Srt L) (hg : ∀ p ∈ L, now < p.1) : (advR now L tt most).fired.length ≤ L.length := by
  cases hok : advOk now tt most with
  | false => unfold advR; rw [hok]; simp
  | true =>
    obtain ⟨t', he, _⟩ := advR_spec hok hs hg
    rw [he]
    have := upTo_len t' L
    show (idsOf (upTo t' L)).length ≤ _
    unfold idsOf
    rw [List.length_map]
    omega
/-- A world in which an act's number and batch lie at gb. -/
structure UG (gb : Nat) (n bb : Int) where mk ::
  val : World
  h1 : val.cell? ⟨gb, 2, none⟩ = some (.int .i64 n)
  h2 : val.cell? ⟨gb, 3, none⟩ = some (.int .i64 bb)
theorem targetR_max (now n : Int) (h0 : 0 ≤ now) (h1 : now ≤ 1099511627776) : okI (targetR now n) := okI_of (by unfold targetR; omega) (by unfold targetR; omega)
set_option maxRecDepth 100000 in
set_option maxHeartbeats 4000000 in
theorem wheelRebuilt_any (w : World) (now : Int) (hnow : (Lit.int .i64 now).wf = true) (A : Option Addr) (cap : Nat) (l : List Ac) (rd : RdA w A l) (hc : l.length ≤ cap) (hm : cap ≤ maxLen) (ok : ∀ y ∈ l, y.ok)
    (B : Option Addr) (capb : Nat) (mo : List Int) (rdb : Rd1 (Value.int .i64) w B mo) (hcb : mo.length ≤ capb) (hmb : capb ≤ maxLen) (okb : ∀ y ∈ mo, (Lit.int .i64 y).wf = true) :
    Calls Try.prog 5 #[.int .i64 now, .slice A l.length cap, .slice B mo.length capb] w fun e w' => e = .returned (.bool true) ∧ Below w.heap.size w w' := by
  refine Calls.mono (R := fun e w' => e = .returned (.bool true) ∧ Upd w w' Nope) ?_ (fun e w' ⟨h, u⟩ => ⟨h, u.below (fun _ h => h.elim)⟩)
  have hmm := @run_makeMap Try.prog
  have hlm : l.length ≤ 9223372036854775807 := by unfold maxLen at hm; omega
  have hlb : mo.length ≤ 9223372036854775807 := by unfold maxLen at hmb; omega
  have HA := Lib.hid (awake_any w)
  have HRD := Lib.hid rd
  have HRS := Lib.hid rdb
  have HMM := Lib.hid hmm
  have HOK := Lib.hid ok
  clear rd hc hm ok rdb hcb hmb okb hmm
  go_enter Try.func5, Try.ntmps5
  go_wp2_with fail
  refine HA.out.mono ?_
  rintro e w1 ⟨rfl, u1⟩
  have U1 := Lib.hid u1
  clear HA u1
  by_cases hin : l.length ≤ 60 ∧ mo.length ≤ 60 ∧ 0 ≤ now ∧ now ≤ 1099511627776
  · obtain ⟨h1, h2, h3, h4⟩ := hin
    have hok : newOk now = true := by simp [newOk]; omega
    have d1 : decide (60 < (l.length : Int)) = false := by simp; omega
    have d2 : decide (60 < (mo.length : Int)) = false := by simp; omega
    have d3 : decide (now < 0) = false := by simp; omega
    have d4 : decide (1099511627776 < now) = false := by simp; omega
    have HNW := Lib.hid (at_new now w1)
    go_wp2_with fail
    refine HNW.out.mono ?_
    rintro e w2 ⟨_, hx, u2⟩
    obtain ⟨g, F, rfl, hA, hf⟩ := hx hok
    have hO : Own w w2 g F now [] := ⟨hA, fun i hi => by have := hf i hi; have := U1.out.size; omega, U1.out.nn u2⟩
    have hW0 : WI w (w2.alloc (.map #[] 0)) g F now [] w2.heap.size [] := ⟨hO.nn ((Upd.refl w2 _).alloc _), Mp.new MB w2, hO.upd.size, fun hf => Nat.lt_irrefl _ (hO.at_.lt hf)⟩
    have HW0 := Lib.hid hW0
    have hmm := HMM.out
    clear hO hW0 hA hf u2 hx HNW
    go_wp2_with fail
    generalize w2.alloc (.map #[] 0) = w3 at HW0 ⊢
    generalize w2.heap.size = b at HW0 ⊢
    clear d1 d2 d3 d4 hmm
    go_loopw [10] (fun i wr => ∃ (k : Nat) (F' : Nat → Prop) (nw : Int) (L : List (Int × Int)) (I : List (Int × Bool)), k ≤ l.length ∧ i = .int .i64 k ∧ WI w wr g F' nw L b I ∧ InI L I ∧ L.length ≤ k) (fun i _ => l.length - (intOf i).toNat)
    case atStart => exact ⟨0, F, now, [], [], by omega, rfl, HW0.out, fun p hp => by simp at hp, Nat.le_refl _⟩
    case round =>
      clear HW0
      obtain ⟨k, F1, nw, L, I, hk, rfl, hW, hI, hLk⟩ := hrel
      by_cases hlt : k < l.length
      · have hL := HRD.out.nn hW.own.upd
        obtain ⟨ad, rfl, _⟩ := hL k hlt
        have c0 := hL.f0 hlt rfl
        have c1 := hL.fs hlt 0 rfl
        have c2 := hL.fs hlt 1 rfl
        have c3 := hL.fs hlt 2 rfl
        have hao := HOK.out _ (List.getElem_mem hlt)
        simp only [Nat.zero_add, Nat.reduceAdd] at c1 c2 c3
        generalize l[k] = a at c0 c1 c2 c3 hao
        have u3 : Upd wr (wr.alloc (.cells #[.int .i64 a.k, .int .i64 a.id, .int .i64 a.n, .int .i64 a.b] 32)) Nope := (Upd.refl wr _).alloc _
        have HB := Lib.hid (Blk.new wr #[.int .i64 a.k, .int .i64 a.id, .int .i64 a.n, .int .i64 a.b] 32)
        have HW := Lib.hid (hW.nn u3)
        have HGF := Lib.hid (show ¬ F1 wr.heap.size from fun hf => Nat.lt_irrefl _ (hW.own.at_.lt hf))
        have HGB := Lib.hid (show wr.heap.size ≠ b by have := hW.mp.lt; omega)
        have HI := Lib.hid hI
        have oki := hao.1
        clear hL hW hI hao u3
        by_cases k0 : a.k = 0
        · have t0 : (a.k == 0) = true := by simpa using k0
          clear k0
          go_wp2_with fail
          generalize wr.alloc (.cells #[.int .i64 a.k, .int .i64 a.id, .int .i64 a.n, .int .i64 a.b] 32) = w4 at HB HW ⊢
          generalize wr.heap.size = gb at HB HGF HGB ⊢
          refine (HW.out.own.at_.set_ a.id a.n oki).mono ?_
          rintro e w5 ⟨rfl, F5, hA5, hg5⟩
          have x1 : w5.cell? ⟨gb, 1, none⟩ = some (.int .i64 a.id) := ((HB.out.upd hg5.upd HGF.out).cell 1).trans rfl
          have HW5 := Lib.hid (HW.out.step hg5 hA5)
          clear hA5 hg5 c0 c1 c2 c3
          go_wp2_with (first | (at_mapUpdate; refine putB HW5.out.mp rfl _ _ _ rfl rfl a.id true rfl rfl oki ?_; intro w6 hm6 hu6 hz6; clear hz6) | fail)
          have HW6 := Lib.hid (HW5.out.put hm6 hu6)
          go_roundw
          case rel => exact ⟨k + 1, F5, nw, _, _, by omega, by go_num, HW6.out, HI.out.put, Nat.le_trans setT_len (by omega)⟩
          case measure => simp [intOf]; omega
        · have t0 : (a.k == 0) = false := by simpa using k0
          clear k0
          by_cases k1 : a.k = 1
          · have t1 : (a.k == 1) = true := by simpa using k1
            clear k1
            go_wp2_with fail
            generalize wr.alloc (.cells #[.int .i64 a.k, .int .i64 a.id, .int .i64 a.n, .int .i64 a.b] 32) = w4 at HB HW ⊢
            generalize wr.heap.size = gb at HB HGF HGB ⊢
            refine (HW.out.own.at_.cancel_ a.id oki).mono ?_
            rintro e w5 ⟨rfl, F5, hA5, hg5⟩
            have HW5 := Lib.hid (HW.out.step hg5 hA5)
            clear hA5 hg5 c0 c1 c2 c3
            go_wp2_with fail
            go_roundw
            case rel => exact ⟨k + 1, F5, nw, _, I, by omega, by go_num, HW5.out, fun p hp => HI.out p (mem_delT.1 hp).1, by have := delT_le (id := a.id) (L := L); omega⟩
            case measure => simp [intOf]; omega
          · have t1 : (a.k == 1) = false := by simpa using k1
            clear k1
            by_cases k2 : a.k = 2
            · have t2 : (a.k == 2) = true := by simpa using k2
              clear k2
              go_wp2_with fail
              generalize wr.alloc (.cells #[.int .i64 a.k, .int .i64 a.id, .int .i64 a.n, .int .i64 a.b] 32) = w4 at HB HW ⊢
              generalize wr.heap.size = gb at HB HGF HGB ⊢
              have XN := fun (x : UG gb a.n a.b) => x.h1
              have XB := fun (x : UG gb a.n a.b) => x.h2
              have y1 : w4.drew.cell? ⟨gb, 2, none⟩ = some (.int .i64 a.n) := (HB.out.cell 2).trans rfl
              have y2 : w4.drew.cell? ⟨gb, 3, none⟩ = some (.int .i64 a.b) := (HB.out.cell 3).trans rfl
              haveI : Nonempty (UG gb a.n a.b) := ⟨⟨w4.drew, y1, y2⟩⟩
              clear c0 c1 c2 c3
              refine region_seq [([0, 1, 3, 4, 6, 7], 2), ([], 5), ([], 8)] [] (by kernel_rfl) (fun w' => ∃ x : UG gb a.n a.b, w' = x.val) (by kernel_rfl) (fun _ _ d _ _ h => by cases d <;> exact h) ⟨⟨w4.drew, y1, y2⟩, rfl⟩ ?_
              simp only [segsAt_cons, segsAt_nil, opsAt_cons, opsAt_nil, List.getElem?_toArray, List.getElem?_cons_zero, List.getElem?_cons_succ, consO_some, pairO_some]
              refine wpS_seg ?_
              repeat (first | go_big_quiet_skip | (go_big_quiet_want; go_big_quiet_op; go_big_quiet_on))
              refine wpQuiet_nil ?_
              have hWd := HW.out.nn ((Upd.refl w4 Nope).drew)
              have hn0 := hWd.own.at_.n0
              have hBd := HB.out.upd ((Upd.refl w4 Nope).drew) id
              have HWD := Lib.hid hWd
              have HN0 := Lib.hid hn0
              have HBD := Lib.hid hBd
              generalize w4.drew = wd at *
              clear hWd hn0 hBd
              go_wp2_with fail
              refine HWD.out.own.at_.now_.mono ?_
              rintro e w5 ⟨rfl, hw5⟩
              obtain rfl : wd = w5 := hw5.symm
              go_wp2_with fail
              refine ⟨⟨⟨wd, y1, y2⟩, rfl⟩, ?_⟩
              refine wpS_seg ?_
              refine wpQuiet_nil ?_
              go_wp2_with fail
              refine (target_any nw a.n wd HN0.out.1 HN0.out.2).mono ?_
              rintro e w6 ⟨rfl, hw6⟩
              obtain rfl : wd = w6 := hw6.symm
              go_wp2_with fail
              refine ⟨⟨⟨wd, y1, y2⟩, rfl⟩, ?_⟩
              refine wpS_seg ?_
              refine wpQuiet_nil ?_
              go_wp2_with fail
              refine (HWD.out.own.at_.adv_ (by omega) (targetR nw a.n) a.b).mono ?_
              rintro e w7 ⟨A7, cap7, F7, rfl, hr7, hA7, hg7, hd7⟩
              have hB7 := HBD.out.upd hg7.upd HGF.out
              have z1 : w7.cell? ⟨gb, 2, none⟩ = some (.int .i64 a.n) := (hB7.cell 2).trans rfl
              have z2 : w7.cell? ⟨gb, 3, none⟩ = some (.int .i64 a.b) := (hB7.cell 3).trans rfl
              have HW7 := Lib.hid (HWD.out.step hg7 hA7)
              have hsub := advR_sub nw (targetR nw a.n) a.b L
              have HSUB := Lib.hid hsub
              clear hr7 hA7 hg7 hd7 hB7 hsub
              go_wp2_with fail
              refine ⟨⟨⟨w7, z1, z2⟩, rfl⟩, ?_⟩
              refine wpS_last ?_
              refine wpQuiet_nil ?_
              go_wp2
              go_roundw
              case rel => exact ⟨k + 1, F7, _, _, I, by omega, by go_num, HW7.out, fun p hp => HI.out p (HSUB.out.subset hp), by have := HSUB.out.length_le; omega⟩
              case measure => simp [intOf]; omega
            · have t2 : (a.k == 2) = false := by simpa using k2
              clear k2
              go_wp2_with fail
              go_roundw
              case rel => exact ⟨k + 1, F1, nw, L, I, by omega, by go_num, HW.out, HI.out, by omega⟩
              case measure => simp [intOf]; omega
      · obtain rfl : k = l.length := by omega
        have hn0 := hW.own.at_.n0
        have hok2 : newOk nw = true := by simp [newOk]; omega
        have HW := Lib.hid hW
        have HI := Lib.hid hI
        clear hW hI
        go_wp2_with fail
        refine HW.out.own.at_.now_.mono ?_
        rintro e w4 ⟨rfl, hw4⟩
        obtain rfl : wr = w4 := hw4.symm
        have HNW := Lib.hid (at_new nw wr)
        go_wp2_with fail
        refine HNW.out.mono ?_
        rintro e w5 ⟨_, hx, u5⟩
        obtain ⟨g2, G, rfl, hA, hf⟩ := hx hok2
        have hT : Two w w5 g F1 nw L g2 G nw [] := ⟨HW.out.own.nn u5, ⟨hA, fun i hi => by have := hf i hi; have := HW.out.own.upd.size; omega, HW.out.own.upd.nn u5⟩, fun i hi hi2 => by have := HW.out.own.at_.lt hi; have := hf i hi2; omega⟩
        have hmp := HW.out.mp.upd u5 id
        have HT := Lib.hid hT
        have HGB := Lib.hid (show ¬ G b from fun h => by have := hf b h; have := HW.out.mp.lt; omega)
        have HFL := Lib.hid (show (∀ i, F1 i → i < w5.heap.size) ∧ (∀ i, G i → i < w5.heap.size) from ⟨fun i hi => hT.a.at_.lt hi, fun i hi => hT.b.at_.lt hi⟩)
        have HOKI := Lib.hid hmp.ok
        clear hT hx hf hA u5 HNW hok2
        go_wp2_with (first | (at_range; refine wp_rangeM hmp rfl _ rfl rfl ?_; intro w6 hr6 hu6 hz6) | fail)
        have H6 := Lib.hid (show ∃ rest F' G' M, Rng MB w6 b w5.heap.size I rest ∧ Two w w6 g F' nw L g2 G' nw M ∧ (¬ F' b ∧ ¬ G' b ∧ ¬ F' w5.heap.size ∧ ¬ G' w5.heap.size) ∧ (∀ p ∈ M, p ∈ L) ∧ (∀ p ∈ L, p ∈ M ∨ ∃ q ∈ rest, q.1 = p.2) from
          ⟨I, F1, G, [], hr6, HT.out.nn hu6, ⟨HW.out.bF, HGB.out, fun h => Nat.lt_irrefl _ (HFL.out.1 _ h), fun h => Nat.lt_irrefl _ (HFL.out.2 _ h)⟩, fun p hp => by simp at hp, fun p hp => by
            obtain ⟨c, hc⟩ := Option.isSome_iff_exists.1 (HI.out p hp)
            exact .inr ⟨_, look_mem hc, rfl⟩⟩)
        have hlr := hr6.lt
        have hrw : w.heap.size ≤ w5.heap.size := HT.out.a.upd.size
        clear hr6 hu6 hz6 hmp
        go_frame
        generalize w5.heap.size = r at *
        go_loopw [] (fun wr => ∃ rest F' G' M, Rng MB wr b r I rest ∧ Two w wr g F' nw L g2 G' nw M ∧ (¬ F' b ∧ ¬ G' b ∧ ¬ F' r ∧ ¬ G' r) ∧ (∀ p ∈ M, p ∈ L) ∧ (∀ p ∈ L, p ∈ M ∨ ∃ q ∈ rest, q.1 = p.2)) (fun wr => wr.rangeLeft b r)
        case atStart => exact H6.out
        case round =>
          clear H6
          obtain ⟨rest, F2, G2, M, hrg, hT2, hnb, hML, hLM⟩ := hrel
          have HT2 := Lib.hid hT2
          have HNB := Lib.hid hnb
          have HML := Lib.hid hML
          have HLM := Lib.hid hLM
          clear hT2 hnb hML hLM
          go_wp2_with (first | (at_next; refine nextB hrg rfl _ rfl rfl ?_ ?_) | fail)
          · rintro rfl
            have hMe : M = L := srt_ext HT2.out.b.at_.srt HT2.out.a.at_.srt fun p => ⟨HML.out p, fun h => (HLM.out p h).resolve_right (by simp)⟩
            rw [hMe] at HT2
            clear HML HLM hrg hMe
            go_wp2_with fail
            go_loopw [17] (fun i wr' => ∃ (k : Nat) (F' G' : Nat → Prop) (t : Int) (L' : List (Int × Int)), k ≤ mo.length ∧ i = .int .i64 k ∧ Two w wr' g F' t L' g2 G' t L' ∧ L'.length ≤ 60) (fun i _ => mo.length - (intOf i).toNat)
            case atStart => exact ⟨0, F2, G2, nw, L, by omega, rfl, HT2.out, by omega⟩
            case round =>
              rename_i wrr _
              obtain ⟨k, F3, G3, t, L3, hk3, rfl, hT, hL3⟩ := hrel
              by_cases hkl : k < mo.length
              · obtain ⟨bd, rfl, hcell⟩ := (HRS.out.upd hT.a.upd (fun _ h => h.elim)) k hkl
                have hn0 := hT.a.at_.n0
                generalize mo[k] = y at hcell
                have XD := fun (x : UW _) => x.cell hcell
                have HN := Lib.hid (fun (x : UW _) => (hT.nn x.ok).a.at_.now_.mono (fun e w' (h : e = Ending.returned (.int .i64 t) ∧ w' = x.val) => (⟨h.1, by rw [h.2]; exact Upd.refl _ _⟩ : e = Ending.returned (.int .i64 t) ∧ Upd x.val w' Nope)))
                have HTG := Lib.hid (fun (W : World) => (target_any t y W hn0.1 hn0.2).mono (fun e w' (h : e = Ending.returned (.int .i64 (targetR t y)) ∧ w' = W) => (⟨h.1, by rw [h.2]; exact Upd.refl _ _⟩ : e = Ending.returned (.int .i64 (targetR t y)) ∧ Upd W w' Nope)))
                have HT := Lib.hid hT
                clear hT hcell hn0
                go_wp2_with fail
                refine region_uw (by kernel_rfl) (by kernel_rfl) ?_
                repeat (first
                  | go_big_quiet_skip
                  | (go_big_quiet_want; go_big_quiet_op; first | go_big_quiet_on | go_big_quiet_call (first | (go_at_call 18; exact UW.call (HN.out _)) | (go_at_call 14; exact UW.call (HTG.out _)))))
                refine wpQuiet_nil ?_
                rintro _ ⟨x, rfl⟩
                have hTx := HT.out.nn x.ok
                have hC := hTx.a.at_.adv_ (by omega) (targetR t y) 3
                have HFL := Lib.hid (fired_len t (targetR t y) 3 L3 hTx.a.at_.srt hTx.a.at_.gt)
                have HSB := Lib.hid (advR_sub t (targetR t y) 3 L3).length_le
                have HC := Lib.hid hC
                have HTX := Lib.hid hTx
                clear hC hTx XD
                go_wp2_with fail
                refine HC.out.mono ?_
                rintro e w8 ⟨A8, cap8, F8, rfl, hr8, hA8, hg8, hd8⟩
                have hT8 := HTX.out.stepA hg8 hA8
                have hC := hT8.b.at_.adv_ (by omega) (targetR t y) 3
                have HC := Lib.hid hC
                have HT8 := Lib.hid hT8
                have HR8 := Lib.hid hr8
                have HD8 := Lib.hid hd8
                have HGL := Lib.hid (fun i (h : G3 i) => HTX.out.b.at_.lt h)
                clear hC hT8 hr8 hA8 hg8 hd8
                generalize advR t L3 (targetR t y) 3 = R at *
                go_wp2_with fail
                refine HC.out.mono ?_
                rintro e w9 ⟨A9, cap9, G9, rfl, hr9, hA9, hg9, hd9⟩
                have hT9 := HT8.out.stepB hg9 hA9
                have hr89 := rd1_away HR8.out hg9.upd (fun ad e hf => by have h1 := (HD8.out ad e).1; have h2 := HGL.out _ hf; omega)
                have hS := same_any (ca := cap8) (cb := cap9) hr89 hr9 (by have := HFL.out; omega)
                simp only [decide_true] at hS
                have HS := Lib.hid hS
                have HT9 := Lib.hid hT9
                clear hS hT9 hr89 hr9 hA9 hg9 hd9 HC
                go_wp2_with fail
                refine HS.out.mono ?_
                rintro e w10 ⟨rfl, u10⟩
                have hT10 := HT9.out.nn u10
                have HL1 := Lib.hid hT10.a.at_.len_
                have HL2 := Lib.hid hT10.b.at_.len_
                have HT10 := Lib.hid hT10
                clear hT10 u10 HS
                go_wp2_with fail
                refine HL1.out.mono ?_
                rintro e w11 ⟨rfl, hw11⟩
                obtain rfl : w10 = w11 := hw11.symm
                go_wp2_with fail
                refine HL2.out.mono ?_
                rintro e w12 ⟨rfl, hw12⟩
                obtain rfl : w10 = w12 := hw12.symm
                go_wp2_with fail
                go_roundw
                case rel => exact ⟨k + 1, F8, G9, _, _, by omega, by go_num, HT10.out, by have := HSB.out; omega⟩
                case measure => simp [intOf]; omega
              · obtain rfl : k = mo.length := by omega
                have HU := Lib.hid hT.a.upd
                clear hT
                go_wp2_with fail
                go_returns
                exact ⟨rfl, HU.out⟩
          · intro x v w1 hNB
            obtain ⟨l1, d, l2, hre, hr1, hmem, hne, hu1, hz1, hen⟩ := hNB
            have hT3 : Two w w1 g F2 nw L g2 G2 nw M := ⟨⟨HT2.out.a.at_.apart hu1 (fun i hi e => HNB.out.2.2.1 (e ▸ hi)), HT2.out.a.fresh, HT2.out.a.upd.on hu1 hrw⟩, ⟨HT2.out.b.at_.apart hu1 (fun i hi e => HNB.out.2.2.2 (e ▸ hi)), HT2.out.b.fresh, HT2.out.b.upd.on hu1 hrw⟩, HT2.out.ap⟩
            have okx : okI x := HOKI.out _ hmem
            have hD := hT3.a.at_.due_ x okx
            have HT3 := Lib.hid hT3
            have HR1 := Lib.hid hr1
            have HRE := Lib.hid hre
            have HNE := Lib.hid hne
            have HRG := Lib.hid hrg
            have HLEN := Lib.hid (show rest.length = (l1 ++ l2).length + 1 by rw [hre]; simp; omega)
            by_cases hx : ∃ dd, (dd, x) ∈ L
            · obtain ⟨dd, hdx⟩ := hx
              rw [dueL_some (fun d'' h'' => hT3.a.at_.uniq h'' hdx) hdx] at hD
              have hbd := hT3.a.at_.bnd hdx
              have dle : decide (dd ≤ 2199023255552) = true := by simp; omega
              have dgt : decide (2199023255552 < dd) = false := by simp; omega
              have HD := Lib.hid hD
              have HDX := Lib.hid hdx
              clear hD hT3 hr1 hre hne hrg hu1 hz1 hdx
              go_wp2_with fail
              refine HD.out.mono ?_
              rintro e w7 ⟨rfl, F7, hA7, hg7⟩
              have hT7 := HT3.out.stepA hg7 hA7
              have hr7 := HR1.out.upd hg7.upd HNB.out.1 HNB.out.2.2.1
              have hS := hT7.b.at_.set_ x dd okx
              obtain ⟨t1, t2⟩ := setT_of (now := nw) (L := M) (id := x) (due := dd) hbd.2.2.1 (by have := HT3.out.a.at_.n0; omega) hbd.2.1
              rw [t1, t2] at hS
              have hF7b : ¬ F7 b := fun h => by
                rcases hg7.new b h with h | h
                · exact HNB.out.1 h
                · have := HR1.out.mp.lt; omega
              have hF7r : ¬ F7 r := fun h => by
                rcases hg7.new r h with h | h
                · exact HNB.out.2.2.1 h
                · have := HR1.out.lt; omega
              have HS := Lib.hid hS
              have HT7 := Lib.hid hT7
              have HR7 := Lib.hid hr7
              have HF7 := Lib.hid (And.intro hF7b hF7r)
              clear hA7 hg7 hT7 hr7 hS t1 t2 hF7b hF7r HD
              go_wp2_with fail
              refine HS.out.mono ?_
              rintro e w8 ⟨rfl, G8, hA8, hg8⟩
              have hT8 := HT7.out.stepB hg8 hA8
              have hr8 := HR7.out.upd hg8.upd HNB.out.2.1 HNB.out.2.2.2
              have hG8b : ¬ G8 b := fun h => by
                rcases hg8.new b h with h | h
                · exact HNB.out.2.1 h
                · have := HR7.out.mp.lt; omega
              have hG8r : ¬ G8 r := fun h => by
                rcases hg8.new r h with h | h
                · exact HNB.out.2.2.2 h
                · have := HR7.out.lt; omega
              have hmax : max dd (nw + 1) = dd := by omega
              have hsub : ∀ p ∈ setL nw M x dd, p ∈ L := fun p hp => by
                rcases mem_insT.1 hp with rfl | hp
                · rw [hmax]; exact HDX.out
                · exact HML.out p (mem_delT.1 hp).1
              have hcov : ∀ p ∈ L, p ∈ setL nw M x dd ∨ ∃ q ∈ l1 ++ l2, q.1 = p.2 := fun p hp => by
                by_cases e : p.2 = x
                · left
                  have : p.1 = dd := HT3.out.a.at_.uniq (x := x) (by rw [← e]; exact hp) HDX.out
                  refine mem_insT.2 (.inl ?_)
                  rw [hmax]
                  exact Prod.ext this e
                · rcases HLM.out p hp with h | ⟨q, hq, eq⟩
                  · exact .inl (mem_insT.2 (.inr (mem_delT.2 ⟨h, e⟩)))
                  · right
                    rw [HRE.out] at hq
                    refine ⟨q, ?_, eq⟩
                    rcases List.mem_append.1 hq with h | h
                    · exact List.mem_append_left _ h
                    · rcases List.mem_cons.1 h with rfl | h
                      · exact absurd eq.symm e
                      · exact List.mem_append_right _ h
              have HX := Lib.hid (show ∃ rest F' G' M, Rng MB w8 b r I rest ∧ Two w w8 g F' nw L g2 G' nw M ∧ (¬ F' b ∧ ¬ G' b ∧ ¬ F' r ∧ ¬ G' r) ∧ (∀ p ∈ M, p ∈ L) ∧ (∀ p ∈ L, p ∈ M ∨ ∃ q ∈ rest, q.1 = p.2) from
                ⟨l1 ++ l2, F7, G8, _, hr8, hT8, ⟨HF7.out.1, hG8b, HF7.out.2, hG8r⟩, hsub, hcov⟩)
              have HR8 := Lib.hid hr8
              clear hA8 hg8 hT8 hr8 hG8b hG8r hsub hcov hbd hmax HS
              go_wp2_with fail
              go_roundw
              case rel => exact HX.out
              case measure => rw [HR8.out.left_eq, HRG.out.left_eq, HLEN.out]; omega
            · rw [dueL_none (fun p hp e => hx ⟨p.1, by rw [← e]; exact hp⟩)] at hD
              have HD := Lib.hid hD
              have HX0 := Lib.hid hx
              clear hD hT3 hr1 hre hne hrg hu1 hz1 hx
              go_wp2_with fail
              refine HD.out.mono ?_
              rintro e w7 ⟨rfl, F7, hA7, hg7⟩
              have hT7 := HT3.out.stepA hg7 hA7
              have hr7 := HR1.out.upd hg7.upd HNB.out.1 HNB.out.2.2.1
              have hF7b : ¬ F7 b := fun h => by
                rcases hg7.new b h with h | h
                · exact HNB.out.1 h
                · have := HR1.out.mp.lt; omega
              have hF7r : ¬ F7 r := fun h => by
                rcases hg7.new r h with h | h
                · exact HNB.out.2.2.1 h
                · have := HR1.out.lt; omega
              have hcov : ∀ p ∈ L, p ∈ M ∨ ∃ q ∈ l1 ++ l2, q.1 = p.2 := fun p hp => by
                rcases HLM.out p hp with h | ⟨q, hq, eq⟩
                · exact .inl h
                · right
                  rw [HRE.out] at hq
                  refine ⟨q, ?_, eq⟩
                  rcases List.mem_append.1 hq with h | h
                  · exact List.mem_append_left _ h
                  · rcases List.mem_cons.1 h with rfl | h
                    · exact absurd ⟨p.1, by rw [show x = p.2 from eq]; exact hp⟩ HX0.out
                    · exact List.mem_append_right _ h
              have HX := Lib.hid (show ∃ rest F' G' M, Rng MB w7 b r I rest ∧ Two w w7 g F' nw L g2 G' nw M ∧ (¬ F' b ∧ ¬ G' b ∧ ¬ F' r ∧ ¬ G' r) ∧ (∀ p ∈ M, p ∈ L) ∧ (∀ p ∈ L, p ∈ M ∨ ∃ q ∈ rest, q.1 = p.2) from
                ⟨l1 ++ l2, F7, G2, M, hr7, hT7, ⟨hF7b, HNB.out.2.1, hF7r, HNB.out.2.2.2⟩, HML.out, hcov⟩)
              have HR7 := Lib.hid hr7
              clear hA7 hg7 hT7 hr7 hF7b hF7r hcov HD
              go_wp2_with fail
              go_roundw
              case rel => exact HX.out
              case measure => rw [HR7.out.left_eq, HRG.out.left_eq, HLEN.out]; omega
  · have hbb : decide (60 < (l.length : Int)) = true ∨ (decide (60 < (l.length : Int)) = false ∧ decide (60 < (mo.length : Int)) = true) ∨ (decide (60 < (l.length : Int)) = false ∧ decide (60 < (mo.length : Int)) = false ∧ decide (now < 0) = true) ∨ (decide (60 < (l.length : Int)) = false ∧ decide (60 < (mo.length : Int)) = false ∧ decide (now < 0) = false ∧ decide (1099511627776 < now) = true) := by
      simp only [decide_eq_true_eq, decide_eq_false_iff_not]; omega
    clear hin
    rcases hbb with d1 | ⟨d1, d2⟩ | ⟨d1, d2, d3⟩ | ⟨d1, d2, d3, d4⟩
    all_goals
      go_wp2
      go_returns
      exact ⟨rfl, U1.out⟩
end Go.Proofs.Ytejelihioendnaa
