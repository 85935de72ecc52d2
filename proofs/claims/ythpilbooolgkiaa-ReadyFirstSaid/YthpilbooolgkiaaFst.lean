/- The law ReadyFirst, walked: it returns true. -/
import Derived.Test.YthpilbooolgkiaaFpl
import Derived.Test.YthpilbooolgkiaaOdr
set_option linter.unusedVariables false
set_option linter.unusedSimpArgs false
namespace Go.Proofs.Ythpilbooolgkiaa
open Go.RowKit
open Go.Maps (int_keyed keyOf_int_mk)

/-- The map of those that are free, by their places. -/
def MF : MK Try.prog 3 Int Bool where
  kv := .int .i64
  ok := okI
  vv := .bool
  K := int_keyed Try.underlying3
  key a h := ⟨_, keyOf_int_mk Try.underlying3 h⟩
  inj a b h := by injection h
  vinj a b h := by injection h
  tT := 59
  eT := 4
  under := Try.underlying59
  zero := false
  zrun w := by kernel_rfl
theorem putF {w : World} {b : Nat} {ops : Array Oper} {tail : List Oper} {o : Oper} {a : Act} {Q : Exit → Act → World → Prop} {L : List (Int × Bool)} (h : Mp MF w b L) (hg : o.guard = none) (m x v : Operand) (hop : o.op = Op.mapUpdate 59 m x v) (hm : a.eval m = .map (some b)) (key : Int) (c : Bool) (hx : a.eval x = .int .i64 key) (hv : a.eval v = .bool c) (ha : okI key)
    (hK : ∀ w', Mp MF w' b (put key c L) → Upd w w' (· = b) → wpList Try.prog ops Q tail (a.put o.dst undef) w') : wpList Try.prog ops Q (o :: tail) a w :=
  wp_putM h hg m x v hop hm key c hx hv ha (fun w' h1 h2 _ => hK w' h1 h2)
theorem runF {w : World} {b : Nat} {L : List (Int × Bool)} (h : Mp MF w b L) {key : Int} (ha : okI key) {c : Bool} (hc : look key L = some c) : (Instr.lookup 59 (.map (some b)) (.int .i64 key) false).run Try.prog w = .ok (.bool c) w := by
  have := h.lookup false key ha
  rw [hc] at this
  exact this
/-- The queue, and the law's own row. -/
structure FR (w wr : World) (g : Nat) (F : Nat → Prop) (age limit : Int) (L : List En) (fly : List (Int × ByteArray)) (A : Option Addr) (cap : Nat) (M : List En) : Prop where
  own : OwnR w wr g F age limit 4096 L fly
  row : SL wr A cap M
  rap : ∀ ad, A = some ad → ¬ F ad.block ∧ w.heap.size ≤ ad.block
theorem SL.lt {w : World} {A : Option Addr} {cap : Nat} {M : List En} (h : SL w A cap M) : ∀ ad, A = some ad → ad.block < w.heap.size := fun ad e => by
  rcases h with ⟨h, _⟩ | ⟨q, e2, hA⟩
  · rw [h] at e; cases e
  · rw [e2] at e; cases e; exact hA.lt
section
variable {w wr w' : World} {g : Nat} {F F' : Nat → Prop} {age limit : Int} {L L' M M' : List En} {fly fly' : List (Int × ByteArray)} {A A' : Option Addr} {cap cap' : Nat} (h : FR w wr g F age limit L fly A cap M)
include h
theorem FR.off {G : Nat → Prop} (u : Upd wr w' G) (hG : ∀ i, G i → ¬ F i ∧ w.heap.size ≤ i ∧ ∀ ad, A = some ad → i ≠ ad.block) : FR w w' g F age limit L fly A cap M :=
  ⟨⟨h.own.ro.apart u (fun i hi k => (hG i k).1 hi), h.own.fresh, h.own.upd.trans u (fun _ _ h => h) (fun i hi k => by have := (hG i k).2.1; omega)⟩, h.row.upd u (fun ad e k => (hG _ k).2.2 ad e rfl), h.rap⟩
theorem FR.nn (u : Upd wr w' Nope) : FR w w' g F age limit L fly A cap M := h.off u (fun _ h => h.elim)
theorem FR.queue (hg : Gr wr w' F F') (hr : RO w' g F' age limit 4096 L' fly') : FR w w' g F' age limit L' fly' A cap M :=
  ⟨h.own.step hg hr, h.row.upd hg.upd (fun ad e => (h.rap ad e).1), fun ad e => ⟨fun hf => (hg.new _ hf).elim (h.rap ad e).1 (fun k => by have := h.row.lt ad e; omega), (h.rap ad e).2⟩⟩
theorem FR.stay (u : Upd wr w' F) (hr : RO w' g F age limit 4096 L' fly') : FR w w' g F age limit L' fly' A cap M := h.queue ⟨u, fun _ h => .inl h⟩ hr
theorem FR.setRow (u : Upd wr w' (fun k => ∃ ad, A = some ad ∧ k = ad.block)) (hs : SL w' A' cap' M') (hq : ∀ ad', A' = some ad' → (∃ ad, A = some ad ∧ ad'.block = ad.block) ∨ wr.heap.size ≤ ad'.block) : FR w w' g F age limit L fly A' cap' M' :=
  ⟨⟨h.own.ro.apart u (fun i hi ⟨ad, e, k⟩ => (h.rap ad e).1 (k ▸ hi)), h.own.fresh, h.own.upd.trans u (fun _ _ h => h) (fun i hi ⟨ad, e, k⟩ => by have := (h.rap ad e).2; omega)⟩, hs, fun ad' e' => by
    rcases hq ad' e' with ⟨ad, e, k⟩ | k
    · rw [k]; exact h.rap ad e
    · exact ⟨fun hf => by have := h.own.ro.lt hf; omega, by have := h.own.upd.size; omega⟩⟩
end
/-- .., and the act that is played, at a block of its own. -/
structure FI (w wr : World) (g : Nat) (F : Nat → Prop) (age limit : Int) (L : List En) (fly : List (Int × ByteArray)) (A : Option Addr) (cap : Nat) (M : List En) (qa : Nat) (a : Ac) : Prop where
  fr : FR w wr g F age limit L fly A cap M
  act : Blk wr qa #[.int .i64 a.k, .int .i64 a.id, .int .i64 a.now, .int .i64 a.x.id, .string a.x.dest, .int .i64 a.x.pri, .int .i64 a.x.at_] 36
  qF : ¬ F qa
  qR : ∀ ad, A = some ad → qa ≠ ad.block
  q0 : w.heap.size ≤ qa
section
variable {w wr w' : World} {g : Nat} {F F' : Nat → Prop} {age limit : Int} {L L' M M' : List En} {fly fly' : List (Int × ByteArray)} {A A' : Option Addr} {cap cap' qa : Nat} {a : Ac} (h : FI w wr g F age limit L fly A cap M qa a)
include h
theorem FI.off {G : Nat → Prop} (u : Upd wr w' G) (hG : ∀ i, G i → ¬ F i ∧ w.heap.size ≤ i ∧ i ≠ qa ∧ ∀ ad, A = some ad → i ≠ ad.block) : FI w w' g F age limit L fly A cap M qa a :=
  ⟨h.fr.off u (fun i k => ⟨(hG i k).1, (hG i k).2.1, (hG i k).2.2.2⟩), h.act.upd u (fun k => (hG _ k).2.2.1 rfl), h.qF, h.qR, h.q0⟩
theorem FI.nn (u : Upd wr w' Nope) : FI w w' g F age limit L fly A cap M qa a := h.off u (fun _ h => h.elim)
theorem FI.queue (hg : Gr wr w' F F') (hr : RO w' g F' age limit 4096 L' fly') : FI w w' g F' age limit L' fly' A cap M qa a :=
  ⟨h.fr.queue hg hr, h.act.upd hg.upd h.qF, fun hf => (hg.new qa hf).elim h.qF (fun k => by have := h.act.lt; omega), h.qR, h.q0⟩
theorem FI.stay (u : Upd wr w' F) (hr : RO w' g F age limit 4096 L' fly') : FI w w' g F age limit L' fly' A cap M qa a := h.queue ⟨u, fun _ h => .inl h⟩ hr
theorem FI.setRow (u : Upd wr w' (fun k => ∃ ad, A = some ad ∧ k = ad.block)) (hs : SL w' A' cap' M') (hq : ∀ ad', A' = some ad' → (∃ ad, A = some ad ∧ ad'.block = ad.block) ∨ wr.heap.size ≤ ad'.block) : FI w w' g F age limit L fly A' cap' M' qa a :=
  ⟨h.fr.setRow u hs hq, h.act.upd u (fun ⟨ad, e, k⟩ => h.qR ad e k), h.qF, fun ad' e' k => by
    rcases hq ad' e' with ⟨ad, e, k2⟩ | k2
    · exact h.qR ad e (k.trans k2)
    · have := h.act.lt; omega, h.q0⟩
theorem FI.newRow (u : Upd wr w' Nope) (hs : SL w' A' cap' M') (hq : ∀ ad', A' = some ad' → wr.heap.size ≤ ad'.block) : FI w w' g F age limit L fly A' cap' M' qa a :=
  h.setRow (u.mono (fun _ _ h => h.elim)) hs (fun ad' e => .inr (hq ad' e))
end
theorem FR.act {w wr : World} {g : Nat} {F : Nat → Prop} {age limit : Int} {L M : List En} {fly : List (Int × ByteArray)} {A : Option Addr} {cap : Nat} (h : FR w wr g F age limit L fly A cap M) (a : Ac) :
    FI w (wr.alloc (.cells #[.int .i64 a.k, .int .i64 a.id, .int .i64 a.now, .int .i64 a.x.id, .string a.x.dest, .int .i64 a.x.pri, .int .i64 a.x.at_] 36)) g F age limit L fly A cap M wr.heap.size a :=
  ⟨h.nn ((Upd.refl wr _).alloc _), Blk.new wr _ 36, fun hf => Nat.lt_irrefl _ (h.own.ro.lt hf), fun ad e k => by have := h.row.lt ad e; omega, h.own.upd.size⟩
/-- A copy of a row, one entry left out. -/
theorem RowE.sl {w2 w' : World} {v : Value} {xs : List En} (h : RowE 34 w2 w' v xs) (hv : v.ownBlock ≠ none) : ∃ q cap, v = .slice (some ⟨q, 0, none⟩) xs.length cap ∧ SL w' (some ⟨q, 0, none⟩) cap xs ∧ w2.heap.size ≤ q := by
  obtain ⟨q, cap, e, hn, hA, hB⟩ := arr_of_owns h.own (fun e => by rw [e] at hv; exact hv rfl)
  exact ⟨q, cap, e, .inr ⟨q, rfl, hA⟩, hB⟩
theorem first_ways (f : Bool) (age limit : Int) : f = false ∨ (f = true ∧ decide (age < 1) = true) ∨ (f = true ∧ decide (age < 1) = false ∧ decide (1048576 < age) = true) ∨ (f = true ∧ decide (age < 1) = false ∧ decide (1048576 < age) = false ∧ decide (limit < 1) = true) ∨
    (f = true ∧ decide (age < 1) = false ∧ decide (1048576 < age) = false ∧ decide (limit < 1) = false ∧ decide (64 < limit) = true) ∨ (f = true ∧ decide (age < 1) = false ∧ decide (1048576 < age) = false ∧ decide (limit < 1) = false ∧ decide (64 < limit) = false) := by
  cases f <;> cases decide (age < 1) <;> cases decide (1048576 < age) <;> cases decide (limit < 1) <;> cases decide (64 < limit) <;> simp
theorem at_next {p j : Nat} (h : j ≠ p) : (if p < j then (p : Int) else -1) = (if p < j + 1 then (p : Int) else -1) := by
  by_cases h1 : p < j
  · rw [if_pos h1, if_pos (by omega)]
  · rw [if_neg h1, if_neg (by omega)]
set_option maxRecDepth 100000 in
set_option maxHeartbeats 8000000 in
theorem readyFirst_any (w : World) (age : Int) (hage : (Lit.int .i64 age).wf = true) (limit : Int) (hlimit : (Lit.int .i64 limit).wf = true) (A : Option Addr) (cap : Nat) (l : List Ac) (rd : RdA w A l) (hc : l.length ≤ cap) (hm : cap ≤ maxLen) (ok : ∀ y ∈ l, y.ok) :
    Calls Try.prog 5 #[.int .i64 age, .int .i64 limit, .slice A l.length cap] w fun e w' => e = .returned (.bool true) ∧ Below w.heap.size w w' := by
  refine Calls.mono (R := fun e w' => e = .returned (.bool true) ∧ Upd w w' Nope) ?_ (fun e w' ⟨h, u⟩ => ⟨h, u.below (fun _ h => h.elim)⟩)
  have hmm := @run_makeMap Try.prog
  have HA := Lib.hid (fun w => awake_any w)
  have hlm : l.length ≤ 9223372036854775807 := by unfold maxLen at hm; omega
  have HWY := Lib.hid (first_ways (fewB l) age limit)
  have HRD := Lib.hid rd
  have HOK := Lib.hid ok
  clear hage hlimit rd ok hc hm
  go_enter Try.func5, Try.ntmps5
  go_wp2_with fail
  refine (HA.out w).mono ?_
  rintro e w2 ⟨rfl, u2⟩
  have HU := Lib.hid u2
  have HFW := Lib.hid (few_any w2 A cap l (HRD.out.nn u2) hlm HOK.out)
  have HFB := Lib.hid (fun h : fewB l = true => fewB_of h)
  clear u2 HA
  go_wp2_with fail
  refine HFW.out.mono ?_
  rintro e w2b ⟨rfl, hw2⟩
  obtain rfl : w2 = w2b := hw2.symm
  clear HFW
  generalize fewB l = fb at *
  rcases HWY.out with g0 | ⟨g0, g1⟩ | ⟨g0, g1, g2⟩ | ⟨g0, g1, g2, g3⟩ | ⟨g0, g1, g2, g3, g4⟩ | ⟨g0, g1, g2, g3, g4⟩
  iterate 5
    · subst g0
      clear HWY
      go_wp2_with fail
      go_ret
      exact ⟨rfl, HU.out⟩
  obtain ⟨l60, hsz⟩ := HFB.out g0
  have HSZ := Lib.hid hsz
  subst g0
  clear HWY HFB hsz
  obtain ⟨a0, a1, m0, m1⟩ : 1 ≤ age ∧ age ≤ 1048576 ∧ 1 ≤ limit ∧ limit ≤ 64 := by
    simp only [decide_eq_false_iff_not] at g1 g2 g3 g4
    omega
  have HN := Lib.hid (new_any age limit 4096 w2)
  go_wp2_with fail
  refine HN.out.mono ?_
  rintro e w3 ⟨_, hn, u3⟩
  obtain ⟨g, F, rfl, hro, hf⟩ := hn (by simp [okN]; omega)
  have HR := Lib.hid (show FR w w3 g F age limit [] [] none 0 [] from ⟨⟨hro, fun i hi => by have := hf i hi; have := HU.out.size; omega, HU.out.nn u3⟩, .inl ⟨rfl, rfl, rfl⟩, fun ad e => by cases e⟩)
  clear hn hro hf u3 HN HU g1 g2 g3 g4
  go_wp2_with fail
  go_loopw [9, 10] (fun v i wr => ∃ (k : Nat) (F' : Nat → Prop) (L : List En) (fly : List (Int × ByteArray)) (B : Option Addr) (cb : Nat), k ≤ l.length ∧ i = .int .i64 k ∧ v = .slice B L.length cb ∧ FR w wr g F' age limit L fly B cb L ∧ (L.map (·.id)).Nodup ∧ L.length ≤ k ∧ fly.length ≤ k) (fun _ i _ => l.length - (intOf i).toNat)
  case atStart => exact ⟨0, F, [], [], none, 0, by omega, rfl, rfl, HR.out, by simp, by simp, by simp⟩
  case round =>
    clear HR
    obtain ⟨k, F5, L, fly, B, cb, hk, rfl, rfl, hR, hnd, hLk, hfk⟩ := hrel
    have HR := Lib.hid hR
    have HND := Lib.hid hnd
    have HLK := Lib.hid (And.intro hLk hfk)
    have hL6 : L.length ≤ 60 := by omega
    clear hR hnd hLk hfk
    by_cases hlt : k < l.length
    · obtain ⟨ad, rfl, _⟩ := HRD.out k hlt
      have hL := HRD.out.nn HR.out.own.upd
      have c0 := hL.f0 hlt (v := .int .i64 l[k].k) rfl
      have c1 := hL.fs hlt 0 (v := .int .i64 l[k].id) rfl
      have c2 := hL.fs hlt 1 (v := .int .i64 l[k].now) rfl
      have c3 := hL.fs hlt 2 (v := .int .i64 l[k].x.id) rfl
      have c4 := hL.fs hlt 3 (v := .string l[k].x.dest) rfl
      have c5 := hL.fs hlt 4 (v := .int .i64 l[k].x.pri) rfl
      have c6 := hL.fs hlt 5 (v := .int .i64 l[k].x.at_) rfl
      simp only [Nat.zero_add, Nat.reduceAdd] at c1 c2 c3 c4 c5 c6
      have hao := HOK.out l[k] (List.getElem_mem hlt)
      have hds := HSZ.out l[k] (List.getElem_mem hlt)
      generalize l[k] = a at c0 c1 c2 c3 c4 c5 c6 hao hds
      have HAO := Lib.hid (And.intro hao hds)
      clear hL hao hds
      go_upto_region 13 with (fail)
      have HI := Lib.hid (HR.out.act a)
      generalize wr.alloc (.cells #[.int .i64 a.k, .int .i64 a.id, .int .i64 a.now, .int .i64 a.x.id, .string a.x.dest, .int .i64 a.x.pri, .int .i64 a.x.at_] 36) = w5 at *
      generalize wr.heap.size = qa at *
      clear HR c0 c1 c2 c3 c4 c5 c6
      have x2 : w5.cell? ⟨qa, 2, none⟩ = some (.int .i64 a.now) := (HI.out.act.cell 2).trans rfl
      have hnw : decide (a.now < -2199023255552) = true ∨ (decide (a.now < -2199023255552) = false ∧ decide (2199023255552 < a.now) = true) ∨ (decide (a.now < -2199023255552) = false ∧ decide (2199023255552 < a.now) = false) := by
        cases decide (a.now < -2199023255552) <;> cases decide (2199023255552 < a.now) <;> simp
      rcases hnw with g1 | ⟨g1, g2⟩ | ⟨g1, g2⟩
      iterate 2
        · as_aux_lemma =>
          clear x2
          have x2 : w5.cell? ⟨qa, 2, none⟩ = some (.int .i64 a.now) := (HI.out.act.cell 2).trans rfl
          go_wp2_with fail
          go_roundw
          case rel => exact ⟨k + 1, F5, L, fly, B, cb, by omega, by go_num, rfl, HI.out.fr, HND.out, by have := HLK.out; omega, by have := HLK.out; omega⟩
          case measure => simp [intOf]; omega
      obtain ⟨n0, n1⟩ : -2199023255552 ≤ a.now ∧ a.now ≤ 2199023255552 := by
        simp only [decide_eq_false_iff_not] at g1 g2
        omega
      have x0 : w5.cell? ⟨qa, 0, none⟩ = some (.int .i64 a.k) := (HI.out.act.cell 0).trans rfl
      go_upto_region 15 with (fail)
      clear x0 x2 g1 g2
      have hks : (a.k == 0) = true ∨ ((a.k == 0) = false ∧ (a.k == 1) = true) ∨ ((a.k == 0) = false ∧ (a.k == 1) = false ∧ (a.k == 2) = true) ∨ ((a.k == 0) = false ∧ (a.k == 1) = false ∧ (a.k == 2) = false ∧ (a.k == 3) = true) ∨ ((a.k == 0) = false ∧ (a.k == 1) = false ∧ (a.k == 2) = false ∧ (a.k == 3) = false) := by
        cases a.k == 0 <;> cases a.k == 1 <;> cases a.k == 2 <;> cases a.k == 3 <;> simp
      have hne : ((L.length : Int) != L.length) = false := by simp
      rcases hks with k0 | ⟨k0, k1⟩ | ⟨k0, k1, k2⟩ | ⟨k0, k1, k2, k3⟩ | ⟨k0, k1, k2, k3⟩
      · as_aux_lemma =>
        have x3 : w5.cell? ⟨qa, 3, none⟩ = some (.int .i64 a.x.id) := (HI.out.act.cell 3).trans rfl
        have x4 : w5.cell? ⟨qa, 4, none⟩ = some (.string a.x.dest) := (HI.out.act.cell 4).trans rfl
        have x5 : w5.cell? ⟨qa, 5, none⟩ = some (.int .i64 a.x.pri) := (HI.out.act.cell 5).trans rfl
        have x6 : w5.cell? ⟨qa, 6, none⟩ = some (.int .i64 a.x.at_) := (HI.out.act.cell 6).trans rfl
        have hxi : okI a.x.id := HAO.out.1.2.2.2.1
        have HPT := Lib.hid (HI.out.fr.own.ro.put_ a.x hxi (by have := HAO.out.2; omega) (by omega))
        go_wp2_with fail
        refine HPT.out.mono ?_
        rintro e w6 ⟨he, F6, hro, hg⟩
        have HI6 := Lib.hid (HI.out.queue hg hro)
        clear hro hg HPT HI x3 x4 x5 x6
        by_cases hp : putC 4096 L fly a.x = 0
        · obtain ⟨hokp, _, hany, _⟩ := putC_ok hp
          have hpl : putL 4096 L fly a.x = L ++ [a.x] := by unfold putL; rw [if_pos hp]
          rw [hp] at he
          subst he
          rw [hpl] at HI6
          have HND2 := Lib.hid (nodup_put HND.out hany)
          clear hp hokp hany hpl
          have x3 : w6.cell? ⟨qa, 3, none⟩ = some (.int .i64 a.x.id) := (HI6.out.act.cell 3).trans rfl
          have x4 : w6.cell? ⟨qa, 4, none⟩ = some (.string a.x.dest) := (HI6.out.act.cell 4).trans rfl
          have x5 : w6.cell? ⟨qa, 5, none⟩ = some (.int .i64 a.x.pri) := (HI6.out.act.cell 5).trans rfl
          have x6 : w6.cell? ⟨qa, 6, none⟩ = some (.int .i64 a.x.at_) := (HI6.out.act.cell 6).trans rfl
          obtain ⟨q, cap7, w7, happ, hsl7, hu7, hq7⟩ := HI6.out.fr.row.app a.x (by omega)
          go_upto_region 55 with (first | (at_builtin; refine wpList_append_eq _ _ rfl rfl happ rfl rfl rfl ?_) | fail)
          have HI7 := Lib.hid (HI6.out.setRow hu7 hsl7 (fun ad' e => by cases e; exact hq7))
          have hll : (L ++ [a.x]).length = L.length + 1 := by simp
          rw [← hll]
          clear happ hsl7 hu7 hq7 HI6 x3 x4 x5 x6
          have HLL := Lib.hid (show (L ++ [a.x]).length ≤ k + 1 by have := HLK.out; rw [hll]; omega)
          clear hll
          generalize L ++ [a.x] = L7 at *
          have hle1 : L7.length ≤ k + 1 := HLL.out
          have HLN := Lib.hid (HI7.out.fr.own.ro.len_ (by omega))
          have hne2 : ((L7.length : Int) != L7.length) = false := by simp
          go_wp2_with fail
          refine HLN.out.mono ?_
          rintro e wz ⟨rfl, hwz⟩
          obtain rfl : w7 = wz := hwz.symm
          clear HLN
          go_wp2_with fail
          go_roundw
          case rel => exact ⟨k + 1, F6, L7, fly, (some ⟨q, 0, none⟩), cap7, by omega, by go_num, rfl, HI7.out.fr, HND2.out, hle1, by have := HLK.out; omega⟩
          case measure => simp [intOf]; omega
        · have hpn := putL_no hp
          rw [hpn] at HI6
          have hne1 : (putC 4096 L fly a.x == 0) = false := by simpa using hp
          generalize putC 4096 L fly a.x = c at *
          subst he
          clear hp hpn
          go_upto_region 55 with (fail)
          have hle1 : L.length ≤ k + 1 := by have := HLK.out; omega
          have HLN := Lib.hid (HI6.out.fr.own.ro.len_ (by omega))
          have hne2 : ((L.length : Int) != L.length) = false := by simp
          go_wp2_with fail
          refine HLN.out.mono ?_
          rintro e wz ⟨rfl, hwz⟩
          obtain rfl : w6 = wz := hwz.symm
          clear HLN
          go_wp2_with fail
          go_roundw
          case rel => exact ⟨k + 1, F6, L, fly, B, cb, by omega, by go_num, rfl, HI6.out.fr, HND.out, hle1, by have := HLK.out; omega⟩
          case measure => simp [intOf]; omega
      · as_aux_lemma =>
        go_upto_region 20 with (fail)
        have hm6 := Mp.new MF w5
        have hu6 : Upd w5 (w5.alloc (.map #[] 0)) Nope := (Upd.refl w5 _).alloc _
        have HI6 := Lib.hid (HI.out.nn hu6)
        have HBF := Lib.hid (show ¬ F5 w5.heap.size ∧ w.heap.size ≤ w5.heap.size ∧ w5.heap.size ≠ qa ∧ ∀ ad, B = some ad → w5.heap.size ≠ ad.block from
          ⟨fun hf => Nat.lt_irrefl _ (HI.out.fr.own.ro.lt hf), HI.out.fr.own.upd.size, by have := HI.out.act.lt; omega, fun ad e k => by have := HI.out.fr.row.lt ad e; omega⟩)
        have HM6 := Lib.hid hm6
        clear hm6 hu6 HI
        generalize w5.alloc (.map #[] 0) = w6 at *
        generalize w5.heap.size = bf at *
        go_wp2_with fail
        go_loopw [13] (fun i wr => ∃ (j : Nat) (fl : List (Int × Bool)), j ≤ L.length ∧ i = .int .i64 j ∧ FI w wr g F5 age limit L fly B cb L qa a ∧ Mp MF wr bf fl ∧ ∀ i (h : i < L.length), i < j → look (i : Int) fl = some (freeB limit fly L[i])) (fun i _ => L.length - (intOf i).toNat)
        case atStart => exact ⟨0, [], by omega, rfl, HI6.out, HM6.out, fun i _ h => by omega⟩
        case round =>
          clear HI6 HM6
          obtain ⟨j, fl, hj, rfl, hI, hmp, hfl⟩ := hrel
          have HI := Lib.hid hI
          have HMP := Lib.hid hmp
          have HFL := Lib.hid hfl
          clear hI hmp hfl
          by_cases hjl : j < L.length
          · obtain ⟨q, rfl, hArr⟩ : ∃ q, B = some ⟨q, 0, none⟩ ∧ Arr wr q cb L := by
              rcases HI.out.fr.row with ⟨_, _, he⟩ | h
              · rw [he] at hjl; simp at hjl
              · exact h
            have hy : L[j]? = some L[j] := List.getElem?_eq_getElem hjl
            obtain ⟨y0, y1, y2, y3⟩ := hArr.now hy
            have HFY := Lib.hid (HI.out.fr.own.ro.flying_ L[j].dest (by have := HLK.out; omega))
            have HFR := Lib.hid (show decide ((cntD L[j].dest fly : Int) < limit) = freeB limit fly L[j] from rfl)
            clear hArr hy y0 y2 y3
            generalize hyy : L[j] = y at *
            have HYY := Lib.hid hyy
            clear hyy
            go_wp2_with fail
            refine HFY.out.mono ?_
            rintro e w7 ⟨rfl, u7⟩
            have hm7 := HMP.out.upd u7 (fun h => h)
            have HI7 := Lib.hid (HI.out.nn u7)
            have hcb : cntD y.dest fly ≤ 5000 := Nat.le_trans (cntD_le _ _) (by have := HLK.out; omega)
            clear u7 HMP HI y1 HFY
            generalize cntD y.dest fly = cy at *
            go_wp2_with (first | (refine putF hm7 rfl _ _ _ rfl rfl (j : Int) (decide ((cy : Int) < limit)) rfl rfl (okI_of (by omega) (by omega)) ?_; intro w8 hm8 hu8; clear hm7) | fail)
            have HI8 := Lib.hid (HI7.out.off hu8 (fun i e => by subst e; exact HBF.out))
            have HM8 := Lib.hid hm8
            clear hm8 hu8 HI7
            go_roundw
            case rel => exact ⟨j + 1, _, by omega, by go_num, HI8.out, HM8.out, fun i hi hij => by
              rw [look_put]
              by_cases e : i = j
              · subst e
                rw [if_pos rfl, HYY.out, HFR.out]
              · rw [if_neg (by omega)]
                exact HFL.out i hi (by omega)⟩
            case measure => simp [intOf]; omega
          · obtain rfl : j = L.length := by omega
            have HFA := Lib.hid (show ∀ i (h : i < L.length), look (i : Int) fl = some (freeB limit fly L[i]) from fun i h => HFL.out i h h)
            clear HFL hj
            have x2 : World.cell? _ ⟨qa, 2, none⟩ = some (.int .i64 a.now) := (HI.out.act.cell 2).trans rfl
            have HTK := Lib.hid (HI.out.fr.own.ro.take_ a.now (by omega) (by have := HLK.out; omega) n0 n1 a0 a1)
            go_wp2_with fail
            refine HTK.out.mono ?_
            rintro e w9 ⟨hn, hs⟩
            have hcase : takeR a.now age limit L fly = none ∨ ∃ x, takeR a.now age limit L fly = some x := by
              cases takeR a.now age limit L fly with
              | none => exact .inl rfl
              | some x => exact .inr ⟨x, rfl⟩
            clear x2 HTK
            rcases hcase with htk | ⟨x, htk⟩
            · as_aux_lemma =>
              obtain ⟨rfl, u9⟩ := hn htk
              have HNF := Lib.hid (take_none htk)
              have HI9 := Lib.hid (HI.out.nn u9)
              have HM9 := Lib.hid (HMP.out.upd u9 (fun h => h))
              clear hn hs htk u9 HI HMP
              go_upto_region 25 with (fail)
              have hu10 : Upd w9 (w9.alloc (.cells #[.int .i64 0, .string ⟨#[]⟩, .int .i64 0, .int .i64 0] 34)) Nope := (Upd.refl w9 _).alloc _
              have HI10 := Lib.hid (HI9.out.nn hu10)
              have HM10 := Lib.hid (HM9.out.upd hu10 (fun h => h))
              clear hu10 HI9 HM9
              generalize w9.alloc (.cells #[.int .i64 0, .string ⟨#[]⟩, .int .i64 0, .int .i64 0] 34) = w10 at *
              generalize w9.heap.size = qx at *
              go_wp2_with fail
              go_loopw [16, 17] (fun t i wr => ∃ j : Nat, j ≤ L.length ∧ i = .int .i64 j ∧ t = .int .i64 (-1) ∧ Upd w10 wr Nope) (fun _ i _ => L.length - (intOf i).toNat)
              case atStart => exact ⟨0, by omega, rfl, rfl, Upd.refl _ _⟩
              case round =>
                obtain ⟨j, hj, rfl, rfl, hU⟩ := hrel
                have HU := Lib.hid hU
                clear hU
                by_cases hjl : j < L.length
                · go_upto_region 29 with (fail)
                  refine region_uw (by kernel_rfl) (by kernel_rfl) ?_
                  repeat (first | go_big_quiet_skip | (go_big_quiet_want; go_big_quiet_op; go_big_quiet_on))
                  refine wpQuiet_nil ?_
                  rintro _ ⟨z, rfl⟩
                  have HU2 := Lib.hid (HU.out.nn z.ok)
                  generalize z.val = wu at *
                  go_wp2_with fail
                  go_roundw
                  case rel => exact ⟨j + 1, by omega, by go_num, rfl, HU2.out⟩
                  case measure => simp [intOf]; omega
                · obtain rfl : j = L.length := by omega
                  go_wp2_with fail
                  go_loopw [18] (fun i wr => ∃ j : Nat, j ≤ L.length ∧ i = .int .i64 j ∧ Upd w10 wr Nope) (fun i _ => L.length - (intOf i).toNat)
                  case atStart => exact ⟨0, by omega, rfl, HU.out⟩
                  case round =>
                    obtain ⟨j, hj, rfl, hU⟩ := hrel
                    have HU := Lib.hid hU
                    by_cases hjl : j < L.length
                    · have hrun := runF (HM10.out.upd hU (fun h => h)) (key := (j : Int)) (okI_of (by omega) (by omega)) (HFA.out j hjl)
                      rw [HNF.out L[j] (List.getElem_mem hjl)] at hrun
                      clear hU
                      go_wp2_with fail
                      go_roundw
                      case rel => exact ⟨j + 1, by omega, by go_num, HU.out⟩
                      case measure => simp [intOf]; omega
                    · obtain rfl : j = L.length := by omega
                      have HI11 := Lib.hid (HI10.out.nn hU)
                      clear hU
                      go_upto_region 55 with (fail)
                      have hle1 : L.length ≤ k + 1 := by have := HLK.out; omega
                      have HLN := Lib.hid (HI11.out.fr.own.ro.len_ (by omega))
                      have hne2 : ((L.length : Int) != L.length) = false := by simp
                      go_wp2_with fail
                      refine HLN.out.mono ?_
                      rintro e wz ⟨rfl, hwz⟩
                      obtain rfl : wr = wz := hwz.symm
                      clear HLN
                      go_wp2_with fail
                      go_roundw
                      case rel => exact ⟨k + 1, F5, L, fly, B, cb, by omega, by go_num, rfl, HI11.out.fr, HND.out, hle1, by have := HLK.out; omega⟩
                      case measure => simp [intOf]; omega
            · as_aux_lemma =>
              obtain ⟨rfl, hro, u9⟩ := hs x htk
              obtain ⟨P, S, hLd, hfx, hP, hS⟩ := take_some HND.out htk
              have hnd := HND.out
              rw [hLd] at hnd
              obtain ⟨p, hp⟩ : ∃ p, p = P.length := ⟨_, rfl⟩
              have hpL : p < L.length := by rw [hp, hLd]; simp
              have hLp : L[p]? = some x := by rw [hp, hLd]; simp
              have HXD := Lib.hid hLp
              have HUN := Lib.hid (show ∀ j (h : j < L.length), j ≠ p → L[j].id ≠ x.id from fun j h hjn => by
                subst hLd
                exact uniq_at hnd h (by omega))
              have HRK := Lib.hid (show ∀ j (h : j < L.length), j ≠ p → freeB limit fly L[j] = true → (L[j].rank a.now age < x.rank a.now age ∨ (L[j].rank a.now age ≤ x.rank a.now age ∧ ¬ j < p)) from fun j h hjn hf => by
                subst hLd
                rcases Nat.lt_or_gt_of_ne hjn with h1 | h1
                · rw [List.getElem_append_left (by omega)] at hf ⊢
                  have := hP _ (List.getElem_mem (by omega)) hf
                  unfold En.key at this
                  exact .inl (by omega)
                · rw [List.getElem_append_right (by omega), List.getElem_cons, dif_neg (by omega)] at hf ⊢
                  have := hS _ (List.getElem_mem (by simp at h; omega)) hf
                  unfold En.key at this
                  exact .inr ⟨by omega, by omega⟩)
              have HEQ := Lib.hid (show remL (fun e => e.id == x.id) L = L.take p ++ L.drop (p + 1) by
                rw [hLd, rem_take hnd, hp])
              have HLO := Lib.hid (show ∀ e ∈ L, e.ok from HI.out.fr.own.ro.ok)
              have HXF := Lib.hid hfx
              have HI9 := Lib.hid (HI.out.stay u9 hro)
              have HM9 := Lib.hid (HMP.out.upd u9 HBF.out.1)
              clear hn hs htk hro u9 HI HMP hLd hfx hP hS hnd hp hLp
              go_upto_region 25 with (fail)
              have hb10 := Blk.new w9 #[.int .i64 x.id, .string x.dest, .int .i64 x.pri, .int .i64 x.at_] 34
              have hu10 : Upd w9 (w9.alloc (.cells #[.int .i64 x.id, .string x.dest, .int .i64 x.pri, .int .i64 x.at_] 34)) Nope := (Upd.refl w9 _).alloc _
              have HI10 := Lib.hid (HI9.out.nn hu10)
              have HM10 := Lib.hid (HM9.out.upd hu10 (fun h => h))
              clear hu10 HI9 HM9
              generalize w9.alloc (.cells #[.int .i64 x.id, .string x.dest, .int .i64 x.pri, .int .i64 x.at_] 34) = w10 at *
              generalize w9.heap.size = qx at *
              have HB10 := Lib.hid (c4_blk hb10)
              clear hb10
              go_wp2_with fail
              go_loopw [16, 17] (fun t i wr => ∃ j : Nat, j ≤ L.length ∧ i = .int .i64 j ∧ t = .int .i64 (if p < j then (p : Int) else -1) ∧ Upd w10 wr Nope) (fun _ i _ => L.length - (intOf i).toNat)
              case atStart => exact ⟨0, by omega, rfl, by simp, Upd.refl _ _⟩
              case round =>
                obtain ⟨j, hj, rfl, rfl, hU⟩ := hrel
                have HU := Lib.hid hU
                by_cases hjl : j < L.length
                · obtain ⟨q, rfl, hArr⟩ : ∃ q, B = some ⟨q, 0, none⟩ ∧ Arr w10 q cb L := by
                    rcases HI10.out.fr.row with ⟨_, _, he⟩ | h
                    · rw [he] at hjl; simp at hjl
                    · exact h
                  obtain ⟨y, hy⟩ : ∃ y, L[j]? = some y := ⟨L[j], List.getElem?_eq_getElem hjl⟩
                  obtain ⟨y0, y1, y2, y3⟩ := (hArr.upd hU (fun h => h)).uw hy
                  obtain ⟨z0, z1, z2, z3⟩ := HB10.out.upd hU (fun h => h)
                  have z0 := fun z : UW wr => z.cell z0
                  have z1 := fun z : UW wr => z.cell z1
                  have z2 := fun z : UW wr => z.cell z2
                  have z3 := fun z : UW wr => z.cell z3
                  simp only [Nat.zero_add] at z1 z2 z3
                  clear hU hArr
                  generalize hat : (if p < j then (p : Int) else -1) = at_ at *
                  have HAT := Lib.hid hat
                  clear hat
                  go_upto_region 29 with (fail)
                  have hcs : (j = p ∧ y = x) ∨ (j ≠ p ∧ (y.id == x.id) = false) := by
                    by_cases e : j = p
                    · subst e
                      rw [HXD.out] at hy
                      exact .inl ⟨rfl, (Option.some.inj hy).symm⟩
                    · refine .inr ⟨e, ?_⟩
                      rw [List.getElem?_eq_getElem hjl] at hy
                      rw [← Option.some.inj hy]
                      simpa using HUN.out j hjl e
                  have HCS := Lib.hid hcs
                  clear hcs hy
                  rcases HCS.out with ⟨e1, e2⟩ | ⟨e1, e2⟩
                  · subst e2
                    subst e1
                    refine region_uw (by kernel_rfl) (by kernel_rfl) ?_
                    repeat (first | go_big_quiet_skip | (go_big_quiet_want; go_big_quiet_op; go_big_quiet_on))
                    refine wpQuiet_nil ?_
                    rintro _ ⟨z, rfl⟩
                    have HU2 := Lib.hid (HU.out.nn z.ok)
                    clear y0 y1 y2 y3 z0 z1 z2 z3
                    generalize z.val = wu at *
                    go_wp2_with fail
                    go_roundw
                    case rel => exact ⟨j + 1, by omega, by go_num, by rw [if_pos (by omega)], HU2.out⟩
                    case measure => simp [intOf]; omega
                  · refine region_uw (by kernel_rfl) (by kernel_rfl) ?_
                    repeat (first | go_big_quiet_skip | (go_big_quiet_want; go_big_quiet_op; go_big_quiet_on))
                    refine wpQuiet_nil ?_
                    rintro _ ⟨z, rfl⟩
                    have HU2 := Lib.hid (HU.out.nn z.ok)
                    clear y0 y1 y2 y3 z0 z1 z2 z3
                    generalize z.val = wu at *
                    go_wp2_with fail
                    go_roundw
                    case rel => exact ⟨j + 1, by omega, by go_num, by rw [← HAT.out, at_next e1], HU2.out⟩
                    case measure => simp [intOf]; omega
                · obtain rfl : j = L.length := by omega
                  rw [if_pos hpL]
                  have hrun := runF (HM10.out.upd hU (fun h => h)) (key := (p : Int)) (okI_of (by omega) (by omega)) (HFA.out p hpL)
                  have hfp : freeB limit fly L[p] = true := by
                    have := HXD.out
                    rw [List.getElem?_eq_getElem hpL] at this
                    rw [Option.some.inj this]
                    exact HXF.out
                  rw [hfp] at hrun
                  clear hU hfp
                  go_wp2_with fail
                  go_loopw [18] (fun i wr => ∃ j : Nat, j ≤ L.length ∧ i = .int .i64 j ∧ Upd w10 wr Nope) (fun i _ => L.length - (intOf i).toNat)
                  case atStart => exact ⟨0, by omega, rfl, HU.out⟩
                  case round =>
                    clear hrun
                    obtain ⟨j, hj, rfl, hU⟩ := hrel
                    have HU := Lib.hid hU
                    by_cases hjl : j < L.length
                    · have hrun := runF (HM10.out.upd hU (fun h => h)) (key := (j : Int)) (okI_of (by omega) (by omega)) (HFA.out j hjl)
                      by_cases hf : freeB limit fly L[j] = true
                      · rw [hf] at hrun
                        by_cases hjp : j = p
                        · subst hjp
                          clear hU
                          go_wp2_with fail
                          go_roundw
                          case rel => exact ⟨j + 1, by omega, by go_num, HU.out⟩
                          case measure => simp [intOf]; omega
                        · have e1 : ((j : Int) == (p : Int)) = false := by simp; omega
                          have e2 : (j == p) = false := by simpa using hjp
                          obtain ⟨q, rfl, hArr⟩ : ∃ q, B = some ⟨q, 0, none⟩ ∧ Arr w10 q cb L := by
                            rcases HI10.out.fr.row with ⟨_, _, he⟩ | h
                            · rw [he] at hjl; simp at hjl
                            · exact h
                          have hy : L[j]? = some L[j] := List.getElem?_eq_getElem hjl
                          have hrk := HRK.out j hjl hjp hf
                          have hyo := HLO.out L[j] (List.getElem_mem hjl)
                          have hxo := HLO.out x (List.mem_of_getElem? HXD.out)
                          obtain ⟨y0, y1, y2, y3⟩ := (hArr.upd hU (fun h => h)).uw hy
                          obtain ⟨z0, z1, z2, z3⟩ := HB10.out.upd hU (fun h => h)
                          have z0 := fun z : UW wr => z.cell z0
                          have z1 := fun z : UW wr => z.cell z1
                          have z2 := fun z : UW wr => z.cell z2
                          have z3 := fun z : UW wr => z.cell z3
                          simp only [Nat.zero_add] at z1 z2 z3
                          have z4 := fun z : UW wr => z.cell (((HI10.out.nn hU).act.cell 2).trans rfl : wr.cell? ⟨qa, 2, none⟩ = some (.int .i64 a.now))
                          generalize L[j] = y at *
                          have HR1 := Lib.hid (fun z : UW wr => rank_ok y hyo a.now age n0 n1 a0 a1 z.val)
                          have HR2 := Lib.hid (fun z : UW wr => rank_ok x hxo a.now age n0 n1 a0 a1 z.val)
                          generalize y.rank a.now age = ry at *
                          generalize x.rank a.now age = rx at *
                          have hcs : decide (rx < ry) = false ∧ ((ry == rx) = false ∨ ((ry == rx) = true ∧ decide ((j : Int) < p) = false ∧ ¬ j < p)) := by
                            refine ⟨decide_eq_false (by omega), ?_⟩
                            by_cases e : ry = rx
                            · exact .inr ⟨by simpa using e, decide_eq_false (by omega), by omega⟩
                            · exact .inl (by simpa using e)
                          have HCS := Lib.hid hcs
                          clear hU hArr hy hrk hyo hxo hcs
                          go_upto_region 39 with (fail)
                          refine region_uw (by kernel_rfl) (by kernel_rfl) ?_
                          repeat (first
                            | go_big_quiet_skip
                            | (go_big_quiet_want; go_big_quiet_op; first | go_big_quiet_on | go_big_quiet_call (first | (go_at_call 26; with_reducible exact UW.call (HR1.out _)) | (go_at_call 26; with_reducible exact UW.call (HR2.out _)))))
                          refine wpQuiet_nil ?_
                          rintro _ ⟨z, rfl⟩
                          have HU2 := Lib.hid (HU.out.nn z.ok)
                          clear y0 y1 y2 y3 z0 z1 z2 z3 z4 HR1 HR2 hrun
                          generalize z.val = wu at *
                          obtain ⟨t1, t2⟩ := HCS.out
                          rcases t2 with t2 | ⟨t2, t3, t4⟩
                          all_goals
                            go_wp2_with fail
                            go_roundw
                            case rel => exact ⟨j + 1, by omega, by go_num, HU2.out⟩
                            case measure => simp [intOf]; omega
                      · have hf' : freeB limit fly L[j] = false := by simpa using hf
                        rw [hf'] at hrun
                        clear hU hf'
                        go_wp2_with fail
                        go_roundw
                        case rel => exact ⟨j + 1, by omega, by go_num, HU.out⟩
                        case measure => simp [intOf]; omega
                    · obtain rfl : j = L.length := by omega
                      have HI11 := Lib.hid (HI10.out.nn hU)
                      have HB11 := Lib.hid (HB10.out.upd hU (fun h => h))
                      clear hU HI10 HB10
                      go_upto_region 43 with (fail)
                      generalize hL7 : remL (fun e => e.id == x.id) L = L7 at *
                      have HL7 := Lib.hid hL7
                      clear hL7
                      obtain ⟨q, rfl, hArr⟩ : ∃ q, B = some ⟨q, 0, none⟩ ∧ Arr wr q cb L := by
                        rcases HI11.out.fr.row with ⟨_, _, he⟩ | h
                        · rw [he] at hpL; simp at hpL
                        · exact h
                      obtain ⟨i0, hi, hz0, hz1, hz2⟩ := info_parts infoE
                      have hs1 := cut_hi Try.underlying58 hi (some ⟨q, 0, none⟩) L.length cb p p rfl (by have := hArr.le; omega)
                      have hs2 := cut_lo Try.underlying58 hi hz1 (some ⟨q, 0, none⟩) L.length cb (p + 1) ((p : Int) + 1) (by omega) (by omega)
                      clear hi hz0 hz1 hz2
                      have hArd := (hArr.rd).nn ((Upd.refl wr Nope).drew)
                      have HARD := Lib.hid (And.intro hArr.rd hArr.le)
                      refine region_seq [([1, 2, 3, 5, 6, 7, 8], 0), ([], 4), ([], 9)] [10] (by kernel_rfl) (fun w' => ∃ x : UW wr, w' = x.val) (by kernel_rfl) (fun _ _ d _ _ h => by cases d <;> exact h) ⟨⟨wr.drew, (Upd.refl _ _).drew⟩, rfl⟩ ?_
                      clear hArd hArr
                      simp only [segsAt_cons, segsAt_nil, opsAt_cons, opsAt_nil, List.getElem?_toArray, List.getElem?_cons_zero, List.getElem?_cons_succ, consO_some, pairO_some]
                      refine wpS_seg ?_
                      repeat (first | go_big_quiet_skip | (go_big_quiet_want; go_big_quiet_op; go_big_quiet_on))
                      refine wpQuiet_nil ?_
                      clear hs1 hs2
                      go_wp2_with fail
                      have HRA := Lib.hid ((RowE.first (T := 34) wr).drew)
                      generalize (wr.alloc (.cells #[] 34)).drew = wa at *
                      refine ⟨⟨⟨wa, HRA.out.upd⟩, rfl⟩, ?_⟩
                      refine wpS_seg ?_
                      refine wpQuiet_nil ?_
                      obtain ⟨vb, wb, h1, hrb, _, hob⟩ := HRA.out.app ek34 (l := L.take p) (c := cb) ((HARD.out.1.nn HRA.out.upd).take p) (by intro h; cases h) (by simp; omega)
                      rw [List.length_take, Nat.min_eq_left (by omega)] at h1
                      rw [List.nil_append] at hrb
                      have HRB := Lib.hid (And.intro hrb (show vb.ownBlock ≠ none by rcases hob with h | h <;> rw [h] <;> simp [Value.ownBlock]))
                      clear hrb hob
                      go_wp2_with (at_builtin; refine wpList_append_eq _ _ rfl rfl h1 rfl rfl rfl ?_)
                      clear h1
                      refine ⟨⟨⟨wb, HRB.out.1.upd⟩, rfl⟩, ?_⟩
                      refine wpS_seg ?_
                      refine wpQuiet_nil ?_
                      obtain ⟨vc, wc, h2, hrc, _, hoc⟩ := HRB.out.1.app ek34 (l := L.drop (p + 1)) ((HARD.out.1.nn HRB.out.1.upd).dropA (p + 1) cb HARD.out.2.1) (dropA_nil (by intro h; cases h)) (by simp; omega)
                      rw [List.length_drop] at h2
                      obtain ⟨qc, capc, rfl, hslc, hqc⟩ := hrc.sl (by
                        rcases hoc with h | h
                        · rw [h]; exact HRB.out.2
                        · rw [h]; simp)
                      rw [← HEQ.out] at h2 hrc hslc
                      have HIN := Lib.hid (HI11.out.newRow hrc.upd hslc (fun ad' e => by cases e; exact hqc))
                      have HUC := Lib.hid hrc.upd
                      clear hrc hslc hqc hoc
                      go_wp2_with (at_builtin; refine wpList_append_eq _ _ rfl rfl h2 rfl rfl rfl ?_)
                      clear h2
                      refine ⟨⟨⟨wc, HUC.out⟩, rfl⟩, ?_⟩
                      refine wpS_last ?_
                      repeat (first | go_big_quiet_skip | (go_big_quiet_want; go_big_quiet_op; go_big_quiet_on))
                      refine wpQuiet_nil ?_
                      go_upto_region 44 with (fail)
                      have HBC := Lib.hid (HB11.out.upd HUC.out (fun h => h))
                      have z1 := HBC.out.c1
                      simp only [Nat.zero_add] at z1
                      have HFY := Lib.hid (HIN.out.fr.own.ro.flying_ x.dest (by have := put_len1 x.id x.dest fly; have := HLK.out; omega))
                      have hcn : (cntD x.dest (put x.id x.dest fly) : Int) ≤ limit := by
                        have h1 := cnt_put x.id x.dest fly
                        have h2 := HXF.out
                        unfold freeB at h2
                        have h3 := of_decide_eq_true h2
                        omega
                      have hcd : decide (limit < (cntD x.dest (put x.id x.dest fly) : Int)) = false := decide_eq_false (by omega)
                      generalize cntD x.dest (put x.id x.dest fly) = cy at *
                      go_wp2_with fail
                      refine HFY.out.mono ?_
                      rintro e wd ⟨rfl, ud⟩
                      have HID := Lib.hid (HIN.out.nn ud)
                      clear ud HFY z1
                      have HLL := Lib.hid (show L7.length ≤ k + 1 by rw [← HL7.out]; have := remL_len (p := fun e : En => e.id == x.id) (L := L); have := HLK.out; omega)
                      have HFF := Lib.hid (show (put x.id x.dest fly).length ≤ k + 1 by have := put_len1 x.id x.dest fly; have := HLK.out; omega)
                      have HND7 := Lib.hid (show (L7.map (·.id)).Nodup by rw [← HL7.out]; exact nodup_rem HND.out)
                      go_upto_region 55 with (fail)
                      have hle1 : L7.length ≤ k + 1 := HLL.out
                      have HLN := Lib.hid (HID.out.fr.own.ro.len_ (by omega))
                      have hne2 : ((L7.length : Int) != L7.length) = false := by simp
                      go_wp2_with fail
                      refine HLN.out.mono ?_
                      rintro e wz ⟨rfl, hwz⟩
                      obtain rfl : wd = wz := hwz.symm
                      clear HLN
                      go_wp2_with fail
                      go_roundw
                      case rel => exact ⟨k + 1, F5, L7, (put x.id x.dest fly), (some ⟨qc, 0, none⟩), capc, by omega, by go_num, rfl, HID.out.fr, HND7.out, hle1, HFF.out⟩
                      case measure => simp [intOf]; omega
      · as_aux_lemma =>
        have x1 : w5.cell? ⟨qa, 1, none⟩ = some (.int .i64 a.id) := (HI.out.act.cell 1).trans rfl
        have HDN := Lib.hid (HI.out.fr.own.ro.done_ a.id HAO.out.1.2.1)
        go_wp2_with fail
        refine HDN.out.mono ?_
        rintro e w6 ⟨rfl, hro, u6⟩
        have HI6 := Lib.hid (HI.out.stay u6 hro)
        have HFL := Lib.hid (del_len1 a.id fly)
        generalize (look a.id fly).isSome = bz at *
        clear hro u6 HDN HI x1
        go_upto_region 55 with (fail)
        have hle1 : L.length ≤ k + 1 := by have := HLK.out; omega
        have HLN := Lib.hid (HI6.out.fr.own.ro.len_ (by omega))
        have hne2 : ((L.length : Int) != L.length) = false := by simp
        go_wp2_with fail
        refine HLN.out.mono ?_
        rintro e wz ⟨rfl, hwz⟩
        obtain rfl : w6 = wz := hwz.symm
        clear HLN
        go_wp2_with fail
        go_roundw
        case rel => exact ⟨k + 1, F5, L, (del a.id fly), B, cb, by omega, by go_num, rfl, HI6.out.fr, HND.out, hle1, by have := HLK.out; have := HFL.out; omega⟩
        case measure => simp [intOf]; omega
      · as_aux_lemma =>
        have x1 : w5.cell? ⟨qa, 1, none⟩ = some (.int .i64 a.id) := (HI.out.act.cell 1).trans rfl
        have HRM := Lib.hid (HI.out.fr.own.ro.remove_ a.id (by omega))
        go_wp2_with fail
        refine HRM.out.mono ?_
        rintro e w6 ⟨rfl, hro, u6⟩
        have HI6 := Lib.hid (HI.out.stay u6 hro)
        clear hro u6 HRM HI x1
        have HL7 := Lib.hid (show remL (fun e => e.id == a.id) L = remL (fun e => e.id == a.id) L from rfl)
        generalize hL7 : remL (fun e => e.id == a.id) L = L7 at HI6 HL7
        replace HL7 := Lib.hid hL7
        clear hL7
        generalize (L.any fun e => e.id == a.id) = bz at *
        go_wp2_with fail
        go_loopw [9, 21] (fun v i wr => ∃ (j : Nat) (M : List En) (B' : Option Addr) (cb' : Nat), i = .int .i64 j ∧ v = .slice B' M.length cb' ∧ j ≤ L.length ∧ FI w wr g F5 age limit L7 fly B' cb' M qa a ∧ ((M = L ∧ ∀ i (h : i < L.length), i < j → L[i].id ≠ a.id) ∨ (M = L7 ∧ ∀ e ∈ M, e.id ≠ a.id))) (fun _ i _ => L.length - (intOf i).toNat)
        case atStart => exact ⟨0, L, B, cb, rfl, rfl, by omega, HI6.out, .inl ⟨rfl, fun i _ h => by omega⟩⟩
        case round =>
          clear HI6
          obtain ⟨j, M, B', cb', rfl, rfl, hj, hI, hM⟩ := hrel
          have HI := Lib.hid hI
          have HM := Lib.hid hM
          have HML := Lib.hid (show M.length ≤ L.length by
            rcases hM with ⟨e, _⟩ | ⟨e, _⟩
            · rw [e]; exact Nat.le_refl _
            · rw [e, ← HL7.out]; exact remL_len)
          have hM6 : M.length ≤ 60 := by have := HML.out; omega
          clear hI hM
          by_cases hjl : j < M.length
          · obtain ⟨q, rfl, hArr⟩ : ∃ q, B' = some ⟨q, 0, none⟩ ∧ Arr wr q cb' M := by
              rcases HI.out.fr.row with ⟨_, _, he⟩ | h
              · rw [he] at hjl; simp at hjl
              · exact h
            obtain ⟨y, hy⟩ : ∃ y, M[j]? = some y := ⟨M[j], List.getElem?_eq_getElem hjl⟩
            have y0 := (hArr.uw hy).1
            have z1 := fun z : UW wr => z.cell ((HI.out.act.cell 1).trans rfl : wr.cell? ⟨qa, 1, none⟩ = some (.int .i64 a.id))
            clear hArr
            go_upto_region 53 with (fail)
            refine region_uw (by kernel_rfl) (by kernel_rfl) ?_
            repeat (first | go_big_quiet_skip | (go_big_quiet_want; go_big_quiet_op; go_big_quiet_on))
            refine wpQuiet_nil ?_
            rintro _ ⟨z, rfl⟩
            clear y0 z1
            replace HI := Lib.hid (HI.out.nn z.ok)
            generalize z.val = wu at *
            cases hid : (y.id == a.id) with
            | false =>
              have hne1 : y.id ≠ a.id := by simpa using hid
              have HYI := Lib.hid hne1
              clear hne1
              go_wp2_with fail
              go_roundw
              case rel => exact ⟨j + 1, M, _, cb', by go_num, rfl, by have := HML.out; omega, HI.out, by
                rcases HM.out with ⟨e, h⟩ | h
                · refine .inl ⟨e, fun i hi hij => ?_⟩
                  by_cases ei : i = j
                  · subst ei
                    subst e
                    rw [List.getElem?_eq_getElem hi] at hy
                    rw [Option.some.inj hy]
                    exact HYI.out
                  · exact h i hi (by omega)
                · exact .inr h⟩
              case measure => have := HML.out; simp [intOf]; omega
            | true =>
              have hyi : y.id = a.id := by simpa using hid
              obtain ⟨rfl, hno⟩ : M = L ∧ ∀ i (h : i < L.length), i < j → L[i].id ≠ a.id := by
                rcases HM.out with h | ⟨_, h⟩
                · exact h
                · exact absurd hyi (h y (List.mem_of_getElem? hy))
              have hdec : M = M.take j ++ y :: M.drop (j + 1) := by rw [← drop_at hy, List.take_append_drop]
              have hnd := HND.out
              rw [hdec] at hnd
              have hPl : (M.take j).length = j := by rw [List.length_take]; omega
              have HEQ := Lib.hid (show L7 = M.take j ++ M.drop (j + 1) by
                have := rem_take hnd
                rw [← hdec, hPl, hyi] at this
                rw [← HL7.out]
                exact this)
              have HNO := Lib.hid (show ∀ e ∈ L7, e.id ≠ a.id from fun e he => by
                rw [HEQ.out] at he
                rw [List.map_append, List.map_cons, List.nodup_append, List.nodup_cons] at hnd
                rcases List.mem_append.1 he with h | h
                · have := hnd.2.2 e.id (List.mem_map_of_mem h) y.id (by simp)
                  rwa [hyi] at this
                · exact fun e2 => hnd.2.1.1 (by rw [hyi, ← e2]; exact List.mem_map_of_mem h))
              have hpL : j < M.length := hjl
              clear hno hdec hnd hPl hyi HM
              go_upto_region 54 with (fail)
              have hArr : Arr wu q cb' M := by
                rcases HI.out.fr.row with ⟨he, _⟩ | ⟨q', e, h⟩
                · cases he
                · cases e; exact h
              obtain ⟨i0, hi, hz0, hz1, hz2⟩ := info_parts infoE
              have hs1 := cut_hi Try.underlying58 hi (some ⟨q, 0, none⟩) M.length cb' j j rfl (by have := hArr.le; omega)
              have hs2 := cut_lo Try.underlying58 hi hz1 (some ⟨q, 0, none⟩) M.length cb' (j + 1) ((j : Int) + 1) (by omega) (by omega)
              clear hi hz0 hz1 hz2
              have hArd := (hArr.rd).nn ((Upd.refl wu Nope).drew)
              have HARD := Lib.hid (And.intro hArr.rd hArr.le)
              refine region_seq [([1, 2, 3, 5, 6, 7, 8], 0), ([], 4), ([], 9)] [10] (by kernel_rfl) (fun w' => ∃ x : UW wu, w' = x.val) (by kernel_rfl) (fun _ _ d _ _ h => by cases d <;> exact h) ⟨⟨wu.drew, (Upd.refl _ _).drew⟩, rfl⟩ ?_
              clear hArd hArr
              simp only [segsAt_cons, segsAt_nil, opsAt_cons, opsAt_nil, List.getElem?_toArray, List.getElem?_cons_zero, List.getElem?_cons_succ, consO_some, pairO_some]
              refine wpS_seg ?_
              repeat (first | go_big_quiet_skip | (go_big_quiet_want; go_big_quiet_op; go_big_quiet_on))
              refine wpQuiet_nil ?_
              clear hs1 hs2
              go_wp2_with fail
              have HRA := Lib.hid ((RowE.first (T := 34) wu).drew)
              generalize (wu.alloc (.cells #[] 34)).drew = wa at *
              refine ⟨⟨⟨wa, HRA.out.upd⟩, rfl⟩, ?_⟩
              refine wpS_seg ?_
              refine wpQuiet_nil ?_
              obtain ⟨vb, wb, h1, hrb, _, hob⟩ := HRA.out.app ek34 (l := M.take j) (c := cb') ((HARD.out.1.nn HRA.out.upd).take j) (by intro h; cases h) (by simp; omega)
              rw [List.length_take, Nat.min_eq_left (by omega)] at h1
              rw [List.nil_append] at hrb
              have HRB := Lib.hid (And.intro hrb (show vb.ownBlock ≠ none by rcases hob with h | h <;> rw [h] <;> simp [Value.ownBlock]))
              clear hrb hob
              go_wp2_with (at_builtin; refine wpList_append_eq _ _ rfl rfl h1 rfl rfl rfl ?_)
              clear h1
              refine ⟨⟨⟨wb, HRB.out.1.upd⟩, rfl⟩, ?_⟩
              refine wpS_seg ?_
              refine wpQuiet_nil ?_
              obtain ⟨vc, wc, h2, hrc, _, hoc⟩ := HRB.out.1.app ek34 (l := M.drop (j + 1)) ((HARD.out.1.nn HRB.out.1.upd).dropA (j + 1) cb' HARD.out.2.1) (dropA_nil (by intro h; cases h)) (by simp; omega)
              rw [List.length_drop] at h2
              obtain ⟨qc, capc, rfl, hslc, hqc⟩ := hrc.sl (by
                rcases hoc with h | h
                · rw [h]; exact HRB.out.2
                · rw [h]; simp)
              rw [← HEQ.out] at h2 hrc hslc
              have HIN := Lib.hid (HI.out.newRow hrc.upd hslc (fun ad' e => by cases e; exact hqc))
              have HUC := Lib.hid hrc.upd
              clear hrc hslc hqc hoc
              go_wp2_with (at_builtin; refine wpList_append_eq _ _ rfl rfl h2 rfl rfl rfl ?_)
              clear h2
              refine ⟨⟨⟨wc, HUC.out⟩, rfl⟩, ?_⟩
              refine wpS_last ?_
              repeat (first | go_big_quiet_skip | (go_big_quiet_want; go_big_quiet_op; go_big_quiet_on))
              refine wpQuiet_nil ?_
              have h7 := HEQ.out
              have hnl : j + (M.length - (j + 1)) = L7.length := by rw [h7]; simp; omega
              try rw [hnl]
              clear h7 hnl
              go_wp2_with fail
              go_roundw
              case rel => exact ⟨j + 1, L7, _, capc, by go_num, rfl, by omega, HIN.out, .inr ⟨rfl, HNO.out⟩⟩
              case measure => simp [intOf]; omega
          · have HM7 := Lib.hid (show M = L7 by
              rcases HM.out with ⟨e, h⟩ | ⟨e, _⟩
              · subst e
                rw [← HL7.out, remL_none (fun e he => by
                  obtain ⟨i, hi, rfl⟩ := List.mem_iff_getElem.1 he
                  simpa using h i hi (by omega))]
              · exact e)
            have hM7 := HM7.out
            subst hM7
            have HND7 := Lib.hid (show (M.map (·.id)).Nodup by rw [← HL7.out]; exact nodup_rem HND.out)
            have hjl2 : M.length ≤ j := by omega
            go_upto_region 55 with (fail)
            have hle1 : M.length ≤ k + 1 := by have := HML.out; have := HLK.out; omega
            have HLN := Lib.hid (HI.out.fr.own.ro.len_ (by omega))
            have hne2 : ((M.length : Int) != M.length) = false := by simp
            go_wp2_with fail
            refine HLN.out.mono ?_
            rintro e wz ⟨rfl, hwz⟩
            obtain rfl : wr = wz := hwz.symm
            clear HLN
            go_wp2_with fail
            go_roundw
            case rel => exact ⟨k + 1, F5, M, fly, B', cb', by omega, by go_num, rfl, HI.out.fr, HND7.out, hle1, by have := HLK.out; omega⟩
            case measure => simp [intOf]; omega
      · as_aux_lemma =>
        go_upto_region 55 with (fail)
        have hle1 : L.length ≤ k + 1 := by have := HLK.out; omega
        have HLN := Lib.hid (HI.out.fr.own.ro.len_ (by omega))
        have hne2 : ((L.length : Int) != L.length) = false := by simp
        go_wp2_with fail
        refine HLN.out.mono ?_
        rintro e wz ⟨rfl, hwz⟩
        obtain rfl : w5 = wz := hwz.symm
        clear HLN
        go_wp2_with fail
        go_roundw
        case rel => exact ⟨k + 1, F5, L, fly, B, cb, by omega, by go_num, rfl, HI.out.fr, HND.out, hle1, by have := HLK.out; omega⟩
        case measure => simp [intOf]; omega
    · obtain rfl : k = l.length := by omega
      go_wp2_with fail
      go_ret
      exact ⟨rfl, HR.out.own.upd⟩
end Go.Proofs.Ythpilbooolgkiaa
