/- The law ReadyOrder, walked: it returns true. -/
import Derived.Test.YthpilbooolgkiaaOmp
set_option linter.unusedVariables false
set_option linter.unusedSimpArgs false
namespace Go.Proofs.Ythpilbooolgkiaa
open Go.RowKit

theorem order_ways (age now : Int) (n : Nat) : decide (age < 1) = true ∨ (decide (age < 1) = false ∧ decide (1048576 < age) = true) ∨ (decide (age < 1) = false ∧ decide (1048576 < age) = false ∧ decide (now < 0) = true) ∨
    (decide (age < 1) = false ∧ decide (1048576 < age) = false ∧ decide (now < 0) = false ∧ decide (1099511627776 < now) = true) ∨ (decide (age < 1) = false ∧ decide (1048576 < age) = false ∧ decide (now < 0) = false ∧ decide (1099511627776 < now) = false ∧ decide (60 < (n : Int)) = true) ∨
    (decide (age < 1) = false ∧ decide (1048576 < age) = false ∧ decide (now < 0) = false ∧ decide (1099511627776 < now) = false ∧ decide (60 < (n : Int)) = false) := by
  cases decide (age < 1) <;> cases decide (1048576 < age) <;> cases decide (now < 0) <;> cases decide (1099511627776 < now) <;> cases decide (60 < (n : Int)) <;> simp
/-- The queue, and the law's two maps. -/
structure OM (w wr : World) (g : Nat) (F : Nat → Prop) (age : Int) (L : List En) (by_ : List (Int × En)) (at1 : List (Int × Int)) (bb ba : Nat) : Prop where
  own : OwnR w wr g F age 64 4096 L []
  mb : Mp MB wr bb by_
  ma : Mp MA wr ba at1
  fb : ¬ F bb
  fa : ¬ F ba
  ne : bb ≠ ba
  lb : w.heap.size ≤ bb
  la : w.heap.size ≤ ba
section
variable {w wr w' : World} {g : Nat} {F F' : Nat → Prop} {age : Int} {L L' : List En} {by_ by' : List (Int × En)} {at1 at' : List (Int × Int)} {bb ba : Nat} (h : OM w wr g F age L by_ at1 bb ba)
include h
theorem OM.nn (u : Upd wr w' Nope) : OM w w' g F age L by_ at1 bb ba := ⟨h.own.nn u, h.mb.upd u (fun h => h), h.ma.upd u (fun h => h), h.fb, h.fa, h.ne, h.lb, h.la⟩
theorem OM.step (hg : Gr wr w' F F') (hr : RO w' g F' age 64 4096 L' []) : OM w w' g F' age L' by_ at1 bb ba :=
  ⟨h.own.step hg hr, h.mb.upd hg.upd h.fb, h.ma.upd hg.upd h.fa, fun hf => (hg.new bb hf).elim h.fb (fun k => by have := h.mb.lt; omega), fun hf => (hg.new ba hf).elim h.fa (fun k => by have := h.ma.lt; omega), h.ne, h.lb, h.la⟩
theorem OM.setB (u : Upd wr w' (· = bb)) (hm : Mp MB w' bb by') : OM w w' g F age L by' at1 bb ba :=
  ⟨⟨h.own.ro.apart u (fun i hi e => h.fb (e ▸ hi)), h.own.fresh, h.own.upd.on u h.lb⟩, hm, h.ma.upd u (fun e => h.ne e.symm), h.fb, h.fa, h.ne, h.lb, h.la⟩
theorem OM.setA (u : Upd wr w' (· = ba)) (hm : Mp MA w' ba at') : OM w w' g F age L by_ at' bb ba :=
  ⟨⟨h.own.ro.apart u (fun i hi e => h.fa (e ▸ hi)), h.own.fresh, h.own.upd.on u h.la⟩, h.mb.upd u h.ne, hm, h.fb, h.fa, h.ne, h.lb, h.la⟩
end
/-- The cells of one entry. -/
structure C4 (w : World) (a : Addr) (y : En) : Prop where
  c0 : w.cell? a = some (.int .i64 y.id)
  c1 : w.cell? ⟨a.block, a.off + 1, none⟩ = some (.string y.dest)
  c2 : w.cell? ⟨a.block, a.off + 2, none⟩ = some (.int .i64 y.pri)
  c3 : w.cell? ⟨a.block, a.off + 3, none⟩ = some (.int .i64 y.at_)
theorem C4.upd {w w' : World} {F : Nat → Prop} {a : Addr} {y : En} (h : C4 w a y) (u : Upd w w' F) (hn : ¬ F a.block) : C4 w' a y := ⟨u.cell h.c0 hn, u.cell h.c1 hn, u.cell h.c2 hn, u.cell h.c3 hn⟩
theorem c4_of {w : World} {ad : Addr} {l : List En} (h : RdS 4 En.vals w (some ad) l) {k : Nat} (hk : k < l.length) : C4 w (ad.add (k * 4)) l[k] := by
  have y1 := h.fs hk 0 (v := .string l[k].dest) rfl
  have y2 := h.fs hk 1 (v := .int .i64 l[k].pri) rfl
  have y3 := h.fs hk 2 (v := .int .i64 l[k].at_) rfl
  exact ⟨h.f0 hk rfl, y1, y2, y3⟩
theorem c4_blk {w : World} {q : Nat} {y : En} {T : TypeId} (h : Blk w q #[.int .i64 y.id, .string y.dest, .int .i64 y.pri, .int .i64 y.at_] T) : C4 w ⟨q, 0, none⟩ y := ⟨(h.cell 0).trans rfl, (h.cell 1).trans rfl, (h.cell 2).trans rfl, (h.cell 3).trans rfl⟩
theorem putL_ok {room : Int} {P : List (En × Nat)} {fly : List (Int × ByteArray)} {x : En} {k : Nat} (h : putC room (ents P) fly x = 0) : putL room (ents P) fly x = ents (P ++ [(x, k)]) := by
  unfold putL
  rw [if_pos h]
  simp [ents]
theorem putL_no {room : Int} {L : List En} {fly : List (Int × ByteArray)} {x : En} (h : putC room L fly x ≠ 0) : putL room L fly x = L := by
  unfold putL
  rw [if_neg h]
/-- A world that grew out of w, blocks in F apart. -/
structure UF (w : World) (F : Nat → Prop) where mk :: (val : World) (ok : Upd w val F)
instance (w : World) (F : Nat → Prop) : Nonempty (UF w F) := ⟨⟨w, Upd.refl _ _⟩⟩
theorem UF.cell {w : World} {F : Nat → Prop} (x : UF w F) {a : Addr} {v : Value} (h : w.cell? a = some v) (hn : ¬ F a.block) : x.val.cell? a = some v := x.ok.cell h hn
theorem drop_at {α : Type} {m : List α} {j : Nat} {x : α} (h : m[j]? = some x) : m.drop j = x :: m.drop (j + 1) := by
  obtain ⟨h1, rfl⟩ := List.getElem?_eq_some_iff.1 h
  exact List.drop_eq_getElem_cons h1
theorem row_at {w : World} {A : Option Addr} {m : List En} (h : Rd1 (Value.int .i64) w A (m.map (·.id))) {j : Nat} {x : En} (hj : m[j]? = some x) : ∃ ad, A = some ad ∧ w.cell? (ad.add j) = some (.int .i64 x.id) := by
  obtain ⟨h1, rfl⟩ := List.getElem?_eq_some_iff.1 hj
  obtain ⟨ad, e, hc⟩ := h j (by simpa using h1)
  exact ⟨ad, e, by simpa using hc⟩
set_option maxRecDepth 100000 in
set_option maxHeartbeats 4000000 in
theorem readyOrder_any (w : World) (age : Int) (hage : (Lit.int .i64 age).wf = true) (now : Int) (hnow : (Lit.int .i64 now).wf = true) (A : Option Addr) (cap : Nat) (l : List En) (rd : RdS 4 En.vals w A l) (hc : l.length ≤ cap) (hm : cap ≤ maxLen) (ok : ∀ y ∈ l, okE y) :
    Calls Try.prog 7 #[.int .i64 age, .int .i64 now, .slice A l.length cap] w fun e w' => e = .returned (.bool true) ∧ Below w.heap.size w w' := by
  refine Calls.mono (R := fun e w' => e = .returned (.bool true) ∧ Upd w w' Nope) ?_ (fun e w' ⟨h, u⟩ => ⟨h, u.below (fun _ h => h.elim)⟩)
  have hmm := @run_makeMap Try.prog
  have HA := Lib.hid (fun w => awake_any w)
  have hlm : l.length ≤ 9223372036854775807 := by unfold maxLen at hm; omega
  have HWY := Lib.hid (order_ways age now l.length)
  have HRD := Lib.hid rd
  have HOK := Lib.hid ok
  clear hage hnow rd ok hc hm
  go_enter Try.func7, Try.ntmps7
  go_wp2_with fail
  refine (HA.out w).mono ?_
  rintro e w2 ⟨rfl, u2⟩
  have HU := Lib.hid u2
  clear u2 HA
  rcases HWY.out with g0 | ⟨g0, g1⟩ | ⟨g0, g1, g2⟩ | ⟨g0, g1, g2, g3⟩ | ⟨g0, g1, g2, g3, g4⟩ | ⟨g0, g1, g2, g3, g4⟩
  iterate 5
    · clear HWY
      go_wp2_with fail
      go_ret
      exact ⟨rfl, HU.out⟩
  clear HWY
  obtain ⟨a0, a1, n0, n1, l60⟩ : 1 ≤ age ∧ age ≤ 1048576 ∧ 0 ≤ now ∧ now ≤ 1099511627776 ∧ l.length ≤ 60 := by
    simp only [decide_eq_false_iff_not] at g0 g1 g2 g3 g4
    omega
  have HN := Lib.hid (new_any age 64 4096 w2)
  go_wp2_with fail
  refine HN.out.mono ?_
  rintro e w3 ⟨_, hn, u3⟩
  obtain ⟨g, F, rfl, hro, hf⟩ := hn (by simp [okN]; omega)
  have hO : OwnR w w3 g F age 64 4096 [] [] := ⟨hro, fun i hi => by have := hf i hi; have := HU.out.size; omega, HU.out.nn u3⟩
  have hls : ∀ i, F i → i < w3.heap.size := fun i hi => hro.lt hi
  have HO := Lib.hid hO
  have HLS := Lib.hid hls
  clear hn hro hf u3 HN HU g0 g1 g2 g3 g4 hO hls
  go_upto_region 10 with (fail)
  have hb5 : Mp MB ((w3.alloc (.map #[] 0)).alloc (.map #[] 0)) w3.heap.size [] := (Mp.new MB w3).alloc _
  have ha5 : Mp MA ((w3.alloc (.map #[] 0)).alloc (.map #[] 0)) (w3.heap.size + 1) [] := by
    have := Mp.new MA (w3.alloc (.map #[] 0))
    have e : (w3.alloc (.map #[] 0)).heap.size = w3.heap.size + 1 := by simp
    rw [e] at this
    exact this
  have HM := Lib.hid (show OM w ((w3.alloc (.map #[] 0)).alloc (.map #[] 0)) g F age [] [] [] w3.heap.size (w3.heap.size + 1) from
    ⟨HO.out.nn (((Upd.refl w3 _).alloc _).alloc _), hb5, ha5, fun h => Nat.lt_irrefl _ (HLS.out _ h), fun h => by have := HLS.out _ h; omega, by omega, HO.out.upd.size, by have := HO.out.upd.size; omega⟩)
  clear hb5 ha5 hmm
  generalize (w3.alloc (.map #[] 0)).alloc (.map #[] 0) = w4 at *
  generalize w3.heap.size + 1 = ba at *
  generalize w3.heap.size = bb at *
  clear HO HLS
  go_wp2_with fail
  go_loopw [11] (fun i wr => ∃ (k : Nat) (F' : Nat → Prop) (P : List (En × Nat)), k ≤ l.length ∧ i = .int .i64 k ∧ OM w wr g F' age (ents P) (byL P) (atL P) bb ba ∧ PL P k ∧ P.length ≤ k) (fun i _ => l.length - (intOf i).toNat)
  case atStart => exact ⟨0, F, [], by omega, rfl, HM.out, PL.nil, by simp⟩
  case round =>
    clear HM
    obtain ⟨k, F5, P, hk, rfl, hO, hP, hPk⟩ := hrel
    have HO := Lib.hid hO
    have HP := Lib.hid (And.intro hP hPk)
    have HPL := Lib.hid (show (ents P).length = P.length by simp [ents])
    by_cases hlt : k < l.length
    · obtain ⟨ad, rfl, _⟩ := HRD.out k hlt
      have h4 := c4_of HRD.out hlt
      have hbk : (ad.add (k * 4)).block < w.heap.size := World.block_lt_of_cell? w _ h4.c0
      have hyo := HOK.out l[k] (List.getElem_mem hlt)
      have hyi := hyo.1
      have hyz := hyo.2.2.2
      unfold maxLen at hyz
      generalize l[k] = y at h4 hyo hyi hyz
      obtain ⟨y0, y1, y2, y3⟩ := h4.upd hO.own.upd (fun h => h)
      have H4 := Lib.hid (And.intro h4 hbk)
      clear hyo hO hP hPk h4 hbk
      by_cases h3 : 300 < y.dest.size
      · have t3 : decide (300 < (y.dest.size : Int)) = true := decide_eq_true (by omega)
        go_wp2_with fail
        go_ret
        exact ⟨rfl, HO.out.own.upd⟩
      · have t3 : decide (300 < (y.dest.size : Int)) = false := decide_eq_false (by omega)
        have HPT := Lib.hid (HO.out.own.ro.put_ y hyi (by omega) (by have := HP.out.2; have := HPL.out; omega))
        go_wp2_with fail
        refine HPT.out.mono ?_
        rintro e w6 ⟨he, F6, hro, hg⟩
        have HO6 := Lib.hid (HO.out.step hg hro)
        clear hro hg HPT HO y0 y1 y2 y3 t3 h3
        by_cases hp : putC 4096 (ents P) [] y = 0
        · obtain ⟨hokp, _, hany, _⟩ := putC_ok hp
          rw [hp] at he
          subst he
          have HPS := Lib.hid (And.intro (putL_ok (k := k) hp) (And.intro (HP.out.1.snoc (okP_ok hokp hyi) hany) (put_by (k := k) hany)))
          clear hp hokp hany
          go_upto_region 16 with (fail)
          have hu7 : Upd w6 w6.drew Nope := (Upd.refl w6 _).drew
          have hO7 := HO6.out.nn hu7
          have h47 := H4.out.1.upd hO7.own.upd (fun h => h)
          have y0 := fun z : UW w6.drew => z.cell h47.c0
          have y1 := fun z : UW w6.drew => z.cell h47.c1
          have y2 := fun z : UW w6.drew => z.cell h47.c2
          have y3 := fun z : UW w6.drew => z.cell h47.c3
          have hmb := hO7.mb
          refine region_seqF [] [0, 1, 2, 3, 4, 5, 6, 7, 8, 9] 10 [0, 5, 9, 4, 3, 1, 2, 8, 6, 7] _ (by kernel_rfl) (fun w' => ∃ z : UW w6.drew, w' = z.val) rfl (by kernel_rfl) (fun _ _ d _ _ h => by cases d <;> exact h) ⟨⟨w6.drew, Upd.refl _ _⟩, rfl⟩ ?_
          have HO7 := Lib.hid hO7
          clear hu7 hO7 h47 HO6
          simp only [segsAt_cons, segsAt_nil, opsAt_cons, opsAt_nil, List.getElem?_toArray, List.getElem?_cons_zero, List.getElem?_cons_succ, consO_some, pairO_some]
          refine wpSF_fin ?_
          repeat (first | go_big_quiet_skip | (go_big_quiet_want; go_big_quiet_op; go_big_quiet_on))
          refine wpQuiet_nil ?_
          clear y0 y1 y2 y3
          generalize w6.drew = w7 at *
          go_upto_region 17 with (first | (refine putB hmb rfl _ _ _ rfl rfl y.id y rfl rfl hyi ?_; intro w8 hm8 hu8; clear hmb) | fail)
          have HO8 := Lib.hid (HO7.out.setB hu8 hm8)
          clear hm8 hu8
          obtain ⟨y0, y1, y2, y3⟩ := H4.out.1.upd HO8.out.own.upd (fun h => h)
          have hma := HO8.out.ma
          go_wp2_with (first | (refine putA hma rfl _ _ _ rfl rfl y.id (k : Int) rfl rfl hyi ?_; intro w9 hm9 hu9; clear hma) | fail)
          have HO9 := Lib.hid (HO8.out.setA hu9 hm9)
          clear hm9 hu9 y0 y1 y2 y3
          rw [HPS.out.1, HPS.out.2.2.1, HPS.out.2.2.2] at HO9
          go_roundw
          case rel => exact ⟨k + 1, F6, P ++ [(y, k)], by omega, by go_num, HO9.out, HPS.out.2.1, by have := HP.out.2; simp; omega⟩
          case measure => simp [intOf]; omega
        · have hpn := putL_no hp
          rw [hpn] at HO6
          have hne : (putC 4096 (ents P) [] y == 0) = false := by simpa using hp
          generalize putC 4096 (ents P) [] y = c at *
          subst he
          clear hp hpn
          go_wp2_with fail
          go_roundw
          case rel => exact ⟨k + 1, F6, P, by omega, by go_num, HO6.out, HP.out.1.next, by have := HP.out.2; omega⟩
          case measure => simp [intOf]; omega
    · obtain rfl : k = l.length := by omega
      clear hO hP hPk
      have hlen1 := HP.out.2
      have hml := len_srtK (ky := En.key now age) (ents P)
      have HOR := Lib.hid (HO.out.own.ro.order_ now (by have := HPL.out; omega) (by omega) (by omega) a0 a1)
      have HID := Lib.hid (show ((ents P).map (·.id)).Nodup by have := HP.out.1.ids; simpa [ents, Function.comp_def] using this)
      have HEO := Lib.hid (show ∀ e ∈ ents P, e.ok from fun e he => by obtain ⟨p, hp, rfl⟩ := List.mem_map.1 he; exact HP.out.1.ok p hp)
      go_upto_region 18 with (fail)
      go_wp2_with fail
      refine HOR.out.mono ?_
      rintro e w5 ⟨Ao, co, rfl, hrd, u5, hAo⟩
      have HO5 := Lib.hid (HO.out.nn u5)
      have HAO := Lib.hid (show ∀ ad, Ao = some ad → ¬ F5 ad.block ∧ w.heap.size ≤ ad.block from fun ad e => ⟨fun hf => by have := HO.out.own.ro.lt hf; have := hAo ad e; omega, by have := hAo ad e; have := HO.out.own.upd.size; omega⟩)
      have HRO := Lib.hid hrd
      have hidl : ((srtK (En.key now age) (ents P)).map (·.id)).length = P.length := by rw [List.length_map, hml, HPL.out]
      rw [hidl]
      have hbl : (byL P).length = P.length := by simp [byL]
      have hpl : P.length ≤ 60 := by omega
      have HRL := Lib.hid hml
      have hmb : (Builtin.len_ #[62] 3 #[.map (some bb)]).run Try.prog w5 = .ok (.int .i64 (P.length : Int)) w5 := by
        have := HO5.out.mb.len 3
        rw [hbl] at this
        exact this
      have hnn : ((P.length : Int) != P.length) = false := by simp
      have HLE := Lib.hid (HO5.out.own.ro.len_ (by have := HPL.out; omega))
      rw [HPL.out] at HLE
      generalize hbL : byL P = BL at *
      have HBL := Lib.hid hbL
      clear hml hidl hlen1 hrd u5 hAo hbL HO HOR
      go_upto_region 19 with (fail)
      go_wp2_with fail
      refine HLE.out.mono ?_
      rintro e w6 ⟨rfl, hw6⟩
      obtain rfl : w5 = w6 := hw6.symm
      clear HLE
      go_wp2_with fail
      clear hmb hnn
      generalize hme : srtK (En.key now age) (ents P) = m at *
      have HME := Lib.hid hme
      clear hme
      have hmp : m.length = P.length := HRL.out.trans HPL.out
      rw [← hmp] at hpl ⊢
      have HMP := Lib.hid hmp
      clear hmp hbl
      go_loopw [13] (fun i wr => ∃ (j : Nat) (L : List En), j ≤ m.length ∧ i = .int .i64 j ∧ OM w wr g F5 age L BL (atL P) bb ba ∧ srtK (En.key now age) L = m.drop j ∧ (L.map (·.id)).Nodup ∧ Upd w5 wr F5) (fun i _ => m.length - (intOf i).toNat)
      case atStart => exact ⟨0, ents P, by omega, rfl, HO5.out, by rw [HME.out]; rfl, HID.out, Upd.refl _ _⟩
      case round =>
        obtain ⟨j, L, hj, rfl, hO, hsrt, hnd, hU⟩ := hrel
        have HO := Lib.hid hO
        have HS := Lib.hid (And.intro hsrt hnd)
        have HUW := Lib.hid hU
        have HLL := Lib.hid (show L.length ≤ 60 by
          have := len_srtK (ky := En.key now age) L
          rw [hsrt, List.length_drop] at this
          omega)
        clear hO hsrt hnd hU
        by_cases hlt : j < m.length
        · obtain ⟨x, hx⟩ : ∃ x, m[j]? = some x := ⟨m[j], List.getElem?_eq_getElem hlt⟩
          have hmem : x ∈ ents P := (same_srtK (ky := En.key now age) (ents P)).mem (by rw [HME.out]; exact List.mem_of_getElem? hx)
          have hxo := HEO.out x hmem
          have hby : look x.id BL = some x := by rw [← HBL.out]; exact HP.out.1.by_ hmem
          have hxi : okI x.id := okI_of (by have := hxo.i0; omega) hxo.i1
          obtain ⟨ado, rfl, hrow⟩ := row_at HRO.out hx
          have hnf : ¬ F5 (ado.add j).block := by rw [addB']; exact (HAO.out ado rfl).1
          have hrow2 := HUW.out.cell hrow hnf
          have HX := Lib.hid (And.intro hmem (And.intro hxo (And.intro hrow hnf)))
          clear hmem hxo hrow hnf
          have hjs : (decide (0 < (j : Int)) = false ∧ ¬ 0 < j) ∨ (0 < j ∧ decide (0 < (j : Int)) = true ∧ ∃ j' : Nat, j' + 1 = j) := by
            cases j with
            | zero => exact .inl (by simp)
            | succ j' => exact .inr ⟨by omega, decide_eq_true (by omega), j', rfl⟩
          rcases hjs with ⟨j0, j00⟩ | ⟨j00, j0, j', je⟩
          · as_aux_lemma =>
            go_upto_region 28 with (fail)
            have HTK := Lib.hid (HO.out.own.ro.take_ now (by have := HLL.out; omega) (by simp) (by omega) (by omega) a0 a1)
            go_wp2_with fail
            refine HTK.out.mono ?_
            rintro e w9 ⟨_, hs⟩
            obtain ⟨rfl, hro, u9⟩ := hs x (take_head (r := m.drop (j + 1)) (by rw [HS.out.1]; exact drop_at hx))
            have hmb9 := HO.out.mb.upd u9 HO.out.fb
            have hrow9 := u9.cell hrow2 HX.out.2.2.2
            have HRO9 := Lib.hid hro
            have HU9 := Lib.hid u9
            have HMB9 := Lib.hid hmb9
            clear hs hro u9 hmb9 HTK hrow2
            go_upto_region 29 with (fail)
            have hb10 := Blk.new w9 #[.int .i64 x.id, .string x.dest, .int .i64 x.pri, .int .i64 x.at_] 34
            have hu10 : Upd w9 (w9.alloc (.cells #[.int .i64 x.id, .string x.dest, .int .i64 x.pri, .int .i64 x.at_] 34)) Nope := (Upd.refl w9 _).alloc _
            have hq10 : ¬ F5 w9.heap.size := fun h => Nat.lt_irrefl _ (HRO9.out.lt h)
            have hrow10 := hu10.cell hrow9 (fun h => h)
            have hmb10 := HMB9.out.upd hu10 (fun h => h)
            have hro10 := HRO9.out.nn hu10
            clear hrow9
            generalize w9.alloc (.cells #[.int .i64 x.id, .string x.dest, .int .i64 x.pri, .int .i64 x.at_] 34) = w10 at *
            generalize w9.heap.size = qx at *
            have hu11 : Upd w10 w10.drew Nope := (Upd.refl w10 _).drew
            have hb11 := hb10.upd hu11 (fun h => h)
            have hrow11 := hu11.cell hrow10 (fun h => h)
            have hmb11 := hmb10.upd hu11 (fun h => h)
            have hro11 := hro10.nn hu11
            have HU11 := Lib.hid (HU9.out.then_ ((hu10.nn hu11).mono (fun _ _ h => h.elim)))
            have HDN := Lib.hid (hro11.done_ x.id hxi)
            rw [(put_del x.id x.dest).1, (put_del x.id x.dest).2] at HDN
            have h4 := c4_blk hb11
            have hnf := HX.out.2.2.2
            have X0 := fun z : UF w10.drew F5 => z.cell h4.c0 hq10
            have X1 := fun z : UF w10.drew F5 => z.cell h4.c1 hq10
            have X2 := fun z : UF w10.drew F5 => z.cell h4.c2 hq10
            have X3 := fun z : UF w10.drew F5 => z.cell h4.c3 hq10
            have X4 := fun z : UF w10.drew F5 => z.cell hrow11 hnf
            simp only [Nat.zero_add] at X1 X2 X3
            have hnb := HO.out.fb
            have HMQ := Lib.hid (fun z : UF w10.drew F5 => hmb11.upd z.ok hnb)
            refine region_seq [([0, 1, 2, 3, 4, 5, 6, 7, 8, 9, 10, 11, 12, 13, 14, 15, 16, 17, 18, 19, 20, 21, 22, 23, 24], 25)] [26, 27] (by kernel_rfl) (fun w' => ∃ z : UF w10.drew F5, w' = z.val) (by kernel_rfl) (fun _ _ d _ _ h => by cases d <;> exact h) ⟨⟨w10.drew, Upd.refl _ _⟩, rfl⟩ ?_
            clear hb10 hu10 hq10 hrow10 hmb10 hro10 hu11 hb11 hrow11 hmb11 hro11 h4 hnf hnb
            simp only [segsAt_cons, segsAt_nil, opsAt_cons, opsAt_nil, List.getElem?_toArray, List.getElem?_cons_zero, List.getElem?_cons_succ, consO_some, pairO_some]
            refine wpS_seg ?_
            repeat (first
              | go_big_quiet_skip
              | (go_big_quiet_want; first
                  | (refine quiet_lookB (fun w' hw' => by obtain ⟨z, rfl⟩ := hw'; exact HMQ.out z) _ _ rfl rfl x.id x hby rfl hxi ?_; go_frame; go_big_quiet_on)
                  | (go_big_quiet_op; go_big_quiet_on)))
            refine wpQuiet_nil ?_
            clear X0 X1 X2 X3 X4 HMQ
            generalize w10.drew = w11 at *
            go_wp2_with fail
            refine HDN.out.mono ?_
            rintro e w12 ⟨rfl, hro12, u12⟩
            go_wp2_with fail
            refine ⟨⟨⟨w12, u12⟩, rfl⟩, ?_⟩
            refine wpS_last ?_
            have HC := Lib.hid (HU11.out.then_ u12)
            have HRO12 := Lib.hid hro12
            clear hro12 u12 HDN HU11 HRO9 HU9 HMB9
            repeat (first | go_big_quiet_skip | (go_big_quiet_want; go_big_quiet_op; go_big_quiet_on))
            refine wpQuiet_nil ?_
            go_wp2_with fail
            go_roundw
            case rel => exact ⟨j + 1, remL (fun e => e.id == x.id) L, by omega, by go_num, HO.out.step ⟨HC.out, fun i hi => .inl hi⟩ HRO12.out, (srtK_rem HS.out.2 (show srtK (En.key now age) L = x :: m.drop (j + 1) by rw [HS.out.1]; exact drop_at hx)).symm, nodup_rem HS.out.2, HUW.out.then_ HC.out⟩
            case measure => simp [intOf]; omega
          · as_aux_lemma =>
            have JE := Lib.hid je
            obtain ⟨y, hy⟩ : ∃ y, m[j']? = some y := ⟨m[j']'(by omega), List.getElem?_eq_getElem (by omega)⟩
            have hmem2 : y ∈ ents P := (same_srtK (ky := En.key now age) (ents P)).mem (by rw [HME.out]; exact List.mem_of_getElem? hy)
            have hyo := HEO.out y hmem2
            have hby2 : look y.id BL = some y := by rw [← HBL.out]; exact HP.out.1.by_ hmem2
            have hyi : okI y.id := okI_of (by have := hyo.i0; omega) hyo.i1
            obtain ⟨ado2, e2, hrow3⟩ := row_at HRO.out hy
            cases e2
            have hrow4 := HUW.out.cell hrow3 (by rw [addB']; exact (HAO.out ado rfl).1)
            rw [show j' = j - 1 by omega] at hrow4
            have HJL := Lib.hid (show j' < m.length by omega)
            clear je
            go_upto_region 25 with (fail)
            have hmb := HO.out.mb
            have hma := HO.out.ma
            have HMQ := Lib.hid (fun z : UW wr => hmb.upd z.ok (fun h => h))
            have HMA := Lib.hid (fun z : UW wr => hma.upd z.ok (fun h => h))
            have X1 := fun z : UW wr => z.cell hrow2
            have X2 := fun z : UW wr => z.cell hrow4
            have HR1 := Lib.hid (fun z : UW wr => rank_ok x HX.out.2.1 now age (by omega) (by omega) a0 a1 z.val)
            have HR2 := Lib.hid (fun z : UW wr => rank_ok y hyo now age (by omega) (by omega) a0 a1 z.val)
            have hkey : y.rank now age ≥ x.rank now age := by
              refine key_ge ?_
              have hs := sd_srtK (ky := En.key now age) (ents P)
              rw [HME.out] at hs
              have h1 : y = m[j']'HJL.out := by rw [List.getElem?_eq_getElem HJL.out] at hy; exact (Option.some.inj hy).symm
              have h2 : x = m[j]'(by omega) := by rw [List.getElem?_eq_getElem (by omega)] at hx; exact (Option.some.inj hx).symm
              rw [h1, h2]
              exact List.pairwise_iff_getElem.1 hs j' j _ _ (by have := JE.out; omega)
            have hties : x.rank now age = y.rank now age → ∃ i1 i2 : Nat, look y.id (atL P) = some (i1 : Int) ∧ look x.id (atL P) = some (i2 : Int) ∧ i1 < i2 := fun e => by
              have hdec : m = m.take j' ++ y :: x :: m.drop (j + 1) := by
                have h1 := drop_at hy
                have h2 := drop_at hx
                rw [← h2, ← JE.out, ← h1, List.take_append_drop]
              refine HP.out.1.ties (ky := En.key now age) (M1 := m.take j') (M2 := m.drop (j + 1)) (by rw [HME.out]; exact hdec) (by unfold En.key; rw [e])
            have hcs : decide (y.rank now age < x.rank now age) = false ∧ ((y.rank now age == x.rank now age) = false ∨ ((y.rank now age == x.rank now age) = true ∧ ∃ i1 i2 : Nat, look y.id (atL P) = some (i1 : Int) ∧ look x.id (atL P) = some (i2 : Int) ∧ decide ((i2 : Int) < i1) = false ∧ ¬ i2 < i1)) := by
              refine ⟨decide_eq_false (by omega), ?_⟩
              by_cases e : x.rank now age = y.rank now age
              · obtain ⟨i1, i2, q1, q2, q3⟩ := hties e
                exact .inr ⟨by rw [e]; simp, i1, i2, q1, q2, decide_eq_false (by omega), by omega⟩
              · exact .inl (by simp; omega)
            have HCS := Lib.hid hcs
            clear hkey hties hcs hmb hma hyo hrow3 hrow4
            generalize x.rank now age = rx at *
            generalize y.rank now age = ry at *
            refine region_uw (by kernel_rfl) (by kernel_rfl) ?_
            repeat (first
              | go_big_quiet_skip
              | (go_big_quiet_want; first
                  | (refine quiet_lookB (fun w' hw' => by obtain ⟨z, rfl⟩ := hw'; exact HMQ.out z) _ _ rfl rfl x.id x hby rfl hxi ?_; go_frame; go_big_quiet_on)
                  | (refine quiet_lookB (fun w' hw' => by obtain ⟨z, rfl⟩ := hw'; exact HMQ.out z) _ _ rfl rfl y.id y hby2 rfl hyi ?_; go_frame; go_big_quiet_on)
                  | (go_big_quiet_op; first | go_big_quiet_on | go_big_quiet_call (first | (go_at_call 26; with_reducible exact UW.call (HR1.out _)) | (go_at_call 26; with_reducible exact UW.call (HR2.out _))))))
            refine wpQuiet_nil ?_
            rintro _ ⟨z, rfl⟩
            have hO8 := HO.out.nn z.ok
            have HUc := Lib.hid (HUW.out.then_ (z.ok.mono (G := F5) (fun _ _ h => h.elim)))
            have hrow2c := X1 z
            have hrow4c := X2 z
            generalize z.val = w8 at *
            have hma := hO8.ma
            have HMA8 := Lib.hid (fun z : UW w8 => hma.upd z.ok (fun h => h))
            have HOc := Lib.hid hO8
            clear X1 X2 HMQ HMA HR1 HR2 HUW HO hO8 hma hrow2
            go_upto_region 26 with (fail)
            have X1 := fun z : UW w8 => z.cell hrow2c
            have X2 := fun z : UW w8 => z.cell hrow4c
            clear hrow4c
            obtain ⟨t1, t2⟩ := HCS.out
            rcases t2 with t2 | ⟨t2, i1, i2, l1, l2, t3, t4⟩
            all_goals
              refine region_uw (by kernel_rfl) (by kernel_rfl) ?_
              repeat (first
                | go_big_quiet_skip
                | (go_big_quiet_want; first
                    | (refine quiet_lookA (fun w' hw' => by obtain ⟨z, rfl⟩ := hw'; exact HMA8.out z) _ _ rfl rfl x.id _ l2 rfl hxi ?_; go_frame; go_big_quiet_on)
                    | (refine quiet_lookA (fun w' hw' => by obtain ⟨z, rfl⟩ := hw'; exact HMA8.out z) _ _ rfl rfl y.id _ l1 rfl hyi ?_; go_frame; go_big_quiet_on)
                    | (go_big_quiet_op; go_big_quiet_on)))
              refine wpQuiet_nil ?_
              rintro _ ⟨z2, rfl⟩
              replace HOc := Lib.hid (HOc.out.nn z2.ok)
              replace HUc := Lib.hid (HUc.out.then_ (z2.ok.mono (G := F5) (fun _ _ h => h.elim)))
              replace hrow2c := X1 z2
              clear X1 X2 HMA8 HCS
              generalize z2.val = w8b at *
              go_upto_region 28 with (fail)
              have HTK := Lib.hid (HOc.out.own.ro.take_ now (by have := HLL.out; omega) (by simp) (by omega) (by omega) a0 a1)
              go_wp2_with fail
              refine HTK.out.mono ?_
              rintro e w9 ⟨_, hs⟩
              obtain ⟨rfl, hro, u9⟩ := hs x (take_head (r := m.drop (j + 1)) (by rw [HS.out.1]; exact drop_at hx))
              have hmb9 := HOc.out.mb.upd u9 HOc.out.fb
              have hrow9 := u9.cell hrow2c HX.out.2.2.2
              have HRO9 := Lib.hid hro
              have HU9 := Lib.hid u9
              have HMB9 := Lib.hid hmb9
              clear hs hro u9 hmb9 HTK hrow2c
              go_upto_region 29 with (fail)
              have hb10 := Blk.new w9 #[.int .i64 x.id, .string x.dest, .int .i64 x.pri, .int .i64 x.at_] 34
              have hu10 : Upd w9 (w9.alloc (.cells #[.int .i64 x.id, .string x.dest, .int .i64 x.pri, .int .i64 x.at_] 34)) Nope := (Upd.refl w9 _).alloc _
              have hq10 : ¬ F5 w9.heap.size := fun h => Nat.lt_irrefl _ (HRO9.out.lt h)
              have hrow10 := hu10.cell hrow9 (fun h => h)
              have hmb10 := HMB9.out.upd hu10 (fun h => h)
              have hro10 := HRO9.out.nn hu10
              clear hrow9
              generalize w9.alloc (.cells #[.int .i64 x.id, .string x.dest, .int .i64 x.pri, .int .i64 x.at_] 34) = w10 at *
              generalize w9.heap.size = qx at *
              have hu11 : Upd w10 w10.drew Nope := (Upd.refl w10 _).drew
              have hb11 := hb10.upd hu11 (fun h => h)
              have hrow11 := hu11.cell hrow10 (fun h => h)
              have hmb11 := hmb10.upd hu11 (fun h => h)
              have hro11 := hro10.nn hu11
              have HU11 := Lib.hid (HU9.out.then_ ((hu10.nn hu11).mono (fun _ _ h => h.elim)))
              have HDN := Lib.hid (hro11.done_ x.id hxi)
              rw [(put_del x.id x.dest).1, (put_del x.id x.dest).2] at HDN
              have h4 := c4_blk hb11
              have hnf := HX.out.2.2.2
              have X0 := fun z : UF w10.drew F5 => z.cell h4.c0 hq10
              have X1 := fun z : UF w10.drew F5 => z.cell h4.c1 hq10
              have X2 := fun z : UF w10.drew F5 => z.cell h4.c2 hq10
              have X3 := fun z : UF w10.drew F5 => z.cell h4.c3 hq10
              have X4 := fun z : UF w10.drew F5 => z.cell hrow11 hnf
              simp only [Nat.zero_add] at X1 X2 X3
              have hnb := HOc.out.fb
              have HMQ := Lib.hid (fun z : UF w10.drew F5 => hmb11.upd z.ok hnb)
              refine region_seq [([0, 1, 2, 3, 4, 5, 6, 7, 8, 9, 10, 11, 12, 13, 14, 15, 16, 17, 18, 19, 20, 21, 22, 23, 24], 25)] [26, 27] (by kernel_rfl) (fun w' => ∃ z : UF w10.drew F5, w' = z.val) (by kernel_rfl) (fun _ _ d _ _ h => by cases d <;> exact h) ⟨⟨w10.drew, Upd.refl _ _⟩, rfl⟩ ?_
              clear hb10 hu10 hq10 hrow10 hmb10 hro10 hu11 hb11 hrow11 hmb11 hro11 h4 hnf hnb
              simp only [segsAt_cons, segsAt_nil, opsAt_cons, opsAt_nil, List.getElem?_toArray, List.getElem?_cons_zero, List.getElem?_cons_succ, consO_some, pairO_some]
              refine wpS_seg ?_
              repeat (first
                | go_big_quiet_skip
                | (go_big_quiet_want; first
                    | (refine quiet_lookB (fun w' hw' => by obtain ⟨z, rfl⟩ := hw'; exact HMQ.out z) _ _ rfl rfl x.id x hby rfl hxi ?_; go_frame; go_big_quiet_on)
                    | (go_big_quiet_op; go_big_quiet_on)))
              refine wpQuiet_nil ?_
              clear X0 X1 X2 X3 X4 HMQ
              generalize w10.drew = w11 at *
              go_wp2_with fail
              refine HDN.out.mono ?_
              rintro e w12 ⟨rfl, hro12, u12⟩
              go_wp2_with fail
              refine ⟨⟨⟨w12, u12⟩, rfl⟩, ?_⟩
              refine wpS_last ?_
              have HC := Lib.hid (HU11.out.then_ u12)
              have HRO12 := Lib.hid hro12
              clear hro12 u12 HDN HU11 HRO9 HU9 HMB9
              repeat (first | go_big_quiet_skip | (go_big_quiet_want; go_big_quiet_op; go_big_quiet_on))
              refine wpQuiet_nil ?_
              go_wp2_with fail
              go_roundw
              case rel => exact ⟨j + 1, remL (fun e => e.id == x.id) L, by omega, by go_num, HOc.out.step ⟨HC.out, fun i hi => .inl hi⟩ HRO12.out, (srtK_rem HS.out.2 (show srtK (En.key now age) L = x :: m.drop (j + 1) by rw [HS.out.1]; exact drop_at hx)).symm, nodup_rem HS.out.2, HUc.out.then_ HC.out⟩
              case measure => simp [intOf]; omega
        · obtain rfl : j = m.length := by omega
          have HTK := Lib.hid (HO.out.own.ro.take_ now (by have := HLL.out; omega) (by simp) (by omega) (by omega) a0 a1)
          have hL : L = [] := by
            have := len_srtK (ky := En.key now age) L
            rw [HS.out.1, List.drop_length] at this
            exact List.length_eq_zero_iff.1 this.symm
          subst hL
          go_upto_region 31 with (fail)
          go_wp2_with fail
          refine HTK.out.mono ?_
          rintro e w9 ⟨hs, _⟩
          obtain ⟨rfl, u9⟩ := hs rfl
          have HO9 := Lib.hid (HO.out.nn u9)
          clear hs u9 HTK
          go_upto_region 32 with (fail)
          have HO10 := Lib.hid (HO9.out.nn ((Upd.refl w9 _).alloc (.cells #[.int .i64 0, .string ⟨#[]⟩, .int .i64 0, .int .i64 0] 34)))
          generalize w9.alloc (.cells #[.int .i64 0, .string ⟨#[]⟩, .int .i64 0, .int .i64 0] 34) = w10 at *
          have HLN := Lib.hid (HO10.out.own.ro.len_ (by simp))
          go_wp2_with fail
          refine HLN.out.mono ?_
          rintro e w11 ⟨rfl, hw11⟩
          obtain rfl : w10 = w11 := hw11.symm
          go_wp2_with fail
          go_ret
          exact ⟨rfl, HO10.out.own.upd⟩
end Go.Proofs.Ythpilbooolgkiaa
