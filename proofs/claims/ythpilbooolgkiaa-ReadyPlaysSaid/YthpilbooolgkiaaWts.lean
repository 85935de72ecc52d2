/- The law ReadyWaits, walked: it returns true. -/
import Derived.Test.YthpilbooolgkiaaOen
set_option linter.unusedVariables false
set_option linter.unusedSimpArgs false
namespace Go.Proofs.Ythpilbooolgkiaa
open Go.RowKit

theorem okP_ok {x : En} (h : okP x = true) (hi : okI x.id) : x.ok := by
  simp only [okP, Bool.not_eq_true', Bool.or_eq_false_iff, decide_eq_false_iff_not] at h
  obtain ⟨⟨⟨⟨⟨⟨h1, h2⟩, h3⟩, h4⟩, h5⟩, h6⟩, h7⟩ := h
  exact ⟨by omega, by have := hi; simp [okI, Lit.wf, IntKind.min, IntKind.max, IntKind.signed, IntKind.bits] at this; omega, by omega, by omega, by omega, by omega, by omega⟩
theorem putC_ok {room : Int} {l : List En} {fly : List (Int × ByteArray)} {x : En} (h : putC room l fly x = 0) : okP x = true ∧ (look x.id fly).isSome = false ∧ (l.any fun e => e.id == x.id) = false ∧ (l.length : Int) < room := by
  unfold putC at h
  split at h
  · cases h
  · split at h
    · cases h
    · split at h
      · cases h
      · rename_i h1 h2 h3
        refine ⟨by simpa using h1, ?_, ?_, by omega⟩
        · simpa using fun h => h2 (.inl h)
        · exact Bool.eq_false_iff.2 fun h => h2 (.inr h)
theorem putL_len {room : Int} {l : List En} {fly : List (Int × ByteArray)} {x : En} : (putL room l fly x).length ≤ l.length + 1 := by
  unfold putL
  split <;> simp
theorem putL_head {room : Int} {f x : En} {T : List En} {fly : List (Int × ByteArray)} : ∃ T', putL room (f :: T) fly x = f :: T' := by
  unfold putL
  split
  · exact ⟨T ++ [x], rfl⟩
  · exact ⟨T, rfl⟩
/-- The least comes first. -/
theorem srtK_mid {α : Type} {ky : α → Int} {P S : List α} {x : α} (hP : ∀ y ∈ P, ky x < ky y) (hS : ∀ y ∈ S, ky x ≤ ky y) : srtK ky (P ++ x :: S) = x :: srtK ky (P ++ S) := by
  refine (srtK_of ?_ ?_).symm
  · unfold Sd
    rw [List.pairwise_cons]
    refine ⟨fun y hy => ?_, sd_srtK _⟩
    rcases List.mem_append.1 ((same_srtK _).mem hy) with h | h
    · exact Int.le_of_lt (hP y h)
    · exact hS y h
  · intro k
    have h1 := same_srtK (ky := ky) (P ++ S) k
    rw [List.filter_cons, h1, List.filter_append, List.filter_append, List.filter_cons]
    by_cases hk : ky x = k
    · have hPe : P.filter (fun y => decide (ky y = k)) = [] := List.filter_eq_nil_iff.2 fun y hy => by have := hP y hy; simp; omega
      simp [hk, hPe]
    · simp [hk]
theorem srtK_head {α : Type} {ky : α → Int} {S : List α} {x : α} (hS : ∀ y ∈ S, ky x ≤ ky y) : srtK ky (x :: S) = x :: srtK ky S := srtK_mid (P := []) (by simp) hS
theorem rank_le9 (e : En) (now age : Int) : e.rank now age ≤ 9 := by unfold En.rank rank; split <;> omega
theorem rank_18 {e : En} {age : Int} (he : e.ok) (ha : 1 ≤ age) : e.rank (e.at_ + 18 * age) age = 9 := by
  have h1 : 0 < 18 * age := by omega
  have := he.p0
  unfold En.rank rank
  rw [if_neg (by omega), show max age 1 = age by omega, show e.at_ + 18 * age - e.at_ = 18 * age by omega, Int.mul_tdiv_cancel _ (by omega)]
  omega
theorem waits_take {f : En} {T : List En} {age : Int} (hf : f.ok) (ha : 1 ≤ age) : takeR (f.at_ + 18 * age) age 64 (f :: T) [] = some f := by
  unfold takeR
  rw [srtK_head (fun y _ => by unfold En.key; rw [rank_18 hf ha]; have := rank_le9 y (f.at_ + 18 * age) age; omega), List.find?_cons_of_pos (by simp [freeB, cntD])]
/-- The queue, in a law. -/
structure OwnR (w wr : World) (g : Nat) (F : Nat → Prop) (age limit room : Int) (l : List En) (fly : List (Int × ByteArray)) : Prop where
  ro : RO wr g F age limit room l fly
  fresh : ∀ i, F i → w.heap.size ≤ i
  upd : Upd w wr Nope
section
variable {w wr w' : World} {g : Nat} {F F' : Nat → Prop} {age limit room : Int} {l l' : List En} {fly fly' : List (Int × ByteArray)} (h : OwnR w wr g F age limit room l fly)
include h
theorem OwnR.nn (u : Upd wr w' Nope) : OwnR w w' g F age limit room l fly := ⟨h.ro.nn u, h.fresh, h.upd.nn u⟩
theorem OwnR.step (hg : Gr wr w' F F') (hr : RO w' g F' age limit room l' fly') : OwnR w w' g F' age limit room l' fly' :=
  ⟨hr, fun i hi => (hg.new i hi).elim (h.fresh i) (fun k => Nat.le_trans h.upd.size k), h.upd.trans hg.upd (fun _ _ h => h) (fun i hi hf => by have := h.fresh i hf; omega)⟩
theorem OwnR.stay (u : Upd wr w' F) (hr : RO w' g F age limit room l' fly') : OwnR w w' g F age limit room l' fly' := h.step ⟨u, fun i hi => .inl hi⟩ hr
omit h in
/-- A block that is not the queue's. -/
theorem OwnR.far {q : Nat} {cs : Array Value} {T : TypeId} (hb : Blk wr q cs T) (hq : ¬ F q) (hg : Gr wr w' F F') : Blk w' q cs T ∧ ¬ F' q := ⟨hb.upd hg.upd hq, fun hf => (hg.new q hf).elim hq (fun k => by have := hb.lt; omega)⟩
end
theorem waits_ways (age : Int) (n m : Nat) : decide (age < 1) = true ∨ (decide (age < 1) = false ∧ decide (65536 < age) = true) ∨ (decide (age < 1) = false ∧ decide (65536 < age) = false ∧ decide (60 < (n : Int)) = true) ∨
    (decide (age < 1) = false ∧ decide (65536 < age) = false ∧ decide (60 < (n : Int)) = false ∧ decide (300 < (m : Int)) = true) ∨ (decide (age < 1) = false ∧ decide (65536 < age) = false ∧ decide (60 < (n : Int)) = false ∧ decide (300 < (m : Int)) = false) := by
  cases decide (age < 1) <;> cases decide (65536 < age) <;> cases decide (60 < (n : Int)) <;> cases decide (300 < (m : Int)) <;> simp
set_option maxRecDepth 100000 in
set_option maxHeartbeats 4000000 in
theorem readyWaits_any (w : World) (age : Int) (hage : (Lit.int .i64 age).wf = true) (x : En) (hx : okE x) (A : Option Addr) (cap : Nat) (l : List En) (rd : RdS 4 En.vals w A l) (hc : l.length ≤ cap) (hm : cap ≤ maxLen) (ok : ∀ y ∈ l, okE y) :
    Calls Try.prog 6 #[.int .i64 age, .agg #[.int .i64 x.id, .string x.dest, .int .i64 x.pri, .int .i64 x.at_], .slice A l.length cap] w fun e w' => e = .returned (.bool true) ∧ Below w.heap.size w w' := by
  refine Calls.mono (R := fun e w' => e = .returned (.bool true) ∧ Upd w w' Nope) ?_ (fun e w' ⟨h, u⟩ => ⟨h, u.below (fun _ h => h.elim)⟩)
  have HA := Lib.hid (fun w => awake_any w)
  have hz := hx.2.2.2
  unfold maxLen at hz
  have hlm : l.length ≤ 9223372036854775807 := by unfold maxLen at hm; omega
  have HWY := Lib.hid (waits_ways age l.length x.dest.size)
  have HRD := Lib.hid rd
  have HOK := Lib.hid ok
  have HXI := Lib.hid hx.1
  clear hx hage rd ok hc hm
  go_enter Try.func6, Try.ntmps6
  go_wp2_with fail
  have hB := Blk.new w #[.int .i64 x.id, .string x.dest, .int .i64 x.pri, .int .i64 x.at_] 34
  have hU : Upd w (w.alloc (.cells #[.int .i64 x.id, .string x.dest, .int .i64 x.pri, .int .i64 x.at_] 34)) Nope := (Upd.refl w _).alloc _
  generalize w.alloc (.cells #[.int .i64 x.id, .string x.dest, .int .i64 x.pri, .int .i64 x.at_] 34) = w1 at *
  refine (HA.out w1).mono ?_
  rintro e w2 ⟨rfl, u2⟩
  have hB2 := hB.upd u2 (fun h => h)
  have HU := Lib.hid (hU.nn u2)
  have c1 : w2.cell? ⟨w.heap.size, 1, none⟩ = some (.string x.dest) := (hB2.cell 1).trans rfl
  have HB := Lib.hid hB2
  clear hB hU u2 hB2 HA
  rcases HWY.out with g0 | ⟨g0, g1⟩ | ⟨g0, g1, g2⟩ | ⟨g0, g1, g2, g3⟩ | ⟨g0, g1, g2, g3⟩
  iterate 4
    · clear HWY
      go_wp2_with fail
      go_ret
      exact ⟨rfl, HU.out⟩
  clear HWY
  obtain ⟨a0, a1, l60, z3⟩ : 1 ≤ age ∧ age ≤ 65536 ∧ l.length ≤ 60 ∧ x.dest.size ≤ 300 := by
    simp only [decide_eq_false_iff_not] at g0 g1 g2 g3
    omega
  have HN := Lib.hid (new_any age 64 4096 w2)
  go_wp2_with fail
  refine HN.out.mono ?_
  rintro e w3 ⟨_, hn, u3⟩
  obtain ⟨g, F, rfl, hro, hf⟩ := hn (by simp [okN]; omega)
  have hB3 := HB.out.upd u3 (fun h => h)
  have HO := Lib.hid (show OwnR w w3 g F age 64 4096 [] [] from ⟨hro, fun i hi => by have := hf i hi; have := HU.out.size; omega, HU.out.nn u3⟩)
  have HNF := Lib.hid (show ¬ F w.heap.size from fun hh => by have := hf _ hh; have := HB.out.lt; omega)
  have c0 : w3.cell? ⟨w.heap.size, 0, none⟩ = some (.int .i64 x.id) := (hB3.cell 0).trans rfl
  clear c1
  have c1 : w3.cell? ⟨w.heap.size, 1, none⟩ = some (.string x.dest) := (hB3.cell 1).trans rfl
  have c2 : w3.cell? ⟨w.heap.size, 2, none⟩ = some (.int .i64 x.pri) := (hB3.cell 2).trans rfl
  have c3 : w3.cell? ⟨w.heap.size, 3, none⟩ = some (.int .i64 x.at_) := (hB3.cell 3).trans rfl
  have HB3 := Lib.hid hB3
  clear hn hro hf u3 hB3 HN HB HU g0 g1 g2 g3
  have HP := Lib.hid (HO.out.ro.put_ x HXI.out (by omega) (by simp))
  go_wp2_with fail
  refine HP.out.mono ?_
  rintro e w4 ⟨he, F4, hro, hg⟩
  have HO4 := Lib.hid (HO.out.step hg hro)
  have HB4 := Lib.hid (OwnR.far HB3.out HNF.out hg)
  clear hro hg c0 c1 c2 c3 HO HB3 HNF HP
  have c0 : w4.cell? ⟨w.heap.size, 0, none⟩ = some (.int .i64 x.id) := (HB4.out.1.cell 0).trans rfl
  have c1 : w4.cell? ⟨w.heap.size, 1, none⟩ = some (.string x.dest) := (HB4.out.1.cell 1).trans rfl
  have c2 : w4.cell? ⟨w.heap.size, 2, none⟩ = some (.int .i64 x.pri) := (HB4.out.1.cell 2).trans rfl
  have c3 : w4.cell? ⟨w.heap.size, 3, none⟩ = some (.int .i64 x.at_) := (HB4.out.1.cell 3).trans rfl
  by_cases hp : putC 4096 [] [] x = 0
  · obtain ⟨hokp, _, _, _⟩ := putC_ok hp
    have hxo := okP_ok hokp HXI.out
    have hpl : putL 4096 [] [] x = [x] := by unfold putL; rw [if_pos hp]; rfl
    rw [hpl] at HO4
    rw [hp] at he
    subst he
    have HXO := Lib.hid hxo
    by_cases hat : 549755813888 < x.at_
    · have d1 : decide (549755813888 < x.at_) = true := decide_eq_true hat
      clear hp hokp hpl hxo
      go_wp2_with fail
      go_ret
      exact ⟨rfl, HO4.out.upd⟩
    · have d1 : decide (549755813888 < x.at_) = false := decide_eq_false hat
      have hat0 := hxo.a0
      clear hp hokp hpl hxo
      go_wp2_with fail
      clear c0 c1 c2 c3
      have HAT := Lib.hid (And.intro hat0 hat)
      clear hat hat0 d1
      go_loopw [9] (fun i wr => ∃ (k : Nat) (F' : Nat → Prop) (T : List En), k ≤ l.length ∧ i = .int .i64 k ∧ OwnR w wr g F' age 64 4096 (x :: T) [] ∧ (Blk wr w.heap.size #[.int .i64 x.id, .string x.dest, .int .i64 x.pri, .int .i64 x.at_] 34 ∧ ¬ F' w.heap.size) ∧ T.length ≤ k) (fun i _ => l.length - (intOf i).toNat)
      case atStart => exact ⟨0, F4, [], by omega, rfl, HO4.out, HB4.out, by simp⟩
      case round =>
        clear HO4 HB4
        obtain ⟨k, F5, T, hk, rfl, hO, hB, hT⟩ := hrel
        have HO := Lib.hid hO
        have HB := Lib.hid hB
        have HT := Lib.hid hT
        clear hT
        by_cases hlt : k < l.length
        · have hL := HRD.out.nn hO.upd
          obtain ⟨ad, rfl, _⟩ := hL k hlt
          have y0 := hL.f0 hlt (v := .int .i64 l[k].id) rfl
          have y1 := hL.fs hlt 0 (v := .string l[k].dest) rfl
          have y2 := hL.fs hlt 1 (v := .int .i64 l[k].pri) rfl
          have y3 := hL.fs hlt 2 (v := .int .i64 l[k].at_) rfl
          simp only [Nat.zero_add, Nat.reduceAdd] at y1 y2 y3
          have hyo := HOK.out l[k] (List.getElem_mem hlt)
          have hyi := hyo.1
          have hyz := hyo.2.2.2
          unfold maxLen at hyz
          generalize l[k] = y at y0 y1 y2 y3 hyo hyi hyz
          clear hL hyo hO hB
          by_cases h3 : 300 < y.dest.size
          · have t3 : decide (300 < (y.dest.size : Int)) = true := decide_eq_true (by omega)
            go_wp2_with fail
            go_ret
            exact ⟨rfl, HO.out.upd⟩
          · have t3 : decide (300 < (y.dest.size : Int)) = false := decide_eq_false (by omega)
            go_upto_region 16 with (fail)
            have hy6 := Blk.new wr #[.int .i64 y.id, .string y.dest, .int .i64 y.pri, .int .i64 y.at_] 34
            have hu6 : Upd wr (wr.alloc (.cells #[.int .i64 y.id, .string y.dest, .int .i64 y.pri, .int .i64 y.at_] 34)) Nope := (Upd.refl wr _).alloc _
            have hx6 := HB.out.1.upd hu6 (fun h => h)
            have hne6 : w.heap.size ≠ wr.heap.size := by have := HB.out.1.lt; omega
            have hyf : ¬ F5 wr.heap.size := fun hf => Nat.lt_irrefl _ (HO.out.ro.lt hf)
            have hO6 := HO.out.nn hu6
            have hle : w.heap.size ≤ wr.heap.size := HO.out.upd.size
            generalize wr.alloc (.cells #[.int .i64 y.id, .string y.dest, .int .i64 y.pri, .int .i64 y.at_] 34) = w6 at *
            generalize wr.heap.size = qy at *
            have e3 : w6.cell? ⟨w.heap.size, 3, none⟩ = some (.int .i64 x.at_) := (hx6.cell 3).trans rfl
            have f3 : w6.cell? ⟨qy, 3, none⟩ = some (.int .i64 y.at_) := (hy6.cell 3).trans rfl
            have ff := hy6.frozen 3
            have hw1 : wrap64 (x.at_ + (k : Int)) = x.at_ + k := wrap64_in (by have := HAT.out; omega) (by have := HAT.out; omega)
            have HX6 := Lib.hid hx6
            have HY6 := Lib.hid hy6
            have HO6 := Lib.hid hO6
            have HN6 := Lib.hid (And.intro hne6 (And.intro hyf hle))
            have HY3 := Lib.hid (show y.dest.size ≤ 1000 by omega)
            clear hx6 hy6 hO6 hne6 hyf hle hu6 y0 y1 y2 y3 t3 h3
            go_upto_region 17 with (fail)
            have hu7 : Upd w6 (w6.setCell ⟨qy, 3, none⟩ (.int .i64 (x.at_ + k))) (fun i => i = qy) := (Upd.refl w6 _).set _ _ (.inl rfl)
            have hy7 := HY6.out.set 3 (.int .i64 (x.at_ + k))
            have hx7 := HX6.out.upd hu7 (fun e => HN6.out.1 e)
            have hO7 : OwnR w (w6.setCell ⟨qy, 3, none⟩ (.int .i64 (x.at_ + k))) g F5 age 64 4096 (x :: T) [] := ⟨HO6.out.ro.apart hu7 (fun i hi e => HN6.out.2.1 (e ▸ hi)), HO6.out.fresh, HO6.out.upd.on hu7 HN6.out.2.2⟩
            clear e3 f3 ff
            generalize w6.setCell ⟨qy, 3, none⟩ (.int .i64 (x.at_ + k)) = w7 at *
            have e0 : w7.cell? ⟨w.heap.size, 0, none⟩ = some (.int .i64 x.id) := (hx7.cell 0).trans rfl
            have f0 : w7.cell? ⟨qy, 0, none⟩ = some (.int .i64 y.id) := (hy7.cell 0).trans rfl
            have f1 : w7.cell? ⟨qy, 1, none⟩ = some (.string y.dest) := (hy7.cell 1).trans rfl
            have f2 : w7.cell? ⟨qy, 2, none⟩ = some (.int .i64 y.pri) := (hy7.cell 2).trans rfl
            have f3 : w7.cell? ⟨qy, 3, none⟩ = some (.int .i64 (x.at_ + k)) := (hy7.cell 3).trans rfl
            have HX7 := Lib.hid hx7
            have HO7 := Lib.hid hO7
            clear hu7 hy7 hx7 hO7 HX6 HY6 HO6 HO HN6 hw1
            cases hid : (y.id == x.id) with
            | true =>
              have hid2 : (y.id != x.id) = false := by simp only [bne, hid]; rfl
              go_wp2_with fail
              go_roundw
              case rel => exact ⟨k + 1, F5, T, by omega, by go_num, HO7.out, ⟨HX7.out, HB.out.2⟩, by have := HT.out; omega⟩
              case measure => simp [intOf]; omega
            | false =>
              have hid2 : (y.id != x.id) = true := by simp only [bne, hid]; rfl
              have HP := Lib.hid (HO7.out.ro.put_ ⟨y.id, y.dest, y.pri, x.at_ + k⟩ hyi HY3.out (by have h1 := HT.out; rw [List.length_cons]; omega))
              go_wp2_with fail
              refine HP.out.mono ?_
              rintro e w8 ⟨rfl, F8, hro, hg⟩
              have HB8 := Lib.hid (OwnR.far HX7.out HB.out.2 hg)
              have HO8 := Lib.hid (HO7.out.step hg hro)
              have HL8 := Lib.hid (putL_len (room := 4096) (l := x :: T) (fly := []) (x := ⟨y.id, y.dest, y.pri, x.at_ + k⟩))
              obtain ⟨T', hT'⟩ := putL_head (room := 4096) (f := x) (T := T) (fly := []) (x := ⟨y.id, y.dest, y.pri, x.at_ + k⟩)
              rw [hT'] at HO8 HL8
              generalize putC 4096 (x :: T) [] ⟨y.id, y.dest, y.pri, x.at_ + k⟩ = c8
              clear hro hg hT' HP HO7 HX7 e0 f0 f1 f2 f3
              go_wp2_with fail
              go_roundw
              case rel => exact ⟨k + 1, F8, T', by omega, by go_num, HO8.out, HB8.out, by have h1 := HT.out; have h2 := HL8.out; rw [List.length_cons, List.length_cons] at h2; omega⟩
              case measure => simp [intOf]; omega
        · obtain rfl : k = l.length := by omega
          have e3 : World.cell? _ ⟨w.heap.size, 3, none⟩ = some (.int .i64 x.at_) := (hB.1.cell 3).trans rfl
          have HTK := Lib.hid (HO.out.ro.take_ (x.at_ + 18 * age) (by have := HT.out; simp; omega) (by simp) (by have := HAT.out; omega) (by have := HAT.out; omega) a0 (by omega))
          have hw1 : wrap64 (18 * age) = 18 * age := wrap64_in (by omega) (by omega)
          have hw2 : wrap64 (x.at_ + 18 * age) = x.at_ + 18 * age := wrap64_in (by have := HAT.out; omega) (by have := HAT.out; omega)
          clear hO hB
          go_wp2_with fail
          refine HTK.out.mono ?_
          rintro e w8 ⟨_, hs⟩
          obtain ⟨rfl, hro, u⟩ := hs x (waits_take HXO.out a0)
          have hx8 := HB.out.1.upd u HB.out.2
          have HO8 := Lib.hid (HO.out.stay u hro)
          have HX8 := Lib.hid hx8
          clear hs hro u hx8 e3 HTK
          go_upto_region 20 with (fail)
          have hy9 := Blk.new w8 #[.int .i64 x.id, .string x.dest, .int .i64 x.pri, .int .i64 x.at_] 34
          have hu9 : Upd w8 (w8.alloc (.cells #[.int .i64 x.id, .string x.dest, .int .i64 x.pri, .int .i64 x.at_] 34)) Nope := (Upd.refl w8 _).alloc _
          have hx9 := HX8.out.upd hu9 (fun h => h)
          have HO9 := Lib.hid (HO8.out.nn hu9)
          generalize w8.alloc (.cells #[.int .i64 x.id, .string x.dest, .int .i64 x.pri, .int .i64 x.at_] 34) = w9 at *
          generalize w8.heap.size = qz at *
          have e0 : w9.cell? ⟨w.heap.size, 0, none⟩ = some (.int .i64 x.id) := (hx9.cell 0).trans rfl
          have e1 : w9.cell? ⟨w.heap.size, 1, none⟩ = some (.string x.dest) := (hx9.cell 1).trans rfl
          have e2 : w9.cell? ⟨w.heap.size, 2, none⟩ = some (.int .i64 x.pri) := (hx9.cell 2).trans rfl
          have e3 : w9.cell? ⟨w.heap.size, 3, none⟩ = some (.int .i64 x.at_) := (hx9.cell 3).trans rfl
          have f0 : w9.cell? ⟨qz, 0, none⟩ = some (.int .i64 x.id) := (hy9.cell 0).trans rfl
          have f1 : w9.cell? ⟨qz, 1, none⟩ = some (.string x.dest) := (hy9.cell 1).trans rfl
          have f2 : w9.cell? ⟨qz, 2, none⟩ = some (.int .i64 x.pri) := (hy9.cell 2).trans rfl
          have f3 : w9.cell? ⟨qz, 3, none⟩ = some (.int .i64 x.at_) := (hy9.cell 3).trans rfl
          clear hy9 hu9 hx9
          go_wp2_with fail
          go_ret
          exact ⟨rfl, HO9.out.upd⟩
  · have hne : (putC 4096 [] [] x != 0) = true := by simpa using hp
    generalize putC 4096 [] [] x = c at *
    subst he
    clear hp
    go_wp2_with fail
    go_ret
    exact ⟨rfl, HO4.out.upd⟩
end Go.Proofs.Ythpilbooolgkiaa
