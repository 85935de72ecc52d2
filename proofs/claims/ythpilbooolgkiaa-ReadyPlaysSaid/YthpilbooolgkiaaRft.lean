/- The reference: Take. -/
import Derived.Test.YthpilbooolgkiaaRfp
set_option linter.unusedVariables false
set_option linter.unusedSimpArgs false
namespace Go.Proofs.Ythpilbooolgkiaa
open Go.RowKit

/-- A world that grew out of w, blocks in F apart. -/
structure UG (w : World) (F : Nat → Prop) where mk :: (val : World) (ok : Upd w val F)
instance (w : World) (F : Nat → Prop) : Nonempty (UG w F) := ⟨⟨w, Upd.refl _ _⟩⟩
theorem UG.cell {w : World} {F : Nat → Prop} (x : UG w F) {a : Addr} {v : Value} (h : w.cell? a = some v) (hn : ¬ F a.block) : x.val.cell? a = some v := x.ok.cell h hn
/-- Who is taken, by the reference. -/
def takeRF (now age limit : Int) (L Fl : List En) : Option En := (srtK (En.key now age) (L.filter (freeF limit Fl))).head?
theorem head_of {ky : En → Int} {f : En → Bool} {P S : List En} {x : En} (hx : f x = true) (hP : ∀ y ∈ P, f y = true → ky x < ky y) (hS : ∀ y ∈ S, f y = true → ky x ≤ ky y) : (srtK ky ((P ++ x :: S).filter f)).head? = some x := by
  rw [List.filter_append, List.filter_cons_of_pos hx, srtK_mid (fun y hy => hP y (List.mem_filter.1 hy).1 (List.mem_filter.1 hy).2) (fun y hy => hS y (List.mem_filter.1 hy).1 (List.mem_filter.1 hy).2)]
  rfl
theorem head_no {ky : En → Int} {f : En → Bool} {L : List En} (h : ∀ y ∈ L, f y = false) : (srtK ky (L.filter f)).head? = none := by
  rw [List.filter_eq_nil_iff.2 (fun y hy => by rw [h y hy]; simp)]
  rfl
def TkRes (w : World) (now age limit room : Int) (A B : Option Addr) (L Fl : List En) (e : Ending) (w' : World) : Prop :=
  (takeRF now age limit L Fl = none → ∃ A' B' ca cb, e = .returned (.tuple #[.agg #[.int .i64 age, .int .i64 limit, .int .i64 room, .slice A' L.length ca, .slice B' Fl.length cb], .agg #[.int .i64 0, .string ⟨#[]⟩, .int .i64 0, .int .i64 0], .bool false]) ∧ QR w w' A B A' B' ca cb L Fl) ∧
  (∀ x, takeRF now age limit L Fl = some x → ∃ A' B' ca cb, e = .returned (.tuple #[.agg #[.int .i64 age, .int .i64 limit, .int .i64 room, .slice A' (remL (fun e => e.id == x.id) L).length ca, .slice B' (Fl ++ [x]).length cb], .agg #[.int .i64 x.id, .string x.dest, .int .i64 x.pri, .int .i64 x.at_], .bool true]) ∧ QR w w' A B A' B' ca cb (remL (fun e => e.id == x.id) L) (Fl ++ [x]))
set_option maxRecDepth 100000 in
set_option maxHeartbeats 8000000 in
theorem takeF_any (w : World) (age limit room : Int) (A B : Option Addr) (cap capB : Nat) (L Fl : List En) (hr : RE w A cap L) (hb : RE w B capB Fl) (hl : L.length ≤ 5000) (hfl : Fl.length ≤ 5000) (hok : ∀ e ∈ L, e.ok) (hnd : (L.map (·.id)).Nodup) (now : Int) (n0 : -2199023255552 ≤ now) (n1 : now ≤ 2199023255552) (a0 : 1 ≤ age) (a1 : age ≤ 1048576) :
    Calls Try.prog 14 #[.agg #[.int .i64 age, .int .i64 limit, .int .i64 room, .slice A L.length cap, .slice B Fl.length capB], .int .i64 now] w (TkRes w now age limit room A B L Fl) := by
  have HR := Lib.hid hr
  have HB := Lib.hid hb
  have HND := Lib.hid hnd
  have HOK := Lib.hid hok
  clear hr hb hnd hok
  go_enter Try.func14, Try.ntmps14
  go_upto_region 1 with (fail)
  have hP := ((Blk.new w #[.int .i64 age, .int .i64 limit, .int .i64 room, .slice A L.length cap, .slice B Fl.length capB] 32).alloc (.cells #[.int .i64 0, .int .i64 0, .int .i64 0, .slice none 0 0, .slice none 0 0] 32)).alloc (.cells #[.int .i64 0, .string ⟨#[]⟩, .int .i64 0, .int .i64 0] 39)
  have hQ := (Blk.new (w.alloc (.cells #[.int .i64 age, .int .i64 limit, .int .i64 room, .slice A L.length cap, .slice B Fl.length capB] 32)) #[.int .i64 0, .int .i64 0, .int .i64 0, .slice none 0 0, .slice none 0 0] 32).alloc (.cells #[.int .i64 0, .string ⟨#[]⟩, .int .i64 0, .int .i64 0] 39)
  have hX := Blk.new ((w.alloc (.cells #[.int .i64 age, .int .i64 limit, .int .i64 room, .slice A L.length cap, .slice B Fl.length capB] 32)).alloc (.cells #[.int .i64 0, .int .i64 0, .int .i64 0, .slice none 0 0, .slice none 0 0] 32)) #[.int .i64 0, .string ⟨#[]⟩, .int .i64 0, .int .i64 0] 39
  have hU : Upd w (((w.alloc (.cells #[.int .i64 age, .int .i64 limit, .int .i64 room, .slice A L.length cap, .slice B Fl.length capB] 32)).alloc (.cells #[.int .i64 0, .int .i64 0, .int .i64 0, .slice none 0 0, .slice none 0 0] 32)).alloc (.cells #[.int .i64 0, .string ⟨#[]⟩, .int .i64 0, .int .i64 0] 39)) Nope := (((Upd.refl w _).alloc _).alloc _).alloc _
  have hz : (w.alloc (.cells #[.int .i64 age, .int .i64 limit, .int .i64 room, .slice A L.length cap, .slice B Fl.length capB] 32)).heap.size = w.heap.size + 1 := by simp
  have hz2 : ((w.alloc (.cells #[.int .i64 age, .int .i64 limit, .int .i64 room, .slice A L.length cap, .slice B Fl.length capB] 32)).alloc (.cells #[.int .i64 0, .int .i64 0, .int .i64 0, .slice none 0 0, .slice none 0 0] 32)).heap.size = w.heap.size + 2 := by simp
  rw [hz] at hQ
  rw [hz2] at hX
  try rw [show w.heap.size + 1 + 1 = w.heap.size + 2 from rfl]
  clear hz hz2
  generalize ((w.alloc (.cells #[.int .i64 age, .int .i64 limit, .int .i64 room, .slice A L.length cap, .slice B Fl.length capB] 32)).alloc (.cells #[.int .i64 0, .int .i64 0, .int .i64 0, .slice none 0 0, .slice none 0 0] 32)).alloc (.cells #[.int .i64 0, .string ⟨#[]⟩, .int .i64 0, .int .i64 0] 39) = w2 at *
  have x0 : w2.cell? ⟨w.heap.size, 0, none⟩ = some (.int .i64 age) := (hP.cell 0).trans rfl
  have x1 : w2.cell? ⟨w.heap.size, 1, none⟩ = some (.int .i64 limit) := (hP.cell 1).trans rfl
  have x2 : w2.cell? ⟨w.heap.size, 2, none⟩ = some (.int .i64 room) := (hP.cell 2).trans rfl
  have x3 : w2.cell? ⟨w.heap.size, 3, none⟩ = some (.slice A L.length cap) := (hP.cell 3).trans rfl
  have x4 : w2.cell? ⟨w.heap.size, 4, none⟩ = some (.slice B Fl.length capB) := (hP.cell 4).trans rfl
  have HP := Lib.hid hP
  have HX := Lib.hid hX
  have HQ := Lib.hid hQ
  have HU := Lib.hid hU
  have HBT := Lib.hid (bestF_any w2 age limit room A B cap capB L Fl (HR.out.nn hU) (HB.out.nn hU) hl hfl HOK.out now n0 n1 a0 a1 true)
  clear hP hX hQ hU
  go_wp2_with fail
  refine HBT.out.mono ?_
  rintro e w3 ⟨r, rfl, hbst, u3⟩
  have HP3 := Lib.hid (HP.out.upd u3 (fun h => h))
  have HX3 := Lib.hid (HX.out.upd u3 (fun h => h))
  have HQ3 := Lib.hid (HQ.out.upd u3 (fun h => h))
  have HU3 := Lib.hid (HU.out.nn u3)
  clear u3 HP HX HQ HU HBT x0 x1 x2 x3 x4
  rcases bst_cut hbst with ⟨rfl, hno⟩ | ⟨P, x, S, hM, rfl, hfx, hP, hS⟩
  · have HT := Lib.hid (show takeRF now age limit L Fl = none from head_no (fun y hy => by simpa [mayB] using hno y hy))
    clear hbst hno
    have x0 : w3.cell? ⟨w.heap.size, 0, none⟩ = some (.int .i64 age) := (HP3.out.cell 0).trans rfl
    have x1 : w3.cell? ⟨w.heap.size, 1, none⟩ = some (.int .i64 limit) := (HP3.out.cell 1).trans rfl
    have x2 : w3.cell? ⟨w.heap.size, 2, none⟩ = some (.int .i64 room) := (HP3.out.cell 2).trans rfl
    have x3 : w3.cell? ⟨w.heap.size, 3, none⟩ = some (.slice A L.length cap) := (HP3.out.cell 3).trans rfl
    have x4 : w3.cell? ⟨w.heap.size, 4, none⟩ = some (.slice B Fl.length capB) := (HP3.out.cell 4).trans rfl
    have y0 := HQ3.out.frozen 0
    have y1 := HQ3.out.frozen 1
    have y2 := HQ3.out.frozen 2
    have y3 := HQ3.out.frozen 3
    have y4 := HQ3.out.frozen 4
    have q0 : w3.cell? ⟨w.heap.size + 1, 0, none⟩ = some (.int .i64 0) := (HQ3.out.cell 0).trans rfl
    have q1 : w3.cell? ⟨w.heap.size + 1, 1, none⟩ = some (.int .i64 0) := (HQ3.out.cell 1).trans rfl
    have q2 : w3.cell? ⟨w.heap.size + 1, 2, none⟩ = some (.int .i64 0) := (HQ3.out.cell 2).trans rfl
    have q3 : w3.cell? ⟨w.heap.size + 1, 3, none⟩ = some (.slice none 0 0) := (HQ3.out.cell 3).trans rfl
    have q4 : w3.cell? ⟨w.heap.size + 1, 4, none⟩ = some (.slice none 0 0) := (HQ3.out.cell 4).trans rfl
    have s0 := HX3.out.frozen 0
    have s1 := HX3.out.frozen 1
    have s2 := HX3.out.frozen 2
    have s3 := HX3.out.frozen 3
    have t0 : w3.cell? ⟨w.heap.size + 2, 0, none⟩ = some (.int .i64 0) := (HX3.out.cell 0).trans rfl
    have t1 : w3.cell? ⟨w.heap.size + 2, 1, none⟩ = some (.string ⟨#[]⟩) := (HX3.out.cell 1).trans rfl
    have t2 : w3.cell? ⟨w.heap.size + 2, 2, none⟩ = some (.int .i64 0) := (HX3.out.cell 2).trans rfl
    have t3 : w3.cell? ⟨w.heap.size + 2, 3, none⟩ = some (.int .i64 0) := (HX3.out.cell 3).trans rfl
    go_wp2_with fail
    have hq4 := HQ3.out.put5 (.int .i64 age) (.int .i64 limit) (.int .i64 room) (.slice A L.length cap) (.slice B Fl.length capB)
    have hu4 := Upd.put5 w3 (w.heap.size + 1) (.int .i64 age) (.int .i64 limit) (.int .i64 room) (.slice A L.length cap) (.slice B Fl.length capB)
    have hx4 := HX3.out.upd hu4 (fun e => by omega)
    have HU4 := Lib.hid (HU3.out.on (g := w.heap.size + 1) hu4 (by omega))
    clear x0 x1 x2 x3 x4 y0 y1 y2 y3 y4 q0 q1 q2 q3 q4 s0 s1 s2 s3 t0 t1 t2 t3 hu4
    generalize ((((w3.setCell ⟨w.heap.size + 1, 0, none⟩ (.int .i64 age)).setCell ⟨w.heap.size + 1, 1, none⟩ (.int .i64 limit)).setCell ⟨w.heap.size + 1, 2, none⟩ (.int .i64 room)).setCell ⟨w.heap.size + 1, 3, none⟩ (.slice A L.length cap)).setCell ⟨w.heap.size + 1, 4, none⟩ (.slice B Fl.length capB) = w4 at *
    have hx5 := hx4.put4 (.int .i64 0) (.string ⟨#[]⟩) (.int .i64 0) (.int .i64 0)
    have hu5 := Upd.put4 w4 (w.heap.size + 2) (.int .i64 0) (.string ⟨#[]⟩) (.int .i64 0) (.int .i64 0)
    have hq5 := hq4.upd hu5 (fun e => by omega)
    have HU5 := Lib.hid (HU4.out.on (g := w.heap.size + 2) hu5 (by omega))
    clear hu5 hx4 hq4
    generalize (((w4.setCell ⟨w.heap.size + 2, 0, none⟩ (.int .i64 0)).setCell ⟨w.heap.size + 2, 1, none⟩ (.string ⟨#[]⟩)).setCell ⟨w.heap.size + 2, 2, none⟩ (.int .i64 0)).setCell ⟨w.heap.size + 2, 3, none⟩ (.int .i64 0) = w5 at *
    have r0 : w5.cell? ⟨w.heap.size + 1, 0, none⟩ = some (.int .i64 age) := (hq5.cell 0).trans rfl
    have r1 : w5.cell? ⟨w.heap.size + 1, 1, none⟩ = some (.int .i64 limit) := (hq5.cell 1).trans rfl
    have r2 : w5.cell? ⟨w.heap.size + 1, 2, none⟩ = some (.int .i64 room) := (hq5.cell 2).trans rfl
    have r3 : w5.cell? ⟨w.heap.size + 1, 3, none⟩ = some (.slice A L.length cap) := (hq5.cell 3).trans rfl
    have r4 : w5.cell? ⟨w.heap.size + 1, 4, none⟩ = some (.slice B Fl.length capB) := (hq5.cell 4).trans rfl
    have z0 : w5.cell? ⟨w.heap.size + 2, 0, none⟩ = some (.int .i64 0) := (hx5.cell 0).trans rfl
    have z1 : w5.cell? ⟨w.heap.size + 2, 1, none⟩ = some (.string ⟨#[]⟩) := (hx5.cell 1).trans rfl
    have z2 : w5.cell? ⟨w.heap.size + 2, 2, none⟩ = some (.int .i64 0) := (hx5.cell 2).trans rfl
    have z3 : w5.cell? ⟨w.heap.size + 2, 3, none⟩ = some (.int .i64 0) := (hx5.cell 3).trans rfl
    refine bodyPost_ret (v := .tuple #[.agg #[.int .i64 age, .int .i64 limit, .int .i64 room, .slice A L.length cap, .slice B Fl.length capB], .agg #[.int .i64 0, .string ⟨#[]⟩, .int .i64 0, .int .i64 0], .bool false]) (by simp [results, Try.results14, go_sem, r0, r1, r2, r3, r4, z0, z1, z2, z3]) rfl ?_
    exact ⟨fun _ => ⟨A, B, cap, capB, rfl, HR.out.nn HU5.out, HB.out.nn HU5.out, HU5.out, .inl rfl, .inl rfl⟩, fun x hx => by rw [HT.out] at hx; cases hx⟩
  · have HT := Lib.hid (show takeRF now age limit L Fl = some x by
      unfold takeRF
      rw [hM]
      exact head_of (by simpa [mayB] using hfx) (fun y hy hf => by have := hP y hy (by simpa [mayB] using hf); unfold En.key; omega) (fun y hy hf => by have := hS y hy (by simpa [mayB] using hf); unfold En.key; omega))
    have hpl : P.length < L.length := by rw [hM]; simp
    have hLp : L[P.length]? = some x := by rw [hM]; simp
    have HRM := Lib.hid (show remL (fun e => e.id == x.id) L = L.take P.length ++ L.drop (P.length + 1) by
      have hn := HND.out
      rw [hM] at hn
      rw [hM, rem_take hn])
    clear hbst hM hfx hP hS
    generalize P.length = pp at *
    have HXO := Lib.hid (HOK.out x (List.mem_of_getElem? hLp))
    have hk0 : decide ((pp : Int) < 0) = false := decide_eq_false (by omega)
    obtain ⟨ad, rfl, y0, y1, y2, y3⟩ := (HR.out.nn HU3.out).at_ hpl
    rw [show L[pp] = x by rw [List.getElem?_eq_getElem hpl] at hLp; exact Option.some.inj hLp] at y0 y1 y2 y3
    have x3 : w3.cell? ⟨w.heap.size, 3, none⟩ = some (.slice (some ad) L.length cap) := (HP3.out.cell 3).trans rfl
    go_upto_region 5 with (fail)
    have hx8 := Blk.new w3 #[.int .i64 x.id, .string x.dest, .int .i64 x.pri, .int .i64 x.at_] 39
    have hu8 : Upd w3 (w3.alloc (.cells #[.int .i64 x.id, .string x.dest, .int .i64 x.pri, .int .i64 x.at_] 39)) Nope := (Upd.refl w3 _).alloc _
    have HQ8 := Lib.hid (show w.heap.size + 3 ≤ w3.heap.size by have := HX3.out.lt; omega)
    have HP4 := Lib.hid (HP3.out.upd hu8 (fun h => h))
    have HX4 := Lib.hid (HX3.out.upd hu8 (fun h => h))
    have HQ4 := Lib.hid (HQ3.out.upd hu8 (fun h => h))
    have HU4 := Lib.hid (HU3.out.nn hu8)
    have HE4 := Lib.hid hx8
    clear hx8 hu8 HP3 HX3 HQ3 HU3 x3 y0 y1 y2 y3 hLp
    generalize w3.alloc (.cells #[.int .i64 x.id, .string x.dest, .int .i64 x.pri, .int .i64 x.at_] 39) = w4 at *
    generalize w3.heap.size = q8 at *
    have x3 : w4.cell? ⟨w.heap.size, 3, none⟩ = some (.slice (some ad) L.length cap) := (HP4.out.cell 3).trans rfl
    have HWO := Lib.hid (without_any w4 (some ad) cap L (HR.out.nn HU4.out) hl pp hpl)
    have hNN := HRM.out
    generalize L.take pp ++ L.drop (pp + 1) = N at *
    have HNN := Lib.hid hNN
    clear hNN HRM
    go_wp2_with fail
    refine HWO.out.mono ?_
    rintro e w5 ⟨A9, c9, rfl, hr9, u9, hA9⟩
    have HP5 := Lib.hid (HP4.out.upd u9 (fun h => h))
    have HX5 := Lib.hid (HX4.out.upd u9 (fun h => h))
    have HQ5 := Lib.hid (HQ4.out.upd u9 (fun h => h))
    have HE5 := Lib.hid (HE4.out.upd u9 (fun h => h))
    have HU5 := Lib.hid (HU4.out.nn u9)
    have H9 := Lib.hid (And.intro hr9 (show ∀ ad', A9 = some ad' → q8 < ad'.block from fun ad' e => by have := hA9 ad' e; have := HE4.out.lt; omega))
    clear hr9 u9 hA9 HP4 HX4 HQ4 HE4 HU4 HWO x3 hk0
    have x3 : w5.cell? ⟨w.heap.size, 3, none⟩ = some (.slice (some ad) L.length cap) := (HP5.out.cell 3).trans rfl
    have yf := HP5.out.frozen 3
    go_upto_region 6 with (fail)
    have hu6 : Upd w5 (w5.setCell ⟨w.heap.size, 3, none⟩ (.slice A9 N.length c9)) (fun i => i = w.heap.size) := (Upd.refl w5 _).set _ _ (.inl rfl)
    have HP6 := Lib.hid (HP5.out.set3 (.slice A9 N.length c9))
    have HX6 := Lib.hid (HX5.out.upd hu6 (fun e => by omega))
    have HQ6 := Lib.hid (HQ5.out.upd hu6 (fun e => by omega))
    have HE6 := Lib.hid (HE5.out.upd hu6 (fun e => by have := HQ8.out; omega))
    have HU6 := Lib.hid (HU5.out.on hu6 (Nat.le_refl _))
    have HR6 := Lib.hid (H9.out.1.away hu6 (fun ad' e k => by have := H9.out.2 ad' e; have := HQ8.out; omega))
    have HA9 := Lib.hid H9.out.2
    clear hu6 x3 yf HP5 HX5 HQ5 HE5 HU5 H9
    generalize w5.setCell ⟨w.heap.size, 3, none⟩ (.slice A9 N.length c9) = w6 at *
    have HRL := Lib.hid (HB.out.nn HU6.out)
    have hlx : Fl.length ≤ 5000 := by omega
    refine region_tree 8 [7, 6, 5, 4, 3, 2, 1, 0] (by kernel_rfl) (fun w' => ∃ z : UW w6, w' = z.val) (by kernel_rfl) (fun _ _ d _ _ h => by cases d <;> exact h) ⟨⟨w6.drew, (Upd.refl _ _).drew⟩, rfl⟩ ?_
    intro hR
    have HRG := Lib.hid hR
    clear hR
    have X0 := fun z : UW w6 => z.cell ((HP6.out.cell 4).trans rfl : w6.cell? ⟨w.heap.size, 4, none⟩ = some (.slice B Fl.length capB))
    have X1 := fun z : UW w6 => z.cell ((HE6.out.cell 0).trans rfl : w6.cell? ⟨q8, 0, none⟩ = some (.int .i64 x.id))
    have X2 := fun z : UW w6 => z.cell ((HE6.out.cell 1).trans rfl : w6.cell? ⟨q8, 1, none⟩ = some (.string x.dest))
    have X3 := fun z : UW w6 => z.cell ((HE6.out.cell 2).trans rfl : w6.cell? ⟨q8, 2, none⟩ = some (.int .i64 x.pri))
    have X4 := fun z : UW w6 => z.cell ((HE6.out.cell 3).trans rfl : w6.cell? ⟨q8, 3, none⟩ = some (.int .i64 x.at_))
    refine WA.seg HRG.out 6 [1, 2, 4] rfl (by kernel_rfl) ?_
    simp only [opsAt_cons, opsAt_nil, List.getElem?_toArray, List.getElem?_cons_zero, List.getElem?_cons_succ, consO_some]
    repeat (first | go_big_quiet_skip | (go_big_quiet_want; go_big_quiet_op; go_big_quiet_on))
    refine wpQuiet_nil ?_
    clear X0 X1 X2 X3 X4
    have HD0 := Lib.hid (show Upd w6 w6.drew Nope from (Upd.refl _ _).drew)
    have HRD := Lib.hid ((HRL.out.nn HD0.out))
    generalize w6.drew = wd at *
    refine WA.two HRG.out 5 0 5 rfl (by kernel_rfl) ?_ ?_
    all_goals simp only [opsAt_cons, opsAt_nil, List.getElem?_toArray, List.getElem?_cons_zero, List.getElem?_cons_succ, consO_some]
    · go_wp2_with fail
      have HRA := Lib.hid (RowE.first (T := 39) wd)
      generalize wd.alloc (.cells #[] 39) = wa at *
      refine ⟨⟨⟨wa, HD0.out.nn HRA.out.upd⟩, rfl⟩, ?_⟩
      refine WA.two HRG.out 4 3 5 rfl (by kernel_rfl) ?_ ?_
      all_goals simp only [opsAt_cons, opsAt_nil, List.getElem?_toArray, List.getElem?_cons_zero, List.getElem?_cons_succ, consO_some]
      · obtain ⟨v4, wb, h1, hrb, _, _⟩ := HRA.out.app ek39 (l := Fl) (c := capB) ((HRD.out.nn HRA.out.upd).rd) HRD.out.nil (by simp; omega)
        rw [List.nil_append] at hrb
        have HRB := Lib.hid hrb
        clear hrb
        go_wp2_with (at_builtin; refine wpList_append_eq _ _ rfl rfl h1 rfl rfl rfl ?_)
        clear h1
        refine ⟨⟨⟨wb, HD0.out.nn HRB.out.upd⟩, rfl⟩, ?_⟩
        refine WA.one HRG.out 3 5 rfl (by kernel_rfl) ?_
        simp only [opsAt_cons, opsAt_nil, List.getElem?_toArray, List.getElem?_cons_zero, List.getElem?_cons_succ, consO_some]
        go_wp2_with fail
        have HRX := Lib.hid (HRB.out.with_ x)
        generalize hq : wb.heap.size = qn at *
        clear hq
        generalize wb.alloc (.cells #[.int .i64 x.id, .string x.dest, .int .i64 x.pri, .int .i64 x.at_] 39) = wc at *
        refine ⟨⟨⟨wc, HD0.out.nn HRX.out.row.upd⟩, rfl⟩, ?_⟩
        obtain ⟨v6, we, h1, hre, _, _⟩ := HRX.out.row.app ek39 (l := [x]) (c := 1) HRX.out.one (by intro h; cases h) (by simp; omega)
        have HROW := Lib.hid hre
        clear hre
        refine WA.one HRG.out 2 6 rfl (by kernel_rfl) ?_
        simp only [opsAt_cons, opsAt_nil, List.getElem?_toArray, List.getElem?_cons_zero, List.getElem?_cons_succ, consO_some]
        go_wp2_with (at_builtin; refine wpList_append_eq _ _ rfl rfl h1 rfl rfl rfl ?_)
        clear h1 HRX HRB HRA
        refine ⟨⟨⟨we, HD0.out.nn HROW.out.upd⟩, rfl⟩, ?_⟩
        have HPE := Lib.hid (HP6.out.upd (HD0.out.nn HROW.out.upd) (fun h => h))
        have HWE := Lib.hid (HD0.out.nn HROW.out.upd)
        obtain ⟨A5, c5, e5, hr5, hA5⟩ := HROW.out.re
        subst e5
        have H5 := Lib.hid (And.intro hr5 (show ∀ ad, A5 = some ad → w6.heap.size ≤ ad.block from fun ad e => by have := hA5 ad e; have := HD0.out.size; omega))
        have x4 : we.cell? ⟨w.heap.size, 4, none⟩ = some (.slice B Fl.length capB) := (HPE.out.cell 4).trans rfl
        have yf := HPE.out.frozen 4
        clear hr5 hA5 HROW HRD
        generalize hMM : Fl ++ [x] = MM at *
        have HMM := Lib.hid hMM
        clear hMM
        refine WA.seg HRG.out 1 [7] rfl (by kernel_rfl) ?_
        simp only [opsAt_cons, opsAt_nil, List.getElem?_toArray, List.getElem?_cons_zero, List.getElem?_cons_succ, consO_some]
        repeat (first | go_big_quiet_skip | (go_big_quiet_want; go_big_quiet_op; go_big_quiet_on))
        refine wpQuiet_nil ?_
        refine WA.fin (by kernel_rfl) ?_
        simp only [opsAt_cons, opsAt_nil, List.getElem?_toArray, List.getElem?_cons_zero, List.getElem?_cons_succ, consO_some]
        go_upto_region 7 with (fail)
        have HPF := Lib.hid (HPE.out.set4 (.slice A5 MM.length c5))
        have huf : Upd we (we.setCell ⟨w.heap.size, 4, none⟩ (.slice A5 MM.length c5)) (fun i => i = w.heap.size) := (Upd.refl we _).set _ _ (.inl rfl)
        have HUF := Lib.hid huf
        clear x4 yf huf
        generalize we.setCell ⟨w.heap.size, 4, none⟩ (.slice A5 MM.length c5) = wf at *
        have HX7 := Lib.hid ((HX6.out.upd HWE.out (fun h => h)).upd HUF.out (fun e => by omega))
        have HQ7 := Lib.hid ((HQ6.out.upd HWE.out (fun h => h)).upd HUF.out (fun e => by omega))
        have HE7 := Lib.hid ((HE6.out.upd HWE.out (fun h => h)).upd HUF.out (fun e => by have := HQ8.out; omega))
        have HU7 := Lib.hid (show Upd w wf Nope from (HU6.out.nn HWE.out).on (g := w.heap.size) HUF.out (Nat.le_refl _))
        have HR7 := Lib.hid ((HR6.out.nn HWE.out).away HUF.out (fun ad' e k => by have := HA9.out ad' e; have := HQ8.out; omega))
        have HF7 := Lib.hid (H5.out.1.away HUF.out (fun ad' e k => by have := H5.out.2 ad' e; have := HE6.out.lt; have := HQ8.out; omega))
        have HUD := Lib.hid (show Upd wf wf.drew (fun i => i = w.heap.size + 1 ∨ i = w.heap.size + 2) from (Upd.refl _ _).drew)
        refine region_seq [([0, 1], 2), ([], 3)] [4] (by kernel_rfl) (fun w' => ∃ z : UG wf (fun i => i = w.heap.size + 1 ∨ i = w.heap.size + 2), w' = z.val) (by kernel_rfl) (fun _ _ d _ _ h => by cases d <;> exact h) ⟨⟨wf.drew, HUD.out⟩, rfl⟩ ?_
        have X0 := fun z : UG wf (fun i => i = w.heap.size + 1 ∨ i = w.heap.size + 2) => z.cell ((HPF.out.cell 0).trans rfl : wf.cell? ⟨w.heap.size, 0, none⟩ = some (.int .i64 age)) (by simp)
        have X1 := fun z : UG wf (fun i => i = w.heap.size + 1 ∨ i = w.heap.size + 2) => z.cell ((HPF.out.cell 1).trans rfl : wf.cell? ⟨w.heap.size, 1, none⟩ = some (.int .i64 limit)) (by simp)
        have X2 := fun z : UG wf (fun i => i = w.heap.size + 1 ∨ i = w.heap.size + 2) => z.cell ((HPF.out.cell 2).trans rfl : wf.cell? ⟨w.heap.size, 2, none⟩ = some (.int .i64 room)) (by simp)
        have X3 := fun z : UG wf (fun i => i = w.heap.size + 1 ∨ i = w.heap.size + 2) => z.cell ((HPF.out.cell 3).trans rfl : wf.cell? ⟨w.heap.size, 3, none⟩ = some (.slice A9 N.length c9)) (by simp)
        have X4 := fun z : UG wf (fun i => i = w.heap.size + 1 ∨ i = w.heap.size + 2) => z.cell ((HPF.out.cell 4).trans rfl : wf.cell? ⟨w.heap.size, 4, none⟩ = some (.slice A5 MM.length c5)) (by simp)
        have Y0 := fun z : UG wf (fun i => i = w.heap.size + 1 ∨ i = w.heap.size + 2) => z.cell ((HE7.out.cell 0).trans rfl : wf.cell? ⟨q8, 0, none⟩ = some (.int .i64 x.id)) (by have := HQ8.out; simp; omega)
        have Y1 := fun z : UG wf (fun i => i = w.heap.size + 1 ∨ i = w.heap.size + 2) => z.cell ((HE7.out.cell 1).trans rfl : wf.cell? ⟨q8, 1, none⟩ = some (.string x.dest)) (by have := HQ8.out; simp; omega)
        have Y2 := fun z : UG wf (fun i => i = w.heap.size + 1 ∨ i = w.heap.size + 2) => z.cell ((HE7.out.cell 2).trans rfl : wf.cell? ⟨q8, 2, none⟩ = some (.int .i64 x.pri)) (by have := HQ8.out; simp; omega)
        have Y3 := fun z : UG wf (fun i => i = w.heap.size + 1 ∨ i = w.heap.size + 2) => z.cell ((HE7.out.cell 3).trans rfl : wf.cell? ⟨q8, 3, none⟩ = some (.int .i64 x.at_)) (by have := HQ8.out; simp; omega)
        simp only [segsAt_cons, segsAt_nil, opsAt_cons, opsAt_nil, List.getElem?_toArray, List.getElem?_cons_zero, List.getElem?_cons_succ, consO_some, pairO_some]
        refine wpS_seg ?_
        repeat (first | go_big_quiet_skip | (go_big_quiet_want; go_big_quiet_op; go_big_quiet_on))
        refine wpQuiet_nil ?_
        clear X0 X1 X2 X3 X4 Y0 Y1 Y2 Y3
        have HX8 := Lib.hid (show Blk wf.drew _ _ _ from HX7.out.drew)
        have HQ8b := Lib.hid (show Blk wf.drew _ _ _ from HQ7.out.drew)
        generalize wf.drew = w7 at *
        have y0 := HQ8b.out.frozen 0
        have y1 := HQ8b.out.frozen 1
        have y2 := HQ8b.out.frozen 2
        have y3 := HQ8b.out.frozen 3
        have y4 := HQ8b.out.frozen 4
        have q0 : w7.cell? ⟨w.heap.size + 1, 0, none⟩ = some (.int .i64 0) := (HQ8b.out.cell 0).trans rfl
        have q1 : w7.cell? ⟨w.heap.size + 1, 1, none⟩ = some (.int .i64 0) := (HQ8b.out.cell 1).trans rfl
        have q2 : w7.cell? ⟨w.heap.size + 1, 2, none⟩ = some (.int .i64 0) := (HQ8b.out.cell 2).trans rfl
        have q3 : w7.cell? ⟨w.heap.size + 1, 3, none⟩ = some (.slice none 0 0) := (HQ8b.out.cell 3).trans rfl
        have q4 : w7.cell? ⟨w.heap.size + 1, 4, none⟩ = some (.slice none 0 0) := (HQ8b.out.cell 4).trans rfl
        go_wp2_with fail
        have hq9 := HQ8b.out.put5 (.int .i64 age) (.int .i64 limit) (.int .i64 room) (.slice A9 N.length c9) (.slice A5 MM.length c5)
        have hu9 := Upd.put5 w7 (w.heap.size + 1) (.int .i64 age) (.int .i64 limit) (.int .i64 room) (.slice A9 N.length c9) (.slice A5 MM.length c5)
        have hx9 := HX8.out.upd hu9 (fun e => by omega)
        have HUE := Lib.hid (HUD.out.then_ (hu9.mono (fun i _ e => .inl e)))
        clear y0 y1 y2 y3 y4 q0 q1 q2 q3 q4 hu9
        generalize ((((w7.setCell ⟨w.heap.size + 1, 0, none⟩ (.int .i64 age)).setCell ⟨w.heap.size + 1, 1, none⟩ (.int .i64 limit)).setCell ⟨w.heap.size + 1, 2, none⟩ (.int .i64 room)).setCell ⟨w.heap.size + 1, 3, none⟩ (.slice A9 N.length c9)).setCell ⟨w.heap.size + 1, 4, none⟩ (.slice A5 MM.length c5) = w8 at *
        refine ⟨⟨⟨w8, HUE.out⟩, rfl⟩, ?_⟩
        refine wpS_seg ?_
        refine wpQuiet_nil ?_
        have s0 := hx9.frozen 0
        have s1 := hx9.frozen 1
        have s2 := hx9.frozen 2
        have s3 := hx9.frozen 3
        have t0 : w8.cell? ⟨w.heap.size + 2, 0, none⟩ = some (.int .i64 0) := (hx9.cell 0).trans rfl
        have t1 : w8.cell? ⟨w.heap.size + 2, 1, none⟩ = some (.string ⟨#[]⟩) := (hx9.cell 1).trans rfl
        have t2 : w8.cell? ⟨w.heap.size + 2, 2, none⟩ = some (.int .i64 0) := (hx9.cell 2).trans rfl
        have t3 : w8.cell? ⟨w.heap.size + 2, 3, none⟩ = some (.int .i64 0) := (hx9.cell 3).trans rfl
        go_wp2_with fail
        have hxa := hx9.put4 (.int .i64 x.id) (.string x.dest) (.int .i64 x.pri) (.int .i64 x.at_)
        have hua := Upd.put4 w8 (w.heap.size + 2) (.int .i64 x.id) (.string x.dest) (.int .i64 x.pri) (.int .i64 x.at_)
        have hqa := hq9.upd hua (fun e => by omega)
        have HUA := Lib.hid (HUE.out.then_ (hua.mono (fun i _ e => .inr e)))
        clear s0 s1 s2 s3 t0 t1 t2 t3 hua hx9 hq9
        generalize (((w8.setCell ⟨w.heap.size + 2, 0, none⟩ (.int .i64 x.id)).setCell ⟨w.heap.size + 2, 1, none⟩ (.string x.dest)).setCell ⟨w.heap.size + 2, 2, none⟩ (.int .i64 x.pri)).setCell ⟨w.heap.size + 2, 3, none⟩ (.int .i64 x.at_) = w9 at *
        refine ⟨⟨⟨w9, HUA.out⟩, rfl⟩, ?_⟩
        refine wpS_last ?_
        repeat (first | go_big_quiet_skip | (go_big_quiet_want; go_big_quiet_op; go_big_quiet_on))
        refine wpQuiet_nil ?_
        go_wp2_with fail
        have r0 : w9.cell? ⟨w.heap.size + 1, 0, none⟩ = some (.int .i64 age) := (hqa.cell 0).trans rfl
        have r1 : w9.cell? ⟨w.heap.size + 1, 1, none⟩ = some (.int .i64 limit) := (hqa.cell 1).trans rfl
        have r2 : w9.cell? ⟨w.heap.size + 1, 2, none⟩ = some (.int .i64 room) := (hqa.cell 2).trans rfl
        have r3 : w9.cell? ⟨w.heap.size + 1, 3, none⟩ = some (.slice A9 N.length c9) := (hqa.cell 3).trans rfl
        have r4 : w9.cell? ⟨w.heap.size + 1, 4, none⟩ = some (.slice A5 MM.length c5) := (hqa.cell 4).trans rfl
        have z0 : w9.cell? ⟨w.heap.size + 2, 0, none⟩ = some (.int .i64 x.id) := (hxa.cell 0).trans rfl
        have z1 : w9.cell? ⟨w.heap.size + 2, 1, none⟩ = some (.string x.dest) := (hxa.cell 1).trans rfl
        have z2 : w9.cell? ⟨w.heap.size + 2, 2, none⟩ = some (.int .i64 x.pri) := (hxa.cell 2).trans rfl
        have z3 : w9.cell? ⟨w.heap.size + 2, 3, none⟩ = some (.int .i64 x.at_) := (hxa.cell 3).trans rfl
        refine bodyPost_ret (v := .tuple #[.agg #[.int .i64 age, .int .i64 limit, .int .i64 room, .slice A9 N.length c9, .slice A5 MM.length c5], .agg #[.int .i64 x.id, .string x.dest, .int .i64 x.pri, .int .i64 x.at_], .bool true]) (by simp [results, Try.results14, go_sem, r0, r1, r2, r3, r4, z0, z1, z2, z3]) rfl ?_
        refine ⟨fun h => (by rw [HT.out] at h; cases h), fun x' hx' => ?_⟩
        rw [HT.out] at hx'
        cases hx'
        rw [HNN.out, HMM.out]
        exact ⟨A9, A5, c9, c5, rfl, HR7.out.away HUA.out (fun ad' e k => by have := HA9.out ad' e; have := HQ8.out; omega), HF7.out.away HUA.out (fun ad' e k => by have := H5.out.2 ad' e; have := HE6.out.lt; have := HQ8.out; omega), HU7.out.trans HUA.out (fun _ _ h => h) (fun i hi e => by omega), .inr fun ad' e => by have := HA9.out ad' e; have := HQ8.out; omega, .inr fun ad' e => by have := H5.out.2 ad' e; have := HU6.out.size; omega⟩
      · go_wp2_with fail
        have HRX := Lib.hid (HRA.out.with_ x)
        generalize hq : wa.heap.size = qn at *
        clear hq
        generalize wa.alloc (.cells #[.int .i64 x.id, .string x.dest, .int .i64 x.pri, .int .i64 x.at_] 39) = wb at *
        refine ⟨⟨⟨wb, HD0.out.nn HRX.out.row.upd⟩, rfl⟩, ?_⟩
        obtain ⟨v4, wc, h1, hrc⟩ := HRX.out.app ek39 (l := Fl) (c := capB) ((HRD.out.nn HRX.out.row.upd).rd) HRD.out.nil (by simp; omega)
        rw [List.nil_append] at hrc
        have HRC := Lib.hid hrc
        clear hrc
        refine WA.one HRG.out 3 3 rfl (by kernel_rfl) ?_
        simp only [opsAt_cons, opsAt_nil, List.getElem?_toArray, List.getElem?_cons_zero, List.getElem?_cons_succ, consO_some]
        go_wp2_with (at_builtin; refine wpList_append_eq _ _ rfl rfl h1 rfl rfl rfl ?_)
        clear h1
        refine ⟨⟨⟨wc, HD0.out.nn HRC.out.row.upd⟩, rfl⟩, ?_⟩
        obtain ⟨v6, we, h1, hre, _, _⟩ := HRC.out.row.app ek39 (l := [x]) (c := 1) HRC.out.one (by intro h; cases h) (by simp; omega)
        have HROW := Lib.hid hre
        clear hre
        refine WA.one HRG.out 2 6 rfl (by kernel_rfl) ?_
        simp only [opsAt_cons, opsAt_nil, List.getElem?_toArray, List.getElem?_cons_zero, List.getElem?_cons_succ, consO_some]
        go_wp2_with (at_builtin; refine wpList_append_eq _ _ rfl rfl h1 rfl rfl rfl ?_)
        clear h1 HRX HRC HRA
        refine ⟨⟨⟨we, HD0.out.nn HROW.out.upd⟩, rfl⟩, ?_⟩
        have HPE := Lib.hid (HP6.out.upd (HD0.out.nn HROW.out.upd) (fun h => h))
        have HWE := Lib.hid (HD0.out.nn HROW.out.upd)
        obtain ⟨A5, c5, e5, hr5, hA5⟩ := HROW.out.re
        subst e5
        have H5 := Lib.hid (And.intro hr5 (show ∀ ad, A5 = some ad → w6.heap.size ≤ ad.block from fun ad e => by have := hA5 ad e; have := HD0.out.size; omega))
        have x4 : we.cell? ⟨w.heap.size, 4, none⟩ = some (.slice B Fl.length capB) := (HPE.out.cell 4).trans rfl
        have yf := HPE.out.frozen 4
        clear hr5 hA5 HROW HRD
        generalize hMM : Fl ++ [x] = MM at *
        have HMM := Lib.hid hMM
        clear hMM
        refine WA.seg HRG.out 1 [7] rfl (by kernel_rfl) ?_
        simp only [opsAt_cons, opsAt_nil, List.getElem?_toArray, List.getElem?_cons_zero, List.getElem?_cons_succ, consO_some]
        repeat (first | go_big_quiet_skip | (go_big_quiet_want; go_big_quiet_op; go_big_quiet_on))
        refine wpQuiet_nil ?_
        refine WA.fin (by kernel_rfl) ?_
        simp only [opsAt_cons, opsAt_nil, List.getElem?_toArray, List.getElem?_cons_zero, List.getElem?_cons_succ, consO_some]
        go_upto_region 7 with (fail)
        have HPF := Lib.hid (HPE.out.set4 (.slice A5 MM.length c5))
        have huf : Upd we (we.setCell ⟨w.heap.size, 4, none⟩ (.slice A5 MM.length c5)) (fun i => i = w.heap.size) := (Upd.refl we _).set _ _ (.inl rfl)
        have HUF := Lib.hid huf
        clear x4 yf huf
        generalize we.setCell ⟨w.heap.size, 4, none⟩ (.slice A5 MM.length c5) = wf at *
        have HX7 := Lib.hid ((HX6.out.upd HWE.out (fun h => h)).upd HUF.out (fun e => by omega))
        have HQ7 := Lib.hid ((HQ6.out.upd HWE.out (fun h => h)).upd HUF.out (fun e => by omega))
        have HE7 := Lib.hid ((HE6.out.upd HWE.out (fun h => h)).upd HUF.out (fun e => by have := HQ8.out; omega))
        have HU7 := Lib.hid (show Upd w wf Nope from (HU6.out.nn HWE.out).on (g := w.heap.size) HUF.out (Nat.le_refl _))
        have HR7 := Lib.hid ((HR6.out.nn HWE.out).away HUF.out (fun ad' e k => by have := HA9.out ad' e; have := HQ8.out; omega))
        have HF7 := Lib.hid (H5.out.1.away HUF.out (fun ad' e k => by have := H5.out.2 ad' e; have := HE6.out.lt; have := HQ8.out; omega))
        have HUD := Lib.hid (show Upd wf wf.drew (fun i => i = w.heap.size + 1 ∨ i = w.heap.size + 2) from (Upd.refl _ _).drew)
        refine region_seq [([0, 1], 2), ([], 3)] [4] (by kernel_rfl) (fun w' => ∃ z : UG wf (fun i => i = w.heap.size + 1 ∨ i = w.heap.size + 2), w' = z.val) (by kernel_rfl) (fun _ _ d _ _ h => by cases d <;> exact h) ⟨⟨wf.drew, HUD.out⟩, rfl⟩ ?_
        have X0 := fun z : UG wf (fun i => i = w.heap.size + 1 ∨ i = w.heap.size + 2) => z.cell ((HPF.out.cell 0).trans rfl : wf.cell? ⟨w.heap.size, 0, none⟩ = some (.int .i64 age)) (by simp)
        have X1 := fun z : UG wf (fun i => i = w.heap.size + 1 ∨ i = w.heap.size + 2) => z.cell ((HPF.out.cell 1).trans rfl : wf.cell? ⟨w.heap.size, 1, none⟩ = some (.int .i64 limit)) (by simp)
        have X2 := fun z : UG wf (fun i => i = w.heap.size + 1 ∨ i = w.heap.size + 2) => z.cell ((HPF.out.cell 2).trans rfl : wf.cell? ⟨w.heap.size, 2, none⟩ = some (.int .i64 room)) (by simp)
        have X3 := fun z : UG wf (fun i => i = w.heap.size + 1 ∨ i = w.heap.size + 2) => z.cell ((HPF.out.cell 3).trans rfl : wf.cell? ⟨w.heap.size, 3, none⟩ = some (.slice A9 N.length c9)) (by simp)
        have X4 := fun z : UG wf (fun i => i = w.heap.size + 1 ∨ i = w.heap.size + 2) => z.cell ((HPF.out.cell 4).trans rfl : wf.cell? ⟨w.heap.size, 4, none⟩ = some (.slice A5 MM.length c5)) (by simp)
        have Y0 := fun z : UG wf (fun i => i = w.heap.size + 1 ∨ i = w.heap.size + 2) => z.cell ((HE7.out.cell 0).trans rfl : wf.cell? ⟨q8, 0, none⟩ = some (.int .i64 x.id)) (by have := HQ8.out; simp; omega)
        have Y1 := fun z : UG wf (fun i => i = w.heap.size + 1 ∨ i = w.heap.size + 2) => z.cell ((HE7.out.cell 1).trans rfl : wf.cell? ⟨q8, 1, none⟩ = some (.string x.dest)) (by have := HQ8.out; simp; omega)
        have Y2 := fun z : UG wf (fun i => i = w.heap.size + 1 ∨ i = w.heap.size + 2) => z.cell ((HE7.out.cell 2).trans rfl : wf.cell? ⟨q8, 2, none⟩ = some (.int .i64 x.pri)) (by have := HQ8.out; simp; omega)
        have Y3 := fun z : UG wf (fun i => i = w.heap.size + 1 ∨ i = w.heap.size + 2) => z.cell ((HE7.out.cell 3).trans rfl : wf.cell? ⟨q8, 3, none⟩ = some (.int .i64 x.at_)) (by have := HQ8.out; simp; omega)
        simp only [segsAt_cons, segsAt_nil, opsAt_cons, opsAt_nil, List.getElem?_toArray, List.getElem?_cons_zero, List.getElem?_cons_succ, consO_some, pairO_some]
        refine wpS_seg ?_
        repeat (first | go_big_quiet_skip | (go_big_quiet_want; go_big_quiet_op; go_big_quiet_on))
        refine wpQuiet_nil ?_
        clear X0 X1 X2 X3 X4 Y0 Y1 Y2 Y3
        have HX8 := Lib.hid (show Blk wf.drew _ _ _ from HX7.out.drew)
        have HQ8b := Lib.hid (show Blk wf.drew _ _ _ from HQ7.out.drew)
        generalize wf.drew = w7 at *
        have y0 := HQ8b.out.frozen 0
        have y1 := HQ8b.out.frozen 1
        have y2 := HQ8b.out.frozen 2
        have y3 := HQ8b.out.frozen 3
        have y4 := HQ8b.out.frozen 4
        have q0 : w7.cell? ⟨w.heap.size + 1, 0, none⟩ = some (.int .i64 0) := (HQ8b.out.cell 0).trans rfl
        have q1 : w7.cell? ⟨w.heap.size + 1, 1, none⟩ = some (.int .i64 0) := (HQ8b.out.cell 1).trans rfl
        have q2 : w7.cell? ⟨w.heap.size + 1, 2, none⟩ = some (.int .i64 0) := (HQ8b.out.cell 2).trans rfl
        have q3 : w7.cell? ⟨w.heap.size + 1, 3, none⟩ = some (.slice none 0 0) := (HQ8b.out.cell 3).trans rfl
        have q4 : w7.cell? ⟨w.heap.size + 1, 4, none⟩ = some (.slice none 0 0) := (HQ8b.out.cell 4).trans rfl
        go_wp2_with fail
        have hq9 := HQ8b.out.put5 (.int .i64 age) (.int .i64 limit) (.int .i64 room) (.slice A9 N.length c9) (.slice A5 MM.length c5)
        have hu9 := Upd.put5 w7 (w.heap.size + 1) (.int .i64 age) (.int .i64 limit) (.int .i64 room) (.slice A9 N.length c9) (.slice A5 MM.length c5)
        have hx9 := HX8.out.upd hu9 (fun e => by omega)
        have HUE := Lib.hid (HUD.out.then_ (hu9.mono (fun i _ e => .inl e)))
        clear y0 y1 y2 y3 y4 q0 q1 q2 q3 q4 hu9
        generalize ((((w7.setCell ⟨w.heap.size + 1, 0, none⟩ (.int .i64 age)).setCell ⟨w.heap.size + 1, 1, none⟩ (.int .i64 limit)).setCell ⟨w.heap.size + 1, 2, none⟩ (.int .i64 room)).setCell ⟨w.heap.size + 1, 3, none⟩ (.slice A9 N.length c9)).setCell ⟨w.heap.size + 1, 4, none⟩ (.slice A5 MM.length c5) = w8 at *
        refine ⟨⟨⟨w8, HUE.out⟩, rfl⟩, ?_⟩
        refine wpS_seg ?_
        refine wpQuiet_nil ?_
        have s0 := hx9.frozen 0
        have s1 := hx9.frozen 1
        have s2 := hx9.frozen 2
        have s3 := hx9.frozen 3
        have t0 : w8.cell? ⟨w.heap.size + 2, 0, none⟩ = some (.int .i64 0) := (hx9.cell 0).trans rfl
        have t1 : w8.cell? ⟨w.heap.size + 2, 1, none⟩ = some (.string ⟨#[]⟩) := (hx9.cell 1).trans rfl
        have t2 : w8.cell? ⟨w.heap.size + 2, 2, none⟩ = some (.int .i64 0) := (hx9.cell 2).trans rfl
        have t3 : w8.cell? ⟨w.heap.size + 2, 3, none⟩ = some (.int .i64 0) := (hx9.cell 3).trans rfl
        go_wp2_with fail
        have hxa := hx9.put4 (.int .i64 x.id) (.string x.dest) (.int .i64 x.pri) (.int .i64 x.at_)
        have hua := Upd.put4 w8 (w.heap.size + 2) (.int .i64 x.id) (.string x.dest) (.int .i64 x.pri) (.int .i64 x.at_)
        have hqa := hq9.upd hua (fun e => by omega)
        have HUA := Lib.hid (HUE.out.then_ (hua.mono (fun i _ e => .inr e)))
        clear s0 s1 s2 s3 t0 t1 t2 t3 hua hx9 hq9
        generalize (((w8.setCell ⟨w.heap.size + 2, 0, none⟩ (.int .i64 x.id)).setCell ⟨w.heap.size + 2, 1, none⟩ (.string x.dest)).setCell ⟨w.heap.size + 2, 2, none⟩ (.int .i64 x.pri)).setCell ⟨w.heap.size + 2, 3, none⟩ (.int .i64 x.at_) = w9 at *
        refine ⟨⟨⟨w9, HUA.out⟩, rfl⟩, ?_⟩
        refine wpS_last ?_
        repeat (first | go_big_quiet_skip | (go_big_quiet_want; go_big_quiet_op; go_big_quiet_on))
        refine wpQuiet_nil ?_
        go_wp2_with fail
        have r0 : w9.cell? ⟨w.heap.size + 1, 0, none⟩ = some (.int .i64 age) := (hqa.cell 0).trans rfl
        have r1 : w9.cell? ⟨w.heap.size + 1, 1, none⟩ = some (.int .i64 limit) := (hqa.cell 1).trans rfl
        have r2 : w9.cell? ⟨w.heap.size + 1, 2, none⟩ = some (.int .i64 room) := (hqa.cell 2).trans rfl
        have r3 : w9.cell? ⟨w.heap.size + 1, 3, none⟩ = some (.slice A9 N.length c9) := (hqa.cell 3).trans rfl
        have r4 : w9.cell? ⟨w.heap.size + 1, 4, none⟩ = some (.slice A5 MM.length c5) := (hqa.cell 4).trans rfl
        have z0 : w9.cell? ⟨w.heap.size + 2, 0, none⟩ = some (.int .i64 x.id) := (hxa.cell 0).trans rfl
        have z1 : w9.cell? ⟨w.heap.size + 2, 1, none⟩ = some (.string x.dest) := (hxa.cell 1).trans rfl
        have z2 : w9.cell? ⟨w.heap.size + 2, 2, none⟩ = some (.int .i64 x.pri) := (hxa.cell 2).trans rfl
        have z3 : w9.cell? ⟨w.heap.size + 2, 3, none⟩ = some (.int .i64 x.at_) := (hxa.cell 3).trans rfl
        refine bodyPost_ret (v := .tuple #[.agg #[.int .i64 age, .int .i64 limit, .int .i64 room, .slice A9 N.length c9, .slice A5 MM.length c5], .agg #[.int .i64 x.id, .string x.dest, .int .i64 x.pri, .int .i64 x.at_], .bool true]) (by simp [results, Try.results14, go_sem, r0, r1, r2, r3, r4, z0, z1, z2, z3]) rfl ?_
        refine ⟨fun h => (by rw [HT.out] at h; cases h), fun x' hx' => ?_⟩
        rw [HT.out] at hx'
        cases hx'
        rw [HNN.out, HMM.out]
        exact ⟨A9, A5, c9, c5, rfl, HR7.out.away HUA.out (fun ad' e k => by have := HA9.out ad' e; have := HQ8.out; omega), HF7.out.away HUA.out (fun ad' e k => by have := H5.out.2 ad' e; have := HE6.out.lt; have := HQ8.out; omega), HU7.out.trans HUA.out (fun _ _ h => h) (fun i hi e => by omega), .inr fun ad' e => by have := HA9.out ad' e; have := HQ8.out; omega, .inr fun ad' e => by have := H5.out.2 ad' e; have := HU6.out.size; omega⟩
    · go_wp2_with fail
      have hu1 : Upd wd (wd.alloc (.cells #[.int .i64 x.id, .string x.dest, .int .i64 x.pri, .int .i64 x.at_] 39)) Nope := (Upd.refl _ _).alloc _
      refine ⟨⟨⟨wd.alloc (.cells #[.int .i64 x.id, .string x.dest, .int .i64 x.pri, .int .i64 x.at_] 39), HD0.out.nn hu1⟩, rfl⟩, ?_⟩
      refine WA.one HRG.out 4 0 rfl (by kernel_rfl) ?_
      simp only [opsAt_cons, opsAt_nil, List.getElem?_toArray, List.getElem?_cons_zero, List.getElem?_cons_succ, consO_some]
      go_wp2_with fail
      have HRX := Lib.hid (RowX.first 39 wd x)
      have hsz : (wd.alloc (.cells #[.int .i64 x.id, .string x.dest, .int .i64 x.pri, .int .i64 x.at_] 39)).heap.size = wd.heap.size + 1 := by simp
      try rw [hsz]
      clear hsz hu1
      generalize (wd.alloc (.cells #[.int .i64 x.id, .string x.dest, .int .i64 x.pri, .int .i64 x.at_] 39)).alloc (.cells #[] 39) = wb at *
      refine ⟨⟨⟨wb, HD0.out.nn HRX.out.row.upd⟩, rfl⟩, ?_⟩
      obtain ⟨v4, wc, h1, hrc⟩ := HRX.out.app ek39 (l := Fl) (c := capB) ((HRD.out.nn HRX.out.row.upd).rd) HRD.out.nil (by simp; omega)
      rw [List.nil_append] at hrc
      have HRC := Lib.hid hrc
      clear hrc
      refine WA.one HRG.out 3 3 rfl (by kernel_rfl) ?_
      simp only [opsAt_cons, opsAt_nil, List.getElem?_toArray, List.getElem?_cons_zero, List.getElem?_cons_succ, consO_some]
      go_wp2_with (at_builtin; refine wpList_append_eq _ _ rfl rfl h1 rfl rfl rfl ?_)
      clear h1
      refine ⟨⟨⟨wc, HD0.out.nn HRC.out.row.upd⟩, rfl⟩, ?_⟩
      obtain ⟨v6, we, h1, hre, _, _⟩ := HRC.out.row.app ek39 (l := [x]) (c := 1) HRC.out.one (by intro h; cases h) (by simp; omega)
      have HROW := Lib.hid hre
      clear hre
      refine WA.one HRG.out 2 6 rfl (by kernel_rfl) ?_
      simp only [opsAt_cons, opsAt_nil, List.getElem?_toArray, List.getElem?_cons_zero, List.getElem?_cons_succ, consO_some]
      go_wp2_with (at_builtin; refine wpList_append_eq _ _ rfl rfl h1 rfl rfl rfl ?_)
      clear h1 HRX HRC
      refine ⟨⟨⟨we, HD0.out.nn HROW.out.upd⟩, rfl⟩, ?_⟩
      have HPE := Lib.hid (HP6.out.upd (HD0.out.nn HROW.out.upd) (fun h => h))
      have HWE := Lib.hid (HD0.out.nn HROW.out.upd)
      obtain ⟨A5, c5, e5, hr5, hA5⟩ := HROW.out.re
      subst e5
      have H5 := Lib.hid (And.intro hr5 (show ∀ ad, A5 = some ad → w6.heap.size ≤ ad.block from fun ad e => by have := hA5 ad e; have := HD0.out.size; omega))
      have x4 : we.cell? ⟨w.heap.size, 4, none⟩ = some (.slice B Fl.length capB) := (HPE.out.cell 4).trans rfl
      have yf := HPE.out.frozen 4
      clear hr5 hA5 HROW HRD
      generalize hMM : Fl ++ [x] = MM at *
      have HMM := Lib.hid hMM
      clear hMM
      refine WA.seg HRG.out 1 [7] rfl (by kernel_rfl) ?_
      simp only [opsAt_cons, opsAt_nil, List.getElem?_toArray, List.getElem?_cons_zero, List.getElem?_cons_succ, consO_some]
      repeat (first | go_big_quiet_skip | (go_big_quiet_want; go_big_quiet_op; go_big_quiet_on))
      refine wpQuiet_nil ?_
      refine WA.fin (by kernel_rfl) ?_
      simp only [opsAt_cons, opsAt_nil, List.getElem?_toArray, List.getElem?_cons_zero, List.getElem?_cons_succ, consO_some]
      go_upto_region 7 with (fail)
      have HPF := Lib.hid (HPE.out.set4 (.slice A5 MM.length c5))
      have huf : Upd we (we.setCell ⟨w.heap.size, 4, none⟩ (.slice A5 MM.length c5)) (fun i => i = w.heap.size) := (Upd.refl we _).set _ _ (.inl rfl)
      have HUF := Lib.hid huf
      clear x4 yf huf
      generalize we.setCell ⟨w.heap.size, 4, none⟩ (.slice A5 MM.length c5) = wf at *
      have HX7 := Lib.hid ((HX6.out.upd HWE.out (fun h => h)).upd HUF.out (fun e => by omega))
      have HQ7 := Lib.hid ((HQ6.out.upd HWE.out (fun h => h)).upd HUF.out (fun e => by omega))
      have HE7 := Lib.hid ((HE6.out.upd HWE.out (fun h => h)).upd HUF.out (fun e => by have := HQ8.out; omega))
      have HU7 := Lib.hid (show Upd w wf Nope from (HU6.out.nn HWE.out).on (g := w.heap.size) HUF.out (Nat.le_refl _))
      have HR7 := Lib.hid ((HR6.out.nn HWE.out).away HUF.out (fun ad' e k => by have := HA9.out ad' e; have := HQ8.out; omega))
      have HF7 := Lib.hid (H5.out.1.away HUF.out (fun ad' e k => by have := H5.out.2 ad' e; have := HE6.out.lt; have := HQ8.out; omega))
      have HUD := Lib.hid (show Upd wf wf.drew (fun i => i = w.heap.size + 1 ∨ i = w.heap.size + 2) from (Upd.refl _ _).drew)
      refine region_seq [([0, 1], 2), ([], 3)] [4] (by kernel_rfl) (fun w' => ∃ z : UG wf (fun i => i = w.heap.size + 1 ∨ i = w.heap.size + 2), w' = z.val) (by kernel_rfl) (fun _ _ d _ _ h => by cases d <;> exact h) ⟨⟨wf.drew, HUD.out⟩, rfl⟩ ?_
      have X0 := fun z : UG wf (fun i => i = w.heap.size + 1 ∨ i = w.heap.size + 2) => z.cell ((HPF.out.cell 0).trans rfl : wf.cell? ⟨w.heap.size, 0, none⟩ = some (.int .i64 age)) (by simp)
      have X1 := fun z : UG wf (fun i => i = w.heap.size + 1 ∨ i = w.heap.size + 2) => z.cell ((HPF.out.cell 1).trans rfl : wf.cell? ⟨w.heap.size, 1, none⟩ = some (.int .i64 limit)) (by simp)
      have X2 := fun z : UG wf (fun i => i = w.heap.size + 1 ∨ i = w.heap.size + 2) => z.cell ((HPF.out.cell 2).trans rfl : wf.cell? ⟨w.heap.size, 2, none⟩ = some (.int .i64 room)) (by simp)
      have X3 := fun z : UG wf (fun i => i = w.heap.size + 1 ∨ i = w.heap.size + 2) => z.cell ((HPF.out.cell 3).trans rfl : wf.cell? ⟨w.heap.size, 3, none⟩ = some (.slice A9 N.length c9)) (by simp)
      have X4 := fun z : UG wf (fun i => i = w.heap.size + 1 ∨ i = w.heap.size + 2) => z.cell ((HPF.out.cell 4).trans rfl : wf.cell? ⟨w.heap.size, 4, none⟩ = some (.slice A5 MM.length c5)) (by simp)
      have Y0 := fun z : UG wf (fun i => i = w.heap.size + 1 ∨ i = w.heap.size + 2) => z.cell ((HE7.out.cell 0).trans rfl : wf.cell? ⟨q8, 0, none⟩ = some (.int .i64 x.id)) (by have := HQ8.out; simp; omega)
      have Y1 := fun z : UG wf (fun i => i = w.heap.size + 1 ∨ i = w.heap.size + 2) => z.cell ((HE7.out.cell 1).trans rfl : wf.cell? ⟨q8, 1, none⟩ = some (.string x.dest)) (by have := HQ8.out; simp; omega)
      have Y2 := fun z : UG wf (fun i => i = w.heap.size + 1 ∨ i = w.heap.size + 2) => z.cell ((HE7.out.cell 2).trans rfl : wf.cell? ⟨q8, 2, none⟩ = some (.int .i64 x.pri)) (by have := HQ8.out; simp; omega)
      have Y3 := fun z : UG wf (fun i => i = w.heap.size + 1 ∨ i = w.heap.size + 2) => z.cell ((HE7.out.cell 3).trans rfl : wf.cell? ⟨q8, 3, none⟩ = some (.int .i64 x.at_)) (by have := HQ8.out; simp; omega)
      simp only [segsAt_cons, segsAt_nil, opsAt_cons, opsAt_nil, List.getElem?_toArray, List.getElem?_cons_zero, List.getElem?_cons_succ, consO_some, pairO_some]
      refine wpS_seg ?_
      repeat (first | go_big_quiet_skip | (go_big_quiet_want; go_big_quiet_op; go_big_quiet_on))
      refine wpQuiet_nil ?_
      clear X0 X1 X2 X3 X4 Y0 Y1 Y2 Y3
      have HX8 := Lib.hid (show Blk wf.drew _ _ _ from HX7.out.drew)
      have HQ8b := Lib.hid (show Blk wf.drew _ _ _ from HQ7.out.drew)
      generalize wf.drew = w7 at *
      have y0 := HQ8b.out.frozen 0
      have y1 := HQ8b.out.frozen 1
      have y2 := HQ8b.out.frozen 2
      have y3 := HQ8b.out.frozen 3
      have y4 := HQ8b.out.frozen 4
      have q0 : w7.cell? ⟨w.heap.size + 1, 0, none⟩ = some (.int .i64 0) := (HQ8b.out.cell 0).trans rfl
      have q1 : w7.cell? ⟨w.heap.size + 1, 1, none⟩ = some (.int .i64 0) := (HQ8b.out.cell 1).trans rfl
      have q2 : w7.cell? ⟨w.heap.size + 1, 2, none⟩ = some (.int .i64 0) := (HQ8b.out.cell 2).trans rfl
      have q3 : w7.cell? ⟨w.heap.size + 1, 3, none⟩ = some (.slice none 0 0) := (HQ8b.out.cell 3).trans rfl
      have q4 : w7.cell? ⟨w.heap.size + 1, 4, none⟩ = some (.slice none 0 0) := (HQ8b.out.cell 4).trans rfl
      go_wp2_with fail
      have hq9 := HQ8b.out.put5 (.int .i64 age) (.int .i64 limit) (.int .i64 room) (.slice A9 N.length c9) (.slice A5 MM.length c5)
      have hu9 := Upd.put5 w7 (w.heap.size + 1) (.int .i64 age) (.int .i64 limit) (.int .i64 room) (.slice A9 N.length c9) (.slice A5 MM.length c5)
      have hx9 := HX8.out.upd hu9 (fun e => by omega)
      have HUE := Lib.hid (HUD.out.then_ (hu9.mono (fun i _ e => .inl e)))
      clear y0 y1 y2 y3 y4 q0 q1 q2 q3 q4 hu9
      generalize ((((w7.setCell ⟨w.heap.size + 1, 0, none⟩ (.int .i64 age)).setCell ⟨w.heap.size + 1, 1, none⟩ (.int .i64 limit)).setCell ⟨w.heap.size + 1, 2, none⟩ (.int .i64 room)).setCell ⟨w.heap.size + 1, 3, none⟩ (.slice A9 N.length c9)).setCell ⟨w.heap.size + 1, 4, none⟩ (.slice A5 MM.length c5) = w8 at *
      refine ⟨⟨⟨w8, HUE.out⟩, rfl⟩, ?_⟩
      refine wpS_seg ?_
      refine wpQuiet_nil ?_
      have s0 := hx9.frozen 0
      have s1 := hx9.frozen 1
      have s2 := hx9.frozen 2
      have s3 := hx9.frozen 3
      have t0 : w8.cell? ⟨w.heap.size + 2, 0, none⟩ = some (.int .i64 0) := (hx9.cell 0).trans rfl
      have t1 : w8.cell? ⟨w.heap.size + 2, 1, none⟩ = some (.string ⟨#[]⟩) := (hx9.cell 1).trans rfl
      have t2 : w8.cell? ⟨w.heap.size + 2, 2, none⟩ = some (.int .i64 0) := (hx9.cell 2).trans rfl
      have t3 : w8.cell? ⟨w.heap.size + 2, 3, none⟩ = some (.int .i64 0) := (hx9.cell 3).trans rfl
      go_wp2_with fail
      have hxa := hx9.put4 (.int .i64 x.id) (.string x.dest) (.int .i64 x.pri) (.int .i64 x.at_)
      have hua := Upd.put4 w8 (w.heap.size + 2) (.int .i64 x.id) (.string x.dest) (.int .i64 x.pri) (.int .i64 x.at_)
      have hqa := hq9.upd hua (fun e => by omega)
      have HUA := Lib.hid (HUE.out.then_ (hua.mono (fun i _ e => .inr e)))
      clear s0 s1 s2 s3 t0 t1 t2 t3 hua hx9 hq9
      generalize (((w8.setCell ⟨w.heap.size + 2, 0, none⟩ (.int .i64 x.id)).setCell ⟨w.heap.size + 2, 1, none⟩ (.string x.dest)).setCell ⟨w.heap.size + 2, 2, none⟩ (.int .i64 x.pri)).setCell ⟨w.heap.size + 2, 3, none⟩ (.int .i64 x.at_) = w9 at *
      refine ⟨⟨⟨w9, HUA.out⟩, rfl⟩, ?_⟩
      refine wpS_last ?_
      repeat (first | go_big_quiet_skip | (go_big_quiet_want; go_big_quiet_op; go_big_quiet_on))
      refine wpQuiet_nil ?_
      go_wp2_with fail
      have r0 : w9.cell? ⟨w.heap.size + 1, 0, none⟩ = some (.int .i64 age) := (hqa.cell 0).trans rfl
      have r1 : w9.cell? ⟨w.heap.size + 1, 1, none⟩ = some (.int .i64 limit) := (hqa.cell 1).trans rfl
      have r2 : w9.cell? ⟨w.heap.size + 1, 2, none⟩ = some (.int .i64 room) := (hqa.cell 2).trans rfl
      have r3 : w9.cell? ⟨w.heap.size + 1, 3, none⟩ = some (.slice A9 N.length c9) := (hqa.cell 3).trans rfl
      have r4 : w9.cell? ⟨w.heap.size + 1, 4, none⟩ = some (.slice A5 MM.length c5) := (hqa.cell 4).trans rfl
      have z0 : w9.cell? ⟨w.heap.size + 2, 0, none⟩ = some (.int .i64 x.id) := (hxa.cell 0).trans rfl
      have z1 : w9.cell? ⟨w.heap.size + 2, 1, none⟩ = some (.string x.dest) := (hxa.cell 1).trans rfl
      have z2 : w9.cell? ⟨w.heap.size + 2, 2, none⟩ = some (.int .i64 x.pri) := (hxa.cell 2).trans rfl
      have z3 : w9.cell? ⟨w.heap.size + 2, 3, none⟩ = some (.int .i64 x.at_) := (hxa.cell 3).trans rfl
      refine bodyPost_ret (v := .tuple #[.agg #[.int .i64 age, .int .i64 limit, .int .i64 room, .slice A9 N.length c9, .slice A5 MM.length c5], .agg #[.int .i64 x.id, .string x.dest, .int .i64 x.pri, .int .i64 x.at_], .bool true]) (by simp [results, Try.results14, go_sem, r0, r1, r2, r3, r4, z0, z1, z2, z3]) rfl ?_
      refine ⟨fun h => (by rw [HT.out] at h; cases h), fun x' hx' => ?_⟩
      rw [HT.out] at hx'
      cases hx'
      rw [HNN.out, HMM.out]
      exact ⟨A9, A5, c9, c5, rfl, HR7.out.away HUA.out (fun ad' e k => by have := HA9.out ad' e; have := HQ8.out; omega), HF7.out.away HUA.out (fun ad' e k => by have := H5.out.2 ad' e; have := HE6.out.lt; have := HQ8.out; omega), HU7.out.trans HUA.out (fun _ _ h => h) (fun i hi e => by omega), .inr fun ad' e => by have := HA9.out ad' e; have := HQ8.out; omega, .inr fun ad' e => by have := H5.out.2 ad' e; have := HU6.out.size; omega⟩
end Go.Proofs.Ythpilbooolgkiaa
