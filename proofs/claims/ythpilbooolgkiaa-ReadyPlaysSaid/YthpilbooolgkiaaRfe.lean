/- The reference: Done, Remove, Right. -/
import Derived.Test.YthpilbooolgkiaaRfd
import Derived.Test.YthpilbooolgkiaaFpl
set_option linter.unusedVariables false
set_option linter.unusedSimpArgs false
namespace Go.Proofs.Ythpilbooolgkiaa
open Go.RowKit

/-- The rows of a queue that the reference answers. -/
structure QR (w w' : World) (A B A' B' : Option Addr) (ca cb : Nat) (L Fl : List En) : Prop where
  a : RE w' A' ca L
  b : RE w' B' cb Fl
  u : Upd w w' Nope
  fa : A' = A ∨ ∀ ad, A' = some ad → w.heap.size ≤ ad.block
  fb : B' = B ∨ ∀ ad, B' = some ad → w.heap.size ≤ ad.block
def QRes (w : World) (age limit room : Int) (A B : Option Addr) (L Fl : List En) (v : Value) (e : Ending) (w' : World) : Prop :=
  ∃ A' B' ca cb, e = .returned (.tuple #[.agg #[.int .i64 age, .int .i64 limit, .int .i64 room, .slice A' L.length ca, .slice B' Fl.length cb], v]) ∧ QR w w' A B A' B' ca cb L Fl
theorem Blk.put5 {w : World} {q : Nat} {a b c d e : Value} {T : TypeId} (h : Blk w q #[a, b, c, d, e] T) (v0 v1 v2 v3 v4 : Value) : Blk (((((w.setCell ⟨q, 0, none⟩ v0).setCell ⟨q, 1, none⟩ v1).setCell ⟨q, 2, none⟩ v2).setCell ⟨q, 3, none⟩ v3).setCell ⟨q, 4, none⟩ v4) q #[v0, v1, v2, v3, v4] T := by
  have h0 := ((((h.set 0 v0).set 1 v1).set 2 v2).set 3 v3).set 4 v4
  have e : ((((#[a, b, c, d, e].setIfInBounds 0 v0).setIfInBounds 1 v1).setIfInBounds 2 v2).setIfInBounds 3 v3).setIfInBounds 4 v4 = #[v0, v1, v2, v3, v4] := by simp
  rw [e] at h0
  exact h0
theorem Upd.put5 (w : World) (q : Nat) (v0 v1 v2 v3 v4 : Value) : Upd w (((((w.setCell ⟨q, 0, none⟩ v0).setCell ⟨q, 1, none⟩ v1).setCell ⟨q, 2, none⟩ v2).setCell ⟨q, 3, none⟩ v3).setCell ⟨q, 4, none⟩ v4) (fun k => k = q) := by
  have h0 := (Upd.refl w (fun k => k = q)).set ⟨q, 0, none⟩ v0 (.inl rfl)
  have h1 := h0.set ⟨q, 1, none⟩ v1 (.inl rfl)
  have h2 := h1.set ⟨q, 2, none⟩ v2 (.inl rfl)
  have h3 := h2.set ⟨q, 3, none⟩ v3 (.inl rfl)
  exact h3.set ⟨q, 4, none⟩ v4 (.inl rfl)
theorem Blk.set3 {w : World} {q : Nat} {a b c d e : Value} {T : TypeId} (h : Blk w q #[a, b, c, d, e] T) (v : Value) : Blk (w.setCell ⟨q, 3, none⟩ v) q #[a, b, c, v, e] T := by
  have h0 := h.set 3 v
  have e : #[a, b, c, d, e].setIfInBounds 3 v = #[a, b, c, v, e] := by simp
  rw [e] at h0
  exact h0
theorem Blk.set4 {w : World} {q : Nat} {a b c d e : Value} {T : TypeId} (h : Blk w q #[a, b, c, d, e] T) (v : Value) : Blk (w.setCell ⟨q, 4, none⟩ v) q #[a, b, c, d, v] T := by
  have h0 := h.set 4 v
  have e : #[a, b, c, d, e].setIfInBounds 4 v = #[a, b, c, d, v] := by simp
  rw [e] at h0
  exact h0
theorem RE.ltz {w : World} {A : Option Addr} {cap : Nat} {L : List En} (h : RE w A cap L) {ad : Addr} (e : A = some ad) : ad.block ≠ w.heap.size := by have := h.lt ad e; omega
theorem pos_cut (id : Int) (L : List En) : (posOf (fun e => e.id == id) L = -1 ∧ remL (fun e => e.id == id) L = L ∧ (L.any fun e => e.id == id) = false) ∨ ∃ k : Nat, k < L.length ∧ posOf (fun e => e.id == id) L = (k : Int) ∧ remL (fun e => e.id == id) L = L.take k ++ L.drop (k + 1) ∧ (L.any fun e => e.id == id) = true := by
  rcases pos_cases (fun e => e.id == id) L with ⟨h1, h2⟩ | ⟨P, x, S, rfl, h1, h2, h3⟩
  · exact .inl ⟨h1, remL_none h2, by rw [List.any_eq_false]; intro e he; simp [h2 e he]⟩
  · refine .inr ⟨P.length, by simp, h1, ?_, List.any_eq_true.2 ⟨x, by simp, h2⟩⟩
    rw [remL_at h2 h3]
    simp
set_option maxHeartbeats 1000000 in
theorem rightF_any (w : World) (age limit room : Int) : Calls Try.prog 11 #[.int .i64 age, .int .i64 limit, .int .i64 room] w fun e w' => e = .returned (.bool (okN age limit room)) ∧ Upd w w' Nope := by
  have hways : ∀ a b c d e f : Bool, (a = false) ∨ (a = true ∧ b = false) ∨ (a = true ∧ b = true ∧ c = false) ∨ (a = true ∧ b = true ∧ c = true ∧ d = false) ∨ (a = true ∧ b = true ∧ c = true ∧ d = true ∧ e = false) ∨ (a = true ∧ b = true ∧ c = true ∧ d = true ∧ e = true ∧ f = false) ∨ (a = true ∧ b = true ∧ c = true ∧ d = true ∧ e = true ∧ f = true) := by
    intro a b c d e f
    cases a <;> cases b <;> cases c <;> cases d <;> cases e <;> cases f <;> simp
  have hw := hways (decide (1 ≤ age)) (decide (age ≤ 1048576)) (decide (1 ≤ limit)) (decide (limit ≤ 64)) (decide (1 ≤ room)) (decide (room ≤ 4096))
  clear hways
  have HW := Lib.hid hw
  clear hw
  rcases HW.out with g0 | ⟨g0, g1⟩ | ⟨g0, g1, g2⟩ | ⟨g0, g1, g2, g3⟩ | ⟨g0, g1, g2, g3, g4⟩ | ⟨g0, g1, g2, g3, g4, g5⟩ | ⟨g0, g1, g2, g3, g4, g5⟩
  iterate 6
    · have HO := Lib.hid (show okN age limit room = false by simp only [okN]; simp only [g0, *, Bool.and_true, Bool.and_false, Bool.and_self, Bool.true_and, Bool.false_and])
      rw [HO.out]
      clear HO HW
      go_enter Try.func11, Try.ntmps11
      go_wp2
      go_ret
      exact ⟨rfl, Upd.refl _ _⟩
  have HO := Lib.hid (show okN age limit room = true by simp only [okN, g0, g1, g2, g3, g4, g5, Bool.and_self])
  rw [HO.out]
  clear HO HW
  go_enter Try.func11, Try.ntmps11
  go_wp2
  go_ret
  exact ⟨rfl, Upd.refl _ _⟩
set_option maxHeartbeats 2000000 in
theorem doneF_any (w : World) (age limit room : Int) (A B : Option Addr) (cap capB : Nat) (L Fl : List En) (hr : RE w A cap L) (hb : RE w B capB Fl) (hl : L.length ≤ 5000) (hfl : Fl.length ≤ 5000) (id : Int) :
    Calls Try.prog 16 #[.agg #[.int .i64 age, .int .i64 limit, .int .i64 room, .slice A L.length cap, .slice B Fl.length capB], .int .i64 id] w (QRes w age limit room A B L (remL (fun e => e.id == id) Fl) (.bool (Fl.any fun e => e.id == id))) := by
  have HR := Lib.hid hr
  have HB := Lib.hid hb
  clear hr hb
  go_enter Try.func16, Try.ntmps16
  go_upto_region 1 with (fail)
  have hP := (Blk.new w #[.int .i64 age, .int .i64 limit, .int .i64 room, .slice A L.length cap, .slice B Fl.length capB] 32).alloc (.cells #[.int .i64 0, .int .i64 0, .int .i64 0, .slice none 0 0, .slice none 0 0] 32)
  have hQ := Blk.new (w.alloc (.cells #[.int .i64 age, .int .i64 limit, .int .i64 room, .slice A L.length cap, .slice B Fl.length capB] 32)) #[.int .i64 0, .int .i64 0, .int .i64 0, .slice none 0 0, .slice none 0 0] 32
  have hU : Upd w ((w.alloc (.cells #[.int .i64 age, .int .i64 limit, .int .i64 room, .slice A L.length cap, .slice B Fl.length capB] 32)).alloc (.cells #[.int .i64 0, .int .i64 0, .int .i64 0, .slice none 0 0, .slice none 0 0] 32)) Nope := ((Upd.refl w _).alloc _).alloc _
  have hz : (w.alloc (.cells #[.int .i64 age, .int .i64 limit, .int .i64 room, .slice A L.length cap, .slice B Fl.length capB] 32)).heap.size = w.heap.size + 1 := by simp
  rw [hz] at hQ
  clear hz
  generalize (w.alloc (.cells #[.int .i64 age, .int .i64 limit, .int .i64 room, .slice A L.length cap, .slice B Fl.length capB] 32)).alloc (.cells #[.int .i64 0, .int .i64 0, .int .i64 0, .slice none 0 0, .slice none 0 0] 32) = w2 at *
  have x4 : w2.cell? ⟨w.heap.size, 4, none⟩ = some (.slice B Fl.length capB) := (hP.cell 4).trans rfl
  have HP := Lib.hid hP
  have HQ := Lib.hid hQ
  have HU := Lib.hid hU
  have HFD := Lib.hid (find_any w2 B capB Fl (HB.out.nn hU) (by omega) id)
  have HPC := Lib.hid (pos_cut id Fl)
  clear hP hQ hU
  go_wp2_with fail
  refine HFD.out.mono ?_
  rintro e w3 ⟨rfl, u3⟩
  have HP3 := Lib.hid (HP.out.upd u3 (fun h => h))
  have HQ3 := Lib.hid (HQ.out.upd u3 (fun h => h))
  have HU3 := Lib.hid (HU.out.nn u3)
  clear u3 HP HQ HU HFD x4
  rcases HPC.out with ⟨h1, h2, h3⟩ | ⟨k, hk, h1, h2, h3⟩
  · rw [h1]
    have HE := Lib.hid (And.intro h2 h3)
    clear h1 h2 h3 HPC
    have x0 : w3.cell? ⟨w.heap.size, 0, none⟩ = some (.int .i64 age) := (HP3.out.cell 0).trans rfl
    have x1 : w3.cell? ⟨w.heap.size, 1, none⟩ = some (.int .i64 limit) := (HP3.out.cell 1).trans rfl
    have x2 : w3.cell? ⟨w.heap.size, 2, none⟩ = some (.int .i64 room) := (HP3.out.cell 2).trans rfl
    have x3 : w3.cell? ⟨w.heap.size, 3, none⟩ = some (.slice A L.length cap) := (HP3.out.cell 3).trans rfl
    have x4 : w3.cell? ⟨w.heap.size, 4, none⟩ = some (.slice B Fl.length capB) := (HP3.out.cell 4).trans rfl
    have y0 := HQ3.out.frozen 0
    have y1 := HQ3.out.frozen 1
    have y2 := HQ3.out.frozen 2
    have y3 := HQ3.out.frozen 3
    have y4 := HQ3.out.frozen 4
    have q0 : w3.cell? ⟨w.heap.size + 1, 0, none⟩ = some (.int .i64 0) := (HQ3.out.cell 0).trans rfl
    have q1 : w3.cell? ⟨w.heap.size + 1, 1, none⟩ = some (.int .i64 0) := (HQ3.out.cell 1).trans rfl
    have q2 : w3.cell? ⟨w.heap.size + 1, 2, none⟩ = some (.int .i64 0) := (HQ3.out.cell 2).trans rfl
    have q3 : w3.cell? ⟨w.heap.size + 1, 3, none⟩ = some (.slice none 0 0) := (HQ3.out.cell 3).trans rfl
    have q4 : w3.cell? ⟨w.heap.size + 1, 4, none⟩ = some (.slice none 0 0) := (HQ3.out.cell 4).trans rfl
    go_wp2_with fail
    have hb4 := HQ3.out.put5 (.int .i64 age) (.int .i64 limit) (.int .i64 room) (.slice A L.length cap) (.slice B Fl.length capB)
    have hu4 := HU3.out.on (g := w.heap.size + 1) (Upd.put5 w3 (w.heap.size + 1) (.int .i64 age) (.int .i64 limit) (.int .i64 room) (.slice A L.length cap) (.slice B Fl.length capB)) (by omega)
    clear x0 x1 x2 x3 x4 y0 y1 y2 y3 y4 q0 q1 q2 q3 q4
    generalize ((((w3.setCell ⟨w.heap.size + 1, 0, none⟩ (.int .i64 age)).setCell ⟨w.heap.size + 1, 1, none⟩ (.int .i64 limit)).setCell ⟨w.heap.size + 1, 2, none⟩ (.int .i64 room)).setCell ⟨w.heap.size + 1, 3, none⟩ (.slice A L.length cap)).setCell ⟨w.heap.size + 1, 4, none⟩ (.slice B Fl.length capB) = w4 at *
    have r0 : w4.cell? ⟨w.heap.size + 1, 0, none⟩ = some (.int .i64 age) := (hb4.cell 0).trans rfl
    have r1 : w4.cell? ⟨w.heap.size + 1, 1, none⟩ = some (.int .i64 limit) := (hb4.cell 1).trans rfl
    have r2 : w4.cell? ⟨w.heap.size + 1, 2, none⟩ = some (.int .i64 room) := (hb4.cell 2).trans rfl
    have r3 : w4.cell? ⟨w.heap.size + 1, 3, none⟩ = some (.slice A L.length cap) := (hb4.cell 3).trans rfl
    have r4 : w4.cell? ⟨w.heap.size + 1, 4, none⟩ = some (.slice B Fl.length capB) := (hb4.cell 4).trans rfl
    refine bodyPost_ret (v := .tuple #[.agg #[.int .i64 age, .int .i64 limit, .int .i64 room, .slice A L.length cap, .slice B Fl.length capB], .bool false]) (by simp [results, Try.results16, go_sem, r0, r1, r2, r3, r4]) rfl ?_
    rw [HE.out.1, HE.out.2]
    exact ⟨A, B, cap, capB, rfl, HR.out.nn hu4, HB.out.nn hu4, hu4, .inl rfl, .inl rfl⟩
  · rw [h1]
    clear h1 HPC
    have x4 : w3.cell? ⟨w.heap.size, 4, none⟩ = some (.slice B Fl.length capB) := (HP3.out.cell 4).trans rfl
    have HWO := Lib.hid (without_any w3 B capB Fl (HB.out.nn HU3.out) (by omega) k hk)
    have hk0 : decide ((k : Int) < 0) = false := decide_eq_false (by omega)
    generalize Fl.take k ++ Fl.drop (k + 1) = M at *
    have HE := Lib.hid (And.intro h2 h3)
    clear h2 h3
    go_wp2_with fail
    refine HWO.out.mono ?_
    rintro e w4 ⟨A5, c5, rfl, hre5, u4, hA5⟩
    have HP4 := Lib.hid (HP3.out.upd u4 (fun h => h))
    have HQ4 := Lib.hid (HQ3.out.upd u4 (fun h => h))
    have HU4 := Lib.hid (HU3.out.nn u4)
    have H5 := Lib.hid (And.intro hre5 (show ∀ ad, A5 = some ad → w.heap.size + 2 ≤ ad.block from fun ad e => by have := hA5 ad e; have := HQ3.out.lt; omega))
    clear hre5 u4 hA5 HP3 HQ3 HU3 HWO x4 hk0
    have x4 : w4.cell? ⟨w.heap.size, 4, none⟩ = some (.slice B Fl.length capB) := (HP4.out.cell 4).trans rfl
    have yf := HP4.out.frozen 4
    go_upto_region 5 with (fail)
    have hp5 := HP4.out.set4 (.slice A5 M.length c5)
    have hq5 := HQ4.out.far (p := ⟨w.heap.size, 4, none⟩) (by simp) (.slice A5 M.length c5)
    have hu5 := HU4.out.on (g := w.heap.size) ((Upd.refl w4 (fun i => i = w.heap.size)).set ⟨w.heap.size, 4, none⟩ (.slice A5 M.length c5) (.inl rfl)) (Nat.le_refl _)
    have hr5 := H5.out.1.away ((Upd.refl w4 (fun i => i = w.heap.size)).set ⟨w.heap.size, 4, none⟩ (.slice A5 M.length c5) (.inl rfl)) (fun ad e k => by have := H5.out.2 ad e; omega)
    clear x4 yf
    generalize w4.setCell ⟨w.heap.size, 4, none⟩ (.slice A5 M.length c5) = w5 at *
    have HU5 := Lib.hid hu5
    have HQ5 := Lib.hid hq5
    have HR5 := Lib.hid hr5
    have HP5 := Lib.hid hp5
    clear hu5 hr5 hp5 hq5
    have x0 : w5.cell? ⟨w.heap.size, 0, none⟩ = some (.int .i64 age) := (HP5.out.cell 0).trans rfl
    have x1 : w5.cell? ⟨w.heap.size, 1, none⟩ = some (.int .i64 limit) := (HP5.out.cell 1).trans rfl
    have x2 : w5.cell? ⟨w.heap.size, 2, none⟩ = some (.int .i64 room) := (HP5.out.cell 2).trans rfl
    have x3 : w5.cell? ⟨w.heap.size, 3, none⟩ = some (.slice A L.length cap) := (HP5.out.cell 3).trans rfl
    have x4 : w5.cell? ⟨w.heap.size, 4, none⟩ = some (.slice A5 M.length c5) := (HP5.out.cell 4).trans rfl
    have y0 := HQ5.out.frozen 0
    have y1 := HQ5.out.frozen 1
    have y2 := HQ5.out.frozen 2
    have y3 := HQ5.out.frozen 3
    have y4 := HQ5.out.frozen 4
    have q0 : w5.cell? ⟨w.heap.size + 1, 0, none⟩ = some (.int .i64 0) := (HQ5.out.cell 0).trans rfl
    have q1 : w5.cell? ⟨w.heap.size + 1, 1, none⟩ = some (.int .i64 0) := (HQ5.out.cell 1).trans rfl
    have q2 : w5.cell? ⟨w.heap.size + 1, 2, none⟩ = some (.int .i64 0) := (HQ5.out.cell 2).trans rfl
    have q3 : w5.cell? ⟨w.heap.size + 1, 3, none⟩ = some (.slice none 0 0) := (HQ5.out.cell 3).trans rfl
    have q4 : w5.cell? ⟨w.heap.size + 1, 4, none⟩ = some (.slice none 0 0) := (HQ5.out.cell 4).trans rfl
    go_wp2_with fail
    have hb6 := HQ5.out.put5 (.int .i64 age) (.int .i64 limit) (.int .i64 room) (.slice A L.length cap) (.slice A5 M.length c5)
    have hu6 := HU5.out.on (g := w.heap.size + 1) (Upd.put5 w5 (w.heap.size + 1) (.int .i64 age) (.int .i64 limit) (.int .i64 room) (.slice A L.length cap) (.slice A5 M.length c5)) (by omega)
    have hr6 := HR5.out.away (Upd.put5 w5 (w.heap.size + 1) (.int .i64 age) (.int .i64 limit) (.int .i64 room) (.slice A L.length cap) (.slice A5 M.length c5)) (fun ad e k => by have := H5.out.2 ad e; omega)
    clear x0 x1 x2 x3 x4 y0 y1 y2 y3 y4 q0 q1 q2 q3 q4
    generalize ((((w5.setCell ⟨w.heap.size + 1, 0, none⟩ (.int .i64 age)).setCell ⟨w.heap.size + 1, 1, none⟩ (.int .i64 limit)).setCell ⟨w.heap.size + 1, 2, none⟩ (.int .i64 room)).setCell ⟨w.heap.size + 1, 3, none⟩ (.slice A L.length cap)).setCell ⟨w.heap.size + 1, 4, none⟩ (.slice A5 M.length c5) = w6 at *
    have r0 : w6.cell? ⟨w.heap.size + 1, 0, none⟩ = some (.int .i64 age) := (hb6.cell 0).trans rfl
    have r1 : w6.cell? ⟨w.heap.size + 1, 1, none⟩ = some (.int .i64 limit) := (hb6.cell 1).trans rfl
    have r2 : w6.cell? ⟨w.heap.size + 1, 2, none⟩ = some (.int .i64 room) := (hb6.cell 2).trans rfl
    have r3 : w6.cell? ⟨w.heap.size + 1, 3, none⟩ = some (.slice A L.length cap) := (hb6.cell 3).trans rfl
    have r4 : w6.cell? ⟨w.heap.size + 1, 4, none⟩ = some (.slice A5 M.length c5) := (hb6.cell 4).trans rfl
    refine bodyPost_ret (v := .tuple #[.agg #[.int .i64 age, .int .i64 limit, .int .i64 room, .slice A L.length cap, .slice A5 M.length c5], .bool true]) (by simp [results, Try.results16, go_sem, r0, r1, r2, r3, r4]) rfl ?_
    rw [HE.out.1, HE.out.2]
    exact ⟨A, A5, cap, c5, rfl, HR.out.nn hu6, hr6, hu6, .inl rfl, .inr fun ad e => by have := H5.out.2 ad e; omega⟩
set_option maxHeartbeats 2000000 in
theorem remF_any (w : World) (age limit room : Int) (A B : Option Addr) (cap capB : Nat) (L Fl : List En) (hr : RE w A cap L) (hb : RE w B capB Fl) (hl : L.length ≤ 5000) (hfl : Fl.length ≤ 5000) (id : Int) :
    Calls Try.prog 18 #[.agg #[.int .i64 age, .int .i64 limit, .int .i64 room, .slice A L.length cap, .slice B Fl.length capB], .int .i64 id] w (QRes w age limit room A B (remL (fun e => e.id == id) L) Fl (.bool (L.any fun e => e.id == id))) := by
  have HR := Lib.hid hr
  have HB := Lib.hid hb
  clear hr hb
  go_enter Try.func18, Try.ntmps18
  go_upto_region 1 with (fail)
  have hP := (Blk.new w #[.int .i64 age, .int .i64 limit, .int .i64 room, .slice A L.length cap, .slice B Fl.length capB] 32).alloc (.cells #[.int .i64 0, .int .i64 0, .int .i64 0, .slice none 0 0, .slice none 0 0] 32)
  have hQ := Blk.new (w.alloc (.cells #[.int .i64 age, .int .i64 limit, .int .i64 room, .slice A L.length cap, .slice B Fl.length capB] 32)) #[.int .i64 0, .int .i64 0, .int .i64 0, .slice none 0 0, .slice none 0 0] 32
  have hU : Upd w ((w.alloc (.cells #[.int .i64 age, .int .i64 limit, .int .i64 room, .slice A L.length cap, .slice B Fl.length capB] 32)).alloc (.cells #[.int .i64 0, .int .i64 0, .int .i64 0, .slice none 0 0, .slice none 0 0] 32)) Nope := ((Upd.refl w _).alloc _).alloc _
  have hz : (w.alloc (.cells #[.int .i64 age, .int .i64 limit, .int .i64 room, .slice A L.length cap, .slice B Fl.length capB] 32)).heap.size = w.heap.size + 1 := by simp
  rw [hz] at hQ
  clear hz
  generalize (w.alloc (.cells #[.int .i64 age, .int .i64 limit, .int .i64 room, .slice A L.length cap, .slice B Fl.length capB] 32)).alloc (.cells #[.int .i64 0, .int .i64 0, .int .i64 0, .slice none 0 0, .slice none 0 0] 32) = w2 at *
  have x3 : w2.cell? ⟨w.heap.size, 3, none⟩ = some (.slice A L.length cap) := (hP.cell 3).trans rfl
  have HP := Lib.hid hP
  have HQ := Lib.hid hQ
  have HU := Lib.hid hU
  have HFD := Lib.hid (find_any w2 A cap L (HR.out.nn hU) (by omega) id)
  have HPC := Lib.hid (pos_cut id L)
  clear hP hQ hU
  go_wp2_with fail
  refine HFD.out.mono ?_
  rintro e w3 ⟨rfl, u3⟩
  have HP3 := Lib.hid (HP.out.upd u3 (fun h => h))
  have HQ3 := Lib.hid (HQ.out.upd u3 (fun h => h))
  have HU3 := Lib.hid (HU.out.nn u3)
  clear u3 HP HQ HU HFD x3
  rcases HPC.out with ⟨h1, h2, h3⟩ | ⟨k, hk, h1, h2, h3⟩
  · rw [h1]
    have HE := Lib.hid (And.intro h2 h3)
    clear h1 h2 h3 HPC
    have x0 : w3.cell? ⟨w.heap.size, 0, none⟩ = some (.int .i64 age) := (HP3.out.cell 0).trans rfl
    have x1 : w3.cell? ⟨w.heap.size, 1, none⟩ = some (.int .i64 limit) := (HP3.out.cell 1).trans rfl
    have x2 : w3.cell? ⟨w.heap.size, 2, none⟩ = some (.int .i64 room) := (HP3.out.cell 2).trans rfl
    have x3 : w3.cell? ⟨w.heap.size, 3, none⟩ = some (.slice A L.length cap) := (HP3.out.cell 3).trans rfl
    have x4 : w3.cell? ⟨w.heap.size, 4, none⟩ = some (.slice B Fl.length capB) := (HP3.out.cell 4).trans rfl
    have y0 := HQ3.out.frozen 0
    have y1 := HQ3.out.frozen 1
    have y2 := HQ3.out.frozen 2
    have y3 := HQ3.out.frozen 3
    have y4 := HQ3.out.frozen 4
    have q0 : w3.cell? ⟨w.heap.size + 1, 0, none⟩ = some (.int .i64 0) := (HQ3.out.cell 0).trans rfl
    have q1 : w3.cell? ⟨w.heap.size + 1, 1, none⟩ = some (.int .i64 0) := (HQ3.out.cell 1).trans rfl
    have q2 : w3.cell? ⟨w.heap.size + 1, 2, none⟩ = some (.int .i64 0) := (HQ3.out.cell 2).trans rfl
    have q3 : w3.cell? ⟨w.heap.size + 1, 3, none⟩ = some (.slice none 0 0) := (HQ3.out.cell 3).trans rfl
    have q4 : w3.cell? ⟨w.heap.size + 1, 4, none⟩ = some (.slice none 0 0) := (HQ3.out.cell 4).trans rfl
    go_wp2_with fail
    have hb4 := HQ3.out.put5 (.int .i64 age) (.int .i64 limit) (.int .i64 room) (.slice A L.length cap) (.slice B Fl.length capB)
    have hu4 := HU3.out.on (g := w.heap.size + 1) (Upd.put5 w3 (w.heap.size + 1) (.int .i64 age) (.int .i64 limit) (.int .i64 room) (.slice A L.length cap) (.slice B Fl.length capB)) (by omega)
    clear x0 x1 x2 x3 x4 y0 y1 y2 y3 y4 q0 q1 q2 q3 q4
    generalize ((((w3.setCell ⟨w.heap.size + 1, 0, none⟩ (.int .i64 age)).setCell ⟨w.heap.size + 1, 1, none⟩ (.int .i64 limit)).setCell ⟨w.heap.size + 1, 2, none⟩ (.int .i64 room)).setCell ⟨w.heap.size + 1, 3, none⟩ (.slice A L.length cap)).setCell ⟨w.heap.size + 1, 4, none⟩ (.slice B Fl.length capB) = w4 at *
    have r0 : w4.cell? ⟨w.heap.size + 1, 0, none⟩ = some (.int .i64 age) := (hb4.cell 0).trans rfl
    have r1 : w4.cell? ⟨w.heap.size + 1, 1, none⟩ = some (.int .i64 limit) := (hb4.cell 1).trans rfl
    have r2 : w4.cell? ⟨w.heap.size + 1, 2, none⟩ = some (.int .i64 room) := (hb4.cell 2).trans rfl
    have r3 : w4.cell? ⟨w.heap.size + 1, 3, none⟩ = some (.slice A L.length cap) := (hb4.cell 3).trans rfl
    have r4 : w4.cell? ⟨w.heap.size + 1, 4, none⟩ = some (.slice B Fl.length capB) := (hb4.cell 4).trans rfl
    refine bodyPost_ret (v := .tuple #[.agg #[.int .i64 age, .int .i64 limit, .int .i64 room, .slice A L.length cap, .slice B Fl.length capB], .bool false]) (by simp [results, Try.results18, go_sem, r0, r1, r2, r3, r4]) rfl ?_
    rw [HE.out.1, HE.out.2]
    exact ⟨A, B, cap, capB, rfl, HR.out.nn hu4, HB.out.nn hu4, hu4, .inl rfl, .inl rfl⟩
  · rw [h1]
    clear h1 HPC
    have x3 : w3.cell? ⟨w.heap.size, 3, none⟩ = some (.slice A L.length cap) := (HP3.out.cell 3).trans rfl
    have HWO := Lib.hid (without_any w3 A cap L (HR.out.nn HU3.out) (by omega) k hk)
    have hk0 : decide ((k : Int) < 0) = false := decide_eq_false (by omega)
    generalize L.take k ++ L.drop (k + 1) = M at *
    have HE := Lib.hid (And.intro h2 h3)
    clear h2 h3
    go_wp2_with fail
    refine HWO.out.mono ?_
    rintro e w4 ⟨A5, c5, rfl, hre5, u4, hA5⟩
    have HP4 := Lib.hid (HP3.out.upd u4 (fun h => h))
    have HQ4 := Lib.hid (HQ3.out.upd u4 (fun h => h))
    have HU4 := Lib.hid (HU3.out.nn u4)
    have H5 := Lib.hid (And.intro hre5 (show ∀ ad, A5 = some ad → w.heap.size + 2 ≤ ad.block from fun ad e => by have := hA5 ad e; have := HQ3.out.lt; omega))
    clear hre5 u4 hA5 HP3 HQ3 HU3 HWO x3 hk0
    have x3 : w4.cell? ⟨w.heap.size, 3, none⟩ = some (.slice A L.length cap) := (HP4.out.cell 3).trans rfl
    have yf := HP4.out.frozen 3
    go_upto_region 5 with (fail)
    have hp5 := HP4.out.set3 (.slice A5 M.length c5)
    have hq5 := HQ4.out.far (p := ⟨w.heap.size, 3, none⟩) (by simp) (.slice A5 M.length c5)
    have hu5 := HU4.out.on (g := w.heap.size) ((Upd.refl w4 (fun i => i = w.heap.size)).set ⟨w.heap.size, 3, none⟩ (.slice A5 M.length c5) (.inl rfl)) (Nat.le_refl _)
    have hr5 := H5.out.1.away ((Upd.refl w4 (fun i => i = w.heap.size)).set ⟨w.heap.size, 3, none⟩ (.slice A5 M.length c5) (.inl rfl)) (fun ad e k => by have := H5.out.2 ad e; omega)
    clear x3 yf
    generalize w4.setCell ⟨w.heap.size, 3, none⟩ (.slice A5 M.length c5) = w5 at *
    have HU5 := Lib.hid hu5
    have HQ5 := Lib.hid hq5
    have HR5 := Lib.hid hr5
    have HP5 := Lib.hid hp5
    clear hu5 hr5 hp5 hq5
    have x0 : w5.cell? ⟨w.heap.size, 0, none⟩ = some (.int .i64 age) := (HP5.out.cell 0).trans rfl
    have x1 : w5.cell? ⟨w.heap.size, 1, none⟩ = some (.int .i64 limit) := (HP5.out.cell 1).trans rfl
    have x2 : w5.cell? ⟨w.heap.size, 2, none⟩ = some (.int .i64 room) := (HP5.out.cell 2).trans rfl
    have x3 : w5.cell? ⟨w.heap.size, 3, none⟩ = some (.slice A5 M.length c5) := (HP5.out.cell 3).trans rfl
    have x4 : w5.cell? ⟨w.heap.size, 4, none⟩ = some (.slice B Fl.length capB) := (HP5.out.cell 4).trans rfl
    have y0 := HQ5.out.frozen 0
    have y1 := HQ5.out.frozen 1
    have y2 := HQ5.out.frozen 2
    have y3 := HQ5.out.frozen 3
    have y4 := HQ5.out.frozen 4
    have q0 : w5.cell? ⟨w.heap.size + 1, 0, none⟩ = some (.int .i64 0) := (HQ5.out.cell 0).trans rfl
    have q1 : w5.cell? ⟨w.heap.size + 1, 1, none⟩ = some (.int .i64 0) := (HQ5.out.cell 1).trans rfl
    have q2 : w5.cell? ⟨w.heap.size + 1, 2, none⟩ = some (.int .i64 0) := (HQ5.out.cell 2).trans rfl
    have q3 : w5.cell? ⟨w.heap.size + 1, 3, none⟩ = some (.slice none 0 0) := (HQ5.out.cell 3).trans rfl
    have q4 : w5.cell? ⟨w.heap.size + 1, 4, none⟩ = some (.slice none 0 0) := (HQ5.out.cell 4).trans rfl
    go_wp2_with fail
    have hb6 := HQ5.out.put5 (.int .i64 age) (.int .i64 limit) (.int .i64 room) (.slice A5 M.length c5) (.slice B Fl.length capB)
    have hu6 := HU5.out.on (g := w.heap.size + 1) (Upd.put5 w5 (w.heap.size + 1) (.int .i64 age) (.int .i64 limit) (.int .i64 room) (.slice A5 M.length c5) (.slice B Fl.length capB)) (by omega)
    have hr6 := HR5.out.away (Upd.put5 w5 (w.heap.size + 1) (.int .i64 age) (.int .i64 limit) (.int .i64 room) (.slice A5 M.length c5) (.slice B Fl.length capB)) (fun ad e k => by have := H5.out.2 ad e; omega)
    clear x0 x1 x2 x3 x4 y0 y1 y2 y3 y4 q0 q1 q2 q3 q4
    generalize ((((w5.setCell ⟨w.heap.size + 1, 0, none⟩ (.int .i64 age)).setCell ⟨w.heap.size + 1, 1, none⟩ (.int .i64 limit)).setCell ⟨w.heap.size + 1, 2, none⟩ (.int .i64 room)).setCell ⟨w.heap.size + 1, 3, none⟩ (.slice A5 M.length c5)).setCell ⟨w.heap.size + 1, 4, none⟩ (.slice B Fl.length capB) = w6 at *
    have r0 : w6.cell? ⟨w.heap.size + 1, 0, none⟩ = some (.int .i64 age) := (hb6.cell 0).trans rfl
    have r1 : w6.cell? ⟨w.heap.size + 1, 1, none⟩ = some (.int .i64 limit) := (hb6.cell 1).trans rfl
    have r2 : w6.cell? ⟨w.heap.size + 1, 2, none⟩ = some (.int .i64 room) := (hb6.cell 2).trans rfl
    have r3 : w6.cell? ⟨w.heap.size + 1, 3, none⟩ = some (.slice A5 M.length c5) := (hb6.cell 3).trans rfl
    have r4 : w6.cell? ⟨w.heap.size + 1, 4, none⟩ = some (.slice B Fl.length capB) := (hb6.cell 4).trans rfl
    refine bodyPost_ret (v := .tuple #[.agg #[.int .i64 age, .int .i64 limit, .int .i64 room, .slice A5 M.length c5, .slice B Fl.length capB], .bool true]) (by simp [results, Try.results18, go_sem, r0, r1, r2, r3, r4]) rfl ?_
    rw [HE.out.1, HE.out.2]
    exact ⟨A5, B, c5, capB, rfl, hr6, HB.out.nn hu6, hu6, .inr fun ad e => by have := H5.out.2 ad e; omega, .inl rfl⟩
end Go.Proofs.Ythpilbooolgkiaa
