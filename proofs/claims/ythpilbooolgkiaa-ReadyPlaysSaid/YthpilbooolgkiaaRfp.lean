/- The reference: Put, Take. -/
import Derived.Test.YthpilbooolgkiaaRfo
import Derived.Test.YthpilbooolgkiaaSeqt
set_option linter.unusedVariables false
set_option linter.unusedSimpArgs false
namespace Go.Proofs.Ythpilbooolgkiaa
open Go.RowKit

/-- A row that a call makes, and one entry that lies for itself. -/
structure RowX (T : TypeId) (w2 w' : World) (v : Value) (xs : List En) (B : Nat) (p : En) : Prop where
  row : RowE T w2 w' v xs
  one : RdS 4 En.vals w' (some ⟨B, 0, none⟩) [p]
  ap : v.ownBlock ≠ some B
  lt : B < w'.heap.size
theorem RowE.with_ {T : TypeId} {w2 w' : World} {v : Value} {xs : List En} (h : RowE T w2 w' v xs) (p : En) : RowX T w2 (w'.alloc (.cells #[.int .i64 p.id, .string p.dest, .int .i64 p.pri, .int .i64 p.at_] T)) v xs w'.heap.size p :=
  ⟨⟨h.own.alloc _, h.upd.alloc _⟩, rdE_new w' p, fun e => by have := (h.blk e).2; omega, by simp⟩
theorem RowX.app {T ty : TypeId} (ek : EK T ty) {w2 w' : World} {v : Value} {xs : List En} {B : Nat} {p : En} (h : RowX T w2 w' v xs B p) {A : Option Addr} {c : Nat} {l : List En} (rd : RdS 4 En.vals w' A l) (hn : A = none → c = 0) (hl : xs.length + l.length ≤ 100000) :
    ∃ v' w'', (Builtin.append_ #[ty, ty] ty #[v, .slice A l.length c]).run Try.prog w' = .ok v' w'' ∧ RowX T w2 w'' v' (xs ++ l) B p := by
  obtain ⟨v', w'', h1, h2, h3, h4⟩ := h.row.app ek rd hn hl
  refine ⟨v', w'', h1, h2, ?_, fun e => ?_, Nat.lt_of_lt_of_le h.lt h3.size⟩
  · intro i hi
    obtain ⟨ad, e, hc⟩ := h.one i hi
    refine ⟨ad, e, fun j v hv => h3.cell (hc j v hv) (fun e2 => h.ap ?_)⟩
    cases e
    rw [e2, addB']
  · rcases h4 with e2 | e2
    · exact h.ap (by rw [← e2]; exact e)
    · rw [e2] at e
      injection e with e
      have := h.lt
      omega
theorem RowX.first (T : TypeId) (w2 : World) (p : En) : RowX T w2 ((w2.alloc (.cells #[.int .i64 p.id, .string p.dest, .int .i64 p.pri, .int .i64 p.at_] T)).alloc (.cells #[] T)) (.slice (some ⟨w2.heap.size + 1, 0, none⟩) 0 0) [] w2.heap.size p :=
  ⟨⟨⟨rfl, .inr ⟨w2.heap.size + 1, 0, #[], rfl, by omega, by simpa using heap_alloc_new (w2.alloc (.cells #[.int .i64 p.id, .string p.dest, .int .i64 p.pri, .int .i64 p.at_] T)) (.cells #[] T), Nat.le_refl _, by simp [maxLen], rfl, rfl⟩⟩, ((Upd.refl w2 _).alloc _).alloc _⟩,
    (rdE_new w2 p).nn ((Upd.refl _ _).alloc _), by simp [Value.ownBlock], by simp; omega⟩
def putFC (room : Int) (L Fl : List En) (x : En) : Int :=
  if okP x = false then 1 else if (L.any fun e => e.id == x.id) = true ∨ (Fl.any fun e => e.id == x.id) = true then 11 else if room ≤ L.length then 6 else 0
def putFL (room : Int) (L Fl : List En) (x : En) : List En := if putFC room L Fl x = 0 then L ++ [x] else L
theorem empty_size (s : ByteArray) : s.toList.isEmpty = decide ((s.size : Int) < 1) := by
  rw [ByteArray.toList_eq]
  obtain ⟨⟨l⟩⟩ := s
  cases l with
  | nil => rfl
  | cons a l => simp [ByteArray.size]; omega
theorem okP_ways (x : En) : (okP x = false ∧ ((decide (x.id < 0) = true) ∨ (decide (x.id < 0) = false ∧ decide ((x.dest.size : Int) < 1) = true) ∨ (decide (x.id < 0) = false ∧ decide ((x.dest.size : Int) < 1) = false ∧ decide (255 < (x.dest.size : Int)) = true) ∨ (decide (x.id < 0) = false ∧ decide ((x.dest.size : Int) < 1) = false ∧ decide (255 < (x.dest.size : Int)) = false ∧ decide (x.pri < -9) = true) ∨ (decide (x.id < 0) = false ∧ decide ((x.dest.size : Int) < 1) = false ∧ decide (255 < (x.dest.size : Int)) = false ∧ decide (x.pri < -9) = false ∧ decide (9 < x.pri) = true) ∨ (decide (x.id < 0) = false ∧ decide ((x.dest.size : Int) < 1) = false ∧ decide (255 < (x.dest.size : Int)) = false ∧ decide (x.pri < -9) = false ∧ decide (9 < x.pri) = false ∧ decide (x.at_ < 0) = true) ∨ (decide (x.id < 0) = false ∧ decide ((x.dest.size : Int) < 1) = false ∧ decide (255 < (x.dest.size : Int)) = false ∧ decide (x.pri < -9) = false ∧ decide (9 < x.pri) = false ∧ decide (x.at_ < 0) = false ∧ decide (1099511627776 < x.at_) = true))) ∨ (okP x = true ∧ decide (x.id < 0) = false ∧ decide ((x.dest.size : Int) < 1) = false ∧ decide (255 < (x.dest.size : Int)) = false ∧ decide (x.pri < -9) = false ∧ decide (9 < x.pri) = false ∧ decide (x.at_ < 0) = false ∧ decide (1099511627776 < x.at_) = false) := by
  have hd : decide (255 < (x.dest.size : Int)) = decide (255 < x.dest.size) := by rw [decide_eq_decide]; omega
  unfold okP
  rw [empty_size, hd]
  cases decide (x.id < 0) <;> cases decide ((x.dest.size : Int) < 1) <;> cases decide (255 < x.dest.size) <;> cases decide (x.pri < -9) <;> cases decide (9 < x.pri) <;> cases decide (x.at_ < 0) <;> cases decide (1099511627776 < x.at_) <;> simp
set_option maxRecDepth 100000 in
set_option maxHeartbeats 8000000 in
theorem putF_any (w : World) (age limit room : Int) (A B : Option Addr) (cap capB : Nat) (L Fl : List En) (hr : RE w A cap L) (hb : RE w B capB Fl) (hl : L.length ≤ 5000) (hfl : Fl.length ≤ 5000) (x : En) (hx : x.dest.size ≤ 1000) :
    Calls Try.prog 12 #[.agg #[.int .i64 age, .int .i64 limit, .int .i64 room, .slice A L.length cap, .slice B Fl.length capB], .agg #[.int .i64 x.id, .string x.dest, .int .i64 x.pri, .int .i64 x.at_]] w (QRes w age limit room A B (putFL room L Fl x) Fl (.int .i64 (putFC room L Fl x))) := by
  have HR := Lib.hid hr
  have HB := Lib.hid hb
  have HWY := Lib.hid (okP_ways x)
  clear hr hb
  go_enter Try.func12, Try.ntmps12
  go_upto_region 1 with (fail)
  have hP := ((Blk.new w #[.int .i64 age, .int .i64 limit, .int .i64 room, .slice A L.length cap, .slice B Fl.length capB] 32).alloc (.cells #[.int .i64 x.id, .string x.dest, .int .i64 x.pri, .int .i64 x.at_] 39)).alloc (.cells #[.int .i64 0, .int .i64 0, .int .i64 0, .slice none 0 0, .slice none 0 0] 32)
  have hX := (Blk.new (w.alloc (.cells #[.int .i64 age, .int .i64 limit, .int .i64 room, .slice A L.length cap, .slice B Fl.length capB] 32)) #[.int .i64 x.id, .string x.dest, .int .i64 x.pri, .int .i64 x.at_] 39).alloc (.cells #[.int .i64 0, .int .i64 0, .int .i64 0, .slice none 0 0, .slice none 0 0] 32)
  have hQ := Blk.new ((w.alloc (.cells #[.int .i64 age, .int .i64 limit, .int .i64 room, .slice A L.length cap, .slice B Fl.length capB] 32)).alloc (.cells #[.int .i64 x.id, .string x.dest, .int .i64 x.pri, .int .i64 x.at_] 39)) #[.int .i64 0, .int .i64 0, .int .i64 0, .slice none 0 0, .slice none 0 0] 32
  have hU : Upd w (((w.alloc (.cells #[.int .i64 age, .int .i64 limit, .int .i64 room, .slice A L.length cap, .slice B Fl.length capB] 32)).alloc (.cells #[.int .i64 x.id, .string x.dest, .int .i64 x.pri, .int .i64 x.at_] 39)).alloc (.cells #[.int .i64 0, .int .i64 0, .int .i64 0, .slice none 0 0, .slice none 0 0] 32)) Nope := (((Upd.refl w _).alloc _).alloc _).alloc _
  have hz : (w.alloc (.cells #[.int .i64 age, .int .i64 limit, .int .i64 room, .slice A L.length cap, .slice B Fl.length capB] 32)).heap.size = w.heap.size + 1 := by simp
  have hz2 : ((w.alloc (.cells #[.int .i64 age, .int .i64 limit, .int .i64 room, .slice A L.length cap, .slice B Fl.length capB] 32)).alloc (.cells #[.int .i64 x.id, .string x.dest, .int .i64 x.pri, .int .i64 x.at_] 39)).heap.size = w.heap.size + 2 := by simp
  rw [hz] at hX
  rw [hz2] at hQ
  try rw [show w.heap.size + 1 + 1 = w.heap.size + 2 from rfl]
  clear hz hz2
  generalize ((w.alloc (.cells #[.int .i64 age, .int .i64 limit, .int .i64 room, .slice A L.length cap, .slice B Fl.length capB] 32)).alloc (.cells #[.int .i64 x.id, .string x.dest, .int .i64 x.pri, .int .i64 x.at_] 39)).alloc (.cells #[.int .i64 0, .int .i64 0, .int .i64 0, .slice none 0 0, .slice none 0 0] 32) = w2 at *
  have c0 : w2.cell? ⟨w.heap.size + 1, 0, none⟩ = some (.int .i64 x.id) := (hX.cell 0).trans rfl
  have c1 : w2.cell? ⟨w.heap.size + 1, 1, none⟩ = some (.string x.dest) := (hX.cell 1).trans rfl
  have c2 : w2.cell? ⟨w.heap.size + 1, 2, none⟩ = some (.int .i64 x.pri) := (hX.cell 2).trans rfl
  have c3 : w2.cell? ⟨w.heap.size + 1, 3, none⟩ = some (.int .i64 x.at_) := (hX.cell 3).trans rfl
  have HP := Lib.hid hP
  have HX := Lib.hid hX
  have HQ := Lib.hid hQ
  have HU := Lib.hid hU
  clear hP hX hQ hU
  rcases HWY.out with ⟨hok, hways⟩ | ⟨hok, g0, g1, g2, g3, g4, g5, g6⟩
  · have HE := Lib.hid (show putFC room L Fl x = 1 ∧ putFL room L Fl x = L by
      have : putFC room L Fl x = 1 := by unfold putFC; rw [if_pos hok]
      exact ⟨this, by unfold putFL; rw [this]; rfl⟩)
    clear hok HWY
    rcases hways with g0 | ⟨g0, g1⟩ | ⟨g0, g1, g2⟩ | ⟨g0, g1, g2, g3⟩ | ⟨g0, g1, g2, g3, g4⟩ | ⟨g0, g1, g2, g3, g4, g5⟩ | ⟨g0, g1, g2, g3, g4, g5, g6⟩
    all_goals
      skip
      have x0 : w2.cell? ⟨w.heap.size, 0, none⟩ = some (.int .i64 age) := (HP.out.cell 0).trans rfl
      have x1 : w2.cell? ⟨w.heap.size, 1, none⟩ = some (.int .i64 limit) := (HP.out.cell 1).trans rfl
      have x2 : w2.cell? ⟨w.heap.size, 2, none⟩ = some (.int .i64 room) := (HP.out.cell 2).trans rfl
      have x3 : w2.cell? ⟨w.heap.size, 3, none⟩ = some (.slice A L.length cap) := (HP.out.cell 3).trans rfl
      have x4 : w2.cell? ⟨w.heap.size, 4, none⟩ = some (.slice B Fl.length capB) := (HP.out.cell 4).trans rfl
      have y0 := HQ.out.frozen 0
      have y1 := HQ.out.frozen 1
      have y2 := HQ.out.frozen 2
      have y3 := HQ.out.frozen 3
      have y4 := HQ.out.frozen 4
      have q0 : w2.cell? ⟨w.heap.size + 2, 0, none⟩ = some (.int .i64 0) := (HQ.out.cell 0).trans rfl
      have q1 : w2.cell? ⟨w.heap.size + 2, 1, none⟩ = some (.int .i64 0) := (HQ.out.cell 1).trans rfl
      have q2 : w2.cell? ⟨w.heap.size + 2, 2, none⟩ = some (.int .i64 0) := (HQ.out.cell 2).trans rfl
      have q3 : w2.cell? ⟨w.heap.size + 2, 3, none⟩ = some (.slice none 0 0) := (HQ.out.cell 3).trans rfl
      have q4 : w2.cell? ⟨w.heap.size + 2, 4, none⟩ = some (.slice none 0 0) := (HQ.out.cell 4).trans rfl
      go_wp2_with fail
      have hb3 := HQ.out.put5 (.int .i64 age) (.int .i64 limit) (.int .i64 room) (.slice A L.length cap) (.slice B Fl.length capB)
      have hu3 := HU.out.on (g := w.heap.size + 2) (Upd.put5 w2 (w.heap.size + 2) (.int .i64 age) (.int .i64 limit) (.int .i64 room) (.slice A L.length cap) (.slice B Fl.length capB)) (by omega)

      clear x0 x1 x2 x3 x4 y0 y1 y2 y3 y4 q0 q1 q2 q3 q4
      generalize ((((w2.setCell ⟨w.heap.size + 2, 0, none⟩ (.int .i64 age)).setCell ⟨w.heap.size + 2, 1, none⟩ (.int .i64 limit)).setCell ⟨w.heap.size + 2, 2, none⟩ (.int .i64 room)).setCell ⟨w.heap.size + 2, 3, none⟩ (.slice A L.length cap)).setCell ⟨w.heap.size + 2, 4, none⟩ (.slice B Fl.length capB) = w3 at *
      have r0 : w3.cell? ⟨w.heap.size + 2, 0, none⟩ = some (.int .i64 age) := (hb3.cell 0).trans rfl
      have r1 : w3.cell? ⟨w.heap.size + 2, 1, none⟩ = some (.int .i64 limit) := (hb3.cell 1).trans rfl
      have r2 : w3.cell? ⟨w.heap.size + 2, 2, none⟩ = some (.int .i64 room) := (hb3.cell 2).trans rfl
      have r3 : w3.cell? ⟨w.heap.size + 2, 3, none⟩ = some (.slice A L.length cap) := (hb3.cell 3).trans rfl
      have r4 : w3.cell? ⟨w.heap.size + 2, 4, none⟩ = some (.slice B Fl.length capB) := (hb3.cell 4).trans rfl
      refine bodyPost_ret (v := .tuple #[.agg #[.int .i64 age, .int .i64 limit, .int .i64 room, .slice A L.length cap, .slice B Fl.length capB], .int .i64 (1)]) (by simp [results, Try.results12, go_sem, r0, r1, r2, r3, r4]) rfl ?_
      rw [HE.out.1, HE.out.2]
      exact ⟨A, B, cap, capB, rfl, HR.out.nn hu3, HB.out.nn hu3, hu3, .inl rfl, .inl rfl⟩
  · clear HWY
    have HF1 := Lib.hid (find_any w2 A cap L (HR.out.nn HU.out) hl x.id)
    have x3 : w2.cell? ⟨w.heap.size, 3, none⟩ = some (.slice A L.length cap) := (HP.out.cell 3).trans rfl
    have HPC := Lib.hid (pos_cut x.id L)
    have HOK := Lib.hid hok
    clear hok
    go_upto_region 3 with (fail)
    clear g0 g1 g2 g3 g4 g5 g6 c1 c2 c3
    go_wp2_with fail
    refine HF1.out.mono ?_
    rintro e w3 ⟨rfl, u3⟩
    have HP3 := Lib.hid (HP.out.upd u3 (fun h => h))
    have HX3 := Lib.hid (HX.out.upd u3 (fun h => h))
    have HQ3 := Lib.hid (HQ.out.upd u3 (fun h => h))
    have HU3 := Lib.hid (HU.out.nn u3)
    clear u3 HP HX HQ HU HF1 x3 c0
    rcases HPC.out with ⟨h1, h2, h3⟩ | ⟨k, hk, h1, h2, h3⟩
    · rw [h1]
      have HN1 := Lib.hid h3
      clear h1 h2 h3 HPC
      have c0 : w3.cell? ⟨w.heap.size + 1, 0, none⟩ = some (.int .i64 x.id) := (HX3.out.cell 0).trans rfl
      have x4 : w3.cell? ⟨w.heap.size, 4, none⟩ = some (.slice B Fl.length capB) := (HP3.out.cell 4).trans rfl
      have HF2 := Lib.hid (find_any w3 B capB Fl (HB.out.nn HU3.out) hfl x.id)
      have HPC := Lib.hid (pos_cut x.id Fl)
      go_wp2_with fail
      refine HF2.out.mono ?_
      rintro e w4 ⟨rfl, u4⟩
      have HP4 := Lib.hid (HP3.out.upd u4 (fun h => h))
      have HX4 := Lib.hid (HX3.out.upd u4 (fun h => h))
      have HQ4 := Lib.hid (HQ3.out.upd u4 (fun h => h))
      have HU4 := Lib.hid (HU3.out.nn u4)
      clear u4 HP3 HX3 HQ3 HU3 HF2 x4 c0
      rcases HPC.out with ⟨h1, h2, h3⟩ | ⟨k, hk, h1, h2, h3⟩
      · rw [h1]
        have HN2 := Lib.hid h3
        clear h1 h2 h3 HPC
        have x3 : w4.cell? ⟨w.heap.size, 3, none⟩ = some (.slice A L.length cap) := (HP4.out.cell 3).trans rfl
        have x2 : w4.cell? ⟨w.heap.size, 2, none⟩ = some (.int .i64 room) := (HP4.out.cell 2).trans rfl
        by_cases hrm : room ≤ (L.length : Int)
        · skip
          have HE := Lib.hid (show putFC room L Fl x = 6 ∧ putFL room L Fl x = L by
            have : putFC room L Fl x = 6 := by unfold putFC; rw [if_neg (by rw [HOK.out]; simp), if_neg (by rw [HN1.out, HN2.out]; simp), if_pos hrm]
            exact ⟨this, by unfold putFL; rw [this]; rfl⟩)
          have d1 : decide (room ≤ (L.length : Int)) = true := decide_eq_true hrm
          clear hrm
          go_upto_region 6 with (fail)
          clear x2 x3
          have x0 : w4.cell? ⟨w.heap.size, 0, none⟩ = some (.int .i64 age) := (HP4.out.cell 0).trans rfl
          have x1 : w4.cell? ⟨w.heap.size, 1, none⟩ = some (.int .i64 limit) := (HP4.out.cell 1).trans rfl
          have x2 : w4.cell? ⟨w.heap.size, 2, none⟩ = some (.int .i64 room) := (HP4.out.cell 2).trans rfl
          have x3 : w4.cell? ⟨w.heap.size, 3, none⟩ = some (.slice A L.length cap) := (HP4.out.cell 3).trans rfl
          have x4 : w4.cell? ⟨w.heap.size, 4, none⟩ = some (.slice B Fl.length capB) := (HP4.out.cell 4).trans rfl
          have y0 := HQ4.out.frozen 0
          have y1 := HQ4.out.frozen 1
          have y2 := HQ4.out.frozen 2
          have y3 := HQ4.out.frozen 3
          have y4 := HQ4.out.frozen 4
          have q0 : w4.cell? ⟨w.heap.size + 2, 0, none⟩ = some (.int .i64 0) := (HQ4.out.cell 0).trans rfl
          have q1 : w4.cell? ⟨w.heap.size + 2, 1, none⟩ = some (.int .i64 0) := (HQ4.out.cell 1).trans rfl
          have q2 : w4.cell? ⟨w.heap.size + 2, 2, none⟩ = some (.int .i64 0) := (HQ4.out.cell 2).trans rfl
          have q3 : w4.cell? ⟨w.heap.size + 2, 3, none⟩ = some (.slice none 0 0) := (HQ4.out.cell 3).trans rfl
          have q4 : w4.cell? ⟨w.heap.size + 2, 4, none⟩ = some (.slice none 0 0) := (HQ4.out.cell 4).trans rfl
          go_wp2_with fail
          have hb5 := HQ4.out.put5 (.int .i64 age) (.int .i64 limit) (.int .i64 room) (.slice A L.length cap) (.slice B Fl.length capB)
          have hu5 := HU4.out.on (g := w.heap.size + 2) (Upd.put5 w4 (w.heap.size + 2) (.int .i64 age) (.int .i64 limit) (.int .i64 room) (.slice A L.length cap) (.slice B Fl.length capB)) (by omega)

          clear x0 x1 x2 x3 x4 y0 y1 y2 y3 y4 q0 q1 q2 q3 q4
          generalize ((((w4.setCell ⟨w.heap.size + 2, 0, none⟩ (.int .i64 age)).setCell ⟨w.heap.size + 2, 1, none⟩ (.int .i64 limit)).setCell ⟨w.heap.size + 2, 2, none⟩ (.int .i64 room)).setCell ⟨w.heap.size + 2, 3, none⟩ (.slice A L.length cap)).setCell ⟨w.heap.size + 2, 4, none⟩ (.slice B Fl.length capB) = w5 at *
          have r0 : w5.cell? ⟨w.heap.size + 2, 0, none⟩ = some (.int .i64 age) := (hb5.cell 0).trans rfl
          have r1 : w5.cell? ⟨w.heap.size + 2, 1, none⟩ = some (.int .i64 limit) := (hb5.cell 1).trans rfl
          have r2 : w5.cell? ⟨w.heap.size + 2, 2, none⟩ = some (.int .i64 room) := (hb5.cell 2).trans rfl
          have r3 : w5.cell? ⟨w.heap.size + 2, 3, none⟩ = some (.slice A L.length cap) := (hb5.cell 3).trans rfl
          have r4 : w5.cell? ⟨w.heap.size + 2, 4, none⟩ = some (.slice B Fl.length capB) := (hb5.cell 4).trans rfl
          refine bodyPost_ret (v := .tuple #[.agg #[.int .i64 age, .int .i64 limit, .int .i64 room, .slice A L.length cap, .slice B Fl.length capB], .int .i64 (6)]) (by simp [results, Try.results12, go_sem, r0, r1, r2, r3, r4]) rfl ?_
          rw [HE.out.1, HE.out.2]
          exact ⟨A, B, cap, capB, rfl, HR.out.nn hu5, HB.out.nn hu5, hu5, .inl rfl, .inl rfl⟩
        · skip
          have HE := Lib.hid (show putFC room L Fl x = 0 ∧ putFL room L Fl x = L ++ [x] by
            have : putFC room L Fl x = 0 := by unfold putFC; rw [if_neg (by rw [HOK.out]; simp), if_neg (by rw [HN1.out, HN2.out]; simp), if_neg hrm]
            exact ⟨this, by unfold putFL; rw [if_pos this]⟩)
          have d1 : decide (room ≤ (L.length : Int)) = false := decide_eq_false hrm
          clear hrm
          go_upto_region 7 with (fail)
          clear x2 x3 d1
          have HRL := Lib.hid (HR.out.nn HU4.out)

          have hlx : L.length ≤ 5000 := by omega
          refine region_tree 8 [7, 6, 5, 4, 3, 2, 1, 0] (by kernel_rfl) (fun w' => ∃ z : UW w4, w' = z.val) (by kernel_rfl) (fun _ _ d _ _ h => by cases d <;> exact h) ⟨⟨w4.drew, (Upd.refl _ _).drew⟩, rfl⟩ ?_
          intro hR
          have HRG := Lib.hid hR
          clear hR
          have X0 := fun z : UW w4 => z.cell ((HP4.out.cell 3).trans rfl : w4.cell? ⟨w.heap.size, 3, none⟩ = some (.slice A L.length cap))
          have X1 := fun z : UW w4 => z.cell ((HX4.out.cell 0).trans rfl : w4.cell? ⟨w.heap.size + 1, 0, none⟩ = some (.int .i64 x.id))
          have X2 := fun z : UW w4 => z.cell ((HX4.out.cell 1).trans rfl : w4.cell? ⟨w.heap.size + 1, 1, none⟩ = some (.string x.dest))
          have X3 := fun z : UW w4 => z.cell ((HX4.out.cell 2).trans rfl : w4.cell? ⟨w.heap.size + 1, 2, none⟩ = some (.int .i64 x.pri))
          have X4 := fun z : UW w4 => z.cell ((HX4.out.cell 3).trans rfl : w4.cell? ⟨w.heap.size + 1, 3, none⟩ = some (.int .i64 x.at_))
          refine WA.seg HRG.out 6 [1, 2, 4] rfl (by kernel_rfl) ?_
          simp only [opsAt_cons, opsAt_nil, List.getElem?_toArray, List.getElem?_cons_zero, List.getElem?_cons_succ, consO_some]
          repeat (first | go_big_quiet_skip | (go_big_quiet_want; go_big_quiet_op; go_big_quiet_on))
          refine wpQuiet_nil ?_
          clear X0 X1 X2 X3 X4
          have HD0 := Lib.hid (show Upd w4 w4.drew Nope from (Upd.refl _ _).drew)
          have HRD := Lib.hid ((HRL.out.nn HD0.out))
          generalize w4.drew = wd at *
          refine WA.two HRG.out 5 0 5 rfl (by kernel_rfl) ?_ ?_
          all_goals simp only [opsAt_cons, opsAt_nil, List.getElem?_toArray, List.getElem?_cons_zero, List.getElem?_cons_succ, consO_some]
          · go_wp2_with fail
            have HRA := Lib.hid (RowE.first (T := 39) wd)
            generalize wd.alloc (.cells #[] 39) = wa at *
            refine ⟨⟨⟨wa, HD0.out.nn HRA.out.upd⟩, rfl⟩, ?_⟩
            refine WA.two HRG.out 4 3 5 rfl (by kernel_rfl) ?_ ?_
            all_goals simp only [opsAt_cons, opsAt_nil, List.getElem?_toArray, List.getElem?_cons_zero, List.getElem?_cons_succ, consO_some]
            · obtain ⟨v4, wb, h1, hrb, _, _⟩ := HRA.out.app ek39 (l := L) (c := cap) ((HRD.out.nn HRA.out.upd).rd) HRD.out.nil (by simp; omega)
              rw [List.nil_append] at hrb
              have HRB := Lib.hid hrb
              clear hrb
              go_wp2_with (at_builtin; refine wpList_append_eq _ _ rfl rfl h1 rfl rfl rfl ?_)
              clear h1
              refine ⟨⟨⟨wb, HD0.out.nn HRB.out.upd⟩, rfl⟩, ?_⟩
              refine WA.one HRG.out 3 5 rfl (by kernel_rfl) ?_
              simp only [opsAt_cons, opsAt_nil, List.getElem?_toArray, List.getElem?_cons_zero, List.getElem?_cons_succ, consO_some]
              go_wp2_with fail
              have HRX := Lib.hid (HRB.out.with_ x)
              generalize hq : wb.heap.size = qn at *
              clear hq
              generalize wb.alloc (.cells #[.int .i64 x.id, .string x.dest, .int .i64 x.pri, .int .i64 x.at_] 39) = wc at *
              refine ⟨⟨⟨wc, HD0.out.nn HRX.out.row.upd⟩, rfl⟩, ?_⟩
              obtain ⟨v6, we, h1, hre, _, _⟩ := HRX.out.row.app ek39 (l := [x]) (c := 1) HRX.out.one (by intro h; cases h) (by simp; omega)
              have HROW := Lib.hid hre
              clear hre
              refine WA.one HRG.out 2 6 rfl (by kernel_rfl) ?_
              simp only [opsAt_cons, opsAt_nil, List.getElem?_toArray, List.getElem?_cons_zero, List.getElem?_cons_succ, consO_some]
              go_wp2_with (at_builtin; refine wpList_append_eq _ _ rfl rfl h1 rfl rfl rfl ?_)
              clear h1 HRX HRB HRA
              refine ⟨⟨⟨we, HD0.out.nn HROW.out.upd⟩, rfl⟩, ?_⟩
              have HPE := Lib.hid (HP4.out.upd (HD0.out.nn HROW.out.upd) (fun h => h))
              have HWE := Lib.hid (HD0.out.nn HROW.out.upd)
              obtain ⟨A5, c5, e5, hr5, hA5⟩ := HROW.out.re
              subst e5
              have H5 := Lib.hid (And.intro hr5 (show ∀ ad, A5 = some ad → w4.heap.size ≤ ad.block from fun ad e => by have := hA5 ad e; have := HD0.out.size; omega))
              have x3 : we.cell? ⟨w.heap.size, 3, none⟩ = some (.slice A L.length cap) := (HPE.out.cell 3).trans rfl
              have yf := HPE.out.frozen 3
              clear hr5 hA5 HROW HRD
              generalize hMM : L ++ [x] = MM at *
              have HMM := Lib.hid hMM
              clear hMM
              refine WA.seg HRG.out 1 [7] rfl (by kernel_rfl) ?_
              simp only [opsAt_cons, opsAt_nil, List.getElem?_toArray, List.getElem?_cons_zero, List.getElem?_cons_succ, consO_some]
              repeat (first | go_big_quiet_skip | (go_big_quiet_want; go_big_quiet_op; go_big_quiet_on))
              refine wpQuiet_nil ?_
              refine WA.fin (by kernel_rfl) ?_
              simp only [opsAt_cons, opsAt_nil, List.getElem?_toArray, List.getElem?_cons_zero, List.getElem?_cons_succ, consO_some]
              go_upto_region 8 with (fail)
              have HPF := Lib.hid (HPE.out.set3 (.slice A5 MM.length c5))
              have huf : Upd we (we.setCell ⟨w.heap.size, 3, none⟩ (.slice A5 MM.length c5)) (fun i => i = w.heap.size) := (Upd.refl we _).set _ _ (.inl rfl)
              have HUF := Lib.hid huf
              clear x3 yf huf
              generalize we.setCell ⟨w.heap.size, 3, none⟩ (.slice A5 MM.length c5) = wf at *
              have HQF := Lib.hid ((HQ4.out.upd HWE.out (fun h => h)).upd HUF.out (fun e => by omega))
              have HUG := Lib.hid (show Upd w wf Nope from (HU4.out.nn HWE.out).on (g := w.heap.size) HUF.out (Nat.le_refl _))
              have x0 : wf.cell? ⟨w.heap.size, 0, none⟩ = some (.int .i64 age) := (HPF.out.cell 0).trans rfl
              have x1 : wf.cell? ⟨w.heap.size, 1, none⟩ = some (.int .i64 limit) := (HPF.out.cell 1).trans rfl
              have x2 : wf.cell? ⟨w.heap.size, 2, none⟩ = some (.int .i64 room) := (HPF.out.cell 2).trans rfl
              have x3 : wf.cell? ⟨w.heap.size, 3, none⟩ = some (.slice A5 MM.length c5) := (HPF.out.cell 3).trans rfl
              have x4 : wf.cell? ⟨w.heap.size, 4, none⟩ = some (.slice B Fl.length capB) := (HPF.out.cell 4).trans rfl
              have y0 := HQF.out.frozen 0
              have y1 := HQF.out.frozen 1
              have y2 := HQF.out.frozen 2
              have y3 := HQF.out.frozen 3
              have y4 := HQF.out.frozen 4
              have q0 : wf.cell? ⟨w.heap.size + 2, 0, none⟩ = some (.int .i64 0) := (HQF.out.cell 0).trans rfl
              have q1 : wf.cell? ⟨w.heap.size + 2, 1, none⟩ = some (.int .i64 0) := (HQF.out.cell 1).trans rfl
              have q2 : wf.cell? ⟨w.heap.size + 2, 2, none⟩ = some (.int .i64 0) := (HQF.out.cell 2).trans rfl
              have q3 : wf.cell? ⟨w.heap.size + 2, 3, none⟩ = some (.slice none 0 0) := (HQF.out.cell 3).trans rfl
              have q4 : wf.cell? ⟨w.heap.size + 2, 4, none⟩ = some (.slice none 0 0) := (HQF.out.cell 4).trans rfl
              go_wp2_with fail
              have hb6 := HQF.out.put5 (.int .i64 age) (.int .i64 limit) (.int .i64 room) (.slice A5 MM.length c5) (.slice B Fl.length capB)
              have hu6 := HUG.out.on (g := w.heap.size + 2) (Upd.put5 wf (w.heap.size + 2) (.int .i64 age) (.int .i64 limit) (.int .i64 room) (.slice A5 MM.length c5) (.slice B Fl.length capB)) (by omega)
              have hr6 := (H5.out.1.away HUF.out (fun ad e k => by have := H5.out.2 ad e; have := HQ4.out.lt; omega)).away (Upd.put5 wf (w.heap.size + 2) (.int .i64 age) (.int .i64 limit) (.int .i64 room) (.slice A5 MM.length c5) (.slice B Fl.length capB)) (fun ad e k => by have := H5.out.2 ad e; have := HQ4.out.lt; omega)
              clear x0 x1 x2 x3 x4 y0 y1 y2 y3 y4 q0 q1 q2 q3 q4
              generalize ((((wf.setCell ⟨w.heap.size + 2, 0, none⟩ (.int .i64 age)).setCell ⟨w.heap.size + 2, 1, none⟩ (.int .i64 limit)).setCell ⟨w.heap.size + 2, 2, none⟩ (.int .i64 room)).setCell ⟨w.heap.size + 2, 3, none⟩ (.slice A5 MM.length c5)).setCell ⟨w.heap.size + 2, 4, none⟩ (.slice B Fl.length capB) = w6 at *
              have r0 : w6.cell? ⟨w.heap.size + 2, 0, none⟩ = some (.int .i64 age) := (hb6.cell 0).trans rfl
              have r1 : w6.cell? ⟨w.heap.size + 2, 1, none⟩ = some (.int .i64 limit) := (hb6.cell 1).trans rfl
              have r2 : w6.cell? ⟨w.heap.size + 2, 2, none⟩ = some (.int .i64 room) := (hb6.cell 2).trans rfl
              have r3 : w6.cell? ⟨w.heap.size + 2, 3, none⟩ = some (.slice A5 MM.length c5) := (hb6.cell 3).trans rfl
              have r4 : w6.cell? ⟨w.heap.size + 2, 4, none⟩ = some (.slice B Fl.length capB) := (hb6.cell 4).trans rfl
              refine bodyPost_ret (v := .tuple #[.agg #[.int .i64 age, .int .i64 limit, .int .i64 room, .slice A5 MM.length c5, .slice B Fl.length capB], .int .i64 (0)]) (by simp [results, Try.results12, go_sem, r0, r1, r2, r3, r4]) rfl ?_
              rw [HE.out.1, HE.out.2]
              exact ⟨A5, B, c5, capB, rfl, hr6, HB.out.nn hu6, hu6, .inr fun ad e => by have := H5.out.2 ad e; have := HU4.out.size; omega, .inl rfl⟩
            · go_wp2_with fail
              have HRX := Lib.hid (HRA.out.with_ x)
              generalize hq : wa.heap.size = qn at *
              clear hq
              generalize wa.alloc (.cells #[.int .i64 x.id, .string x.dest, .int .i64 x.pri, .int .i64 x.at_] 39) = wb at *
              refine ⟨⟨⟨wb, HD0.out.nn HRX.out.row.upd⟩, rfl⟩, ?_⟩
              obtain ⟨v4, wc, h1, hrc⟩ := HRX.out.app ek39 (l := L) (c := cap) ((HRD.out.nn HRX.out.row.upd).rd) HRD.out.nil (by simp; omega)
              rw [List.nil_append] at hrc
              have HRC := Lib.hid hrc
              clear hrc
              refine WA.one HRG.out 3 3 rfl (by kernel_rfl) ?_
              simp only [opsAt_cons, opsAt_nil, List.getElem?_toArray, List.getElem?_cons_zero, List.getElem?_cons_succ, consO_some]
              go_wp2_with (at_builtin; refine wpList_append_eq _ _ rfl rfl h1 rfl rfl rfl ?_)
              clear h1
              refine ⟨⟨⟨wc, HD0.out.nn HRC.out.row.upd⟩, rfl⟩, ?_⟩
              obtain ⟨v6, we, h1, hre, _, _⟩ := HRC.out.row.app ek39 (l := [x]) (c := 1) HRC.out.one (by intro h; cases h) (by simp; omega)
              have HROW := Lib.hid hre
              clear hre
              refine WA.one HRG.out 2 6 rfl (by kernel_rfl) ?_
              simp only [opsAt_cons, opsAt_nil, List.getElem?_toArray, List.getElem?_cons_zero, List.getElem?_cons_succ, consO_some]
              go_wp2_with (at_builtin; refine wpList_append_eq _ _ rfl rfl h1 rfl rfl rfl ?_)
              clear h1 HRX HRC HRA
              refine ⟨⟨⟨we, HD0.out.nn HROW.out.upd⟩, rfl⟩, ?_⟩
              have HPE := Lib.hid (HP4.out.upd (HD0.out.nn HROW.out.upd) (fun h => h))
              have HWE := Lib.hid (HD0.out.nn HROW.out.upd)
              obtain ⟨A5, c5, e5, hr5, hA5⟩ := HROW.out.re
              subst e5
              have H5 := Lib.hid (And.intro hr5 (show ∀ ad, A5 = some ad → w4.heap.size ≤ ad.block from fun ad e => by have := hA5 ad e; have := HD0.out.size; omega))
              have x3 : we.cell? ⟨w.heap.size, 3, none⟩ = some (.slice A L.length cap) := (HPE.out.cell 3).trans rfl
              have yf := HPE.out.frozen 3
              clear hr5 hA5 HROW HRD
              generalize hMM : L ++ [x] = MM at *
              have HMM := Lib.hid hMM
              clear hMM
              refine WA.seg HRG.out 1 [7] rfl (by kernel_rfl) ?_
              simp only [opsAt_cons, opsAt_nil, List.getElem?_toArray, List.getElem?_cons_zero, List.getElem?_cons_succ, consO_some]
              repeat (first | go_big_quiet_skip | (go_big_quiet_want; go_big_quiet_op; go_big_quiet_on))
              refine wpQuiet_nil ?_
              refine WA.fin (by kernel_rfl) ?_
              simp only [opsAt_cons, opsAt_nil, List.getElem?_toArray, List.getElem?_cons_zero, List.getElem?_cons_succ, consO_some]
              go_upto_region 8 with (fail)
              have HPF := Lib.hid (HPE.out.set3 (.slice A5 MM.length c5))
              have huf : Upd we (we.setCell ⟨w.heap.size, 3, none⟩ (.slice A5 MM.length c5)) (fun i => i = w.heap.size) := (Upd.refl we _).set _ _ (.inl rfl)
              have HUF := Lib.hid huf
              clear x3 yf huf
              generalize we.setCell ⟨w.heap.size, 3, none⟩ (.slice A5 MM.length c5) = wf at *
              have HQF := Lib.hid ((HQ4.out.upd HWE.out (fun h => h)).upd HUF.out (fun e => by omega))
              have HUG := Lib.hid (show Upd w wf Nope from (HU4.out.nn HWE.out).on (g := w.heap.size) HUF.out (Nat.le_refl _))
              have x0 : wf.cell? ⟨w.heap.size, 0, none⟩ = some (.int .i64 age) := (HPF.out.cell 0).trans rfl
              have x1 : wf.cell? ⟨w.heap.size, 1, none⟩ = some (.int .i64 limit) := (HPF.out.cell 1).trans rfl
              have x2 : wf.cell? ⟨w.heap.size, 2, none⟩ = some (.int .i64 room) := (HPF.out.cell 2).trans rfl
              have x3 : wf.cell? ⟨w.heap.size, 3, none⟩ = some (.slice A5 MM.length c5) := (HPF.out.cell 3).trans rfl
              have x4 : wf.cell? ⟨w.heap.size, 4, none⟩ = some (.slice B Fl.length capB) := (HPF.out.cell 4).trans rfl
              have y0 := HQF.out.frozen 0
              have y1 := HQF.out.frozen 1
              have y2 := HQF.out.frozen 2
              have y3 := HQF.out.frozen 3
              have y4 := HQF.out.frozen 4
              have q0 : wf.cell? ⟨w.heap.size + 2, 0, none⟩ = some (.int .i64 0) := (HQF.out.cell 0).trans rfl
              have q1 : wf.cell? ⟨w.heap.size + 2, 1, none⟩ = some (.int .i64 0) := (HQF.out.cell 1).trans rfl
              have q2 : wf.cell? ⟨w.heap.size + 2, 2, none⟩ = some (.int .i64 0) := (HQF.out.cell 2).trans rfl
              have q3 : wf.cell? ⟨w.heap.size + 2, 3, none⟩ = some (.slice none 0 0) := (HQF.out.cell 3).trans rfl
              have q4 : wf.cell? ⟨w.heap.size + 2, 4, none⟩ = some (.slice none 0 0) := (HQF.out.cell 4).trans rfl
              go_wp2_with fail
              have hb6 := HQF.out.put5 (.int .i64 age) (.int .i64 limit) (.int .i64 room) (.slice A5 MM.length c5) (.slice B Fl.length capB)
              have hu6 := HUG.out.on (g := w.heap.size + 2) (Upd.put5 wf (w.heap.size + 2) (.int .i64 age) (.int .i64 limit) (.int .i64 room) (.slice A5 MM.length c5) (.slice B Fl.length capB)) (by omega)
              have hr6 := (H5.out.1.away HUF.out (fun ad e k => by have := H5.out.2 ad e; have := HQ4.out.lt; omega)).away (Upd.put5 wf (w.heap.size + 2) (.int .i64 age) (.int .i64 limit) (.int .i64 room) (.slice A5 MM.length c5) (.slice B Fl.length capB)) (fun ad e k => by have := H5.out.2 ad e; have := HQ4.out.lt; omega)
              clear x0 x1 x2 x3 x4 y0 y1 y2 y3 y4 q0 q1 q2 q3 q4
              generalize ((((wf.setCell ⟨w.heap.size + 2, 0, none⟩ (.int .i64 age)).setCell ⟨w.heap.size + 2, 1, none⟩ (.int .i64 limit)).setCell ⟨w.heap.size + 2, 2, none⟩ (.int .i64 room)).setCell ⟨w.heap.size + 2, 3, none⟩ (.slice A5 MM.length c5)).setCell ⟨w.heap.size + 2, 4, none⟩ (.slice B Fl.length capB) = w6 at *
              have r0 : w6.cell? ⟨w.heap.size + 2, 0, none⟩ = some (.int .i64 age) := (hb6.cell 0).trans rfl
              have r1 : w6.cell? ⟨w.heap.size + 2, 1, none⟩ = some (.int .i64 limit) := (hb6.cell 1).trans rfl
              have r2 : w6.cell? ⟨w.heap.size + 2, 2, none⟩ = some (.int .i64 room) := (hb6.cell 2).trans rfl
              have r3 : w6.cell? ⟨w.heap.size + 2, 3, none⟩ = some (.slice A5 MM.length c5) := (hb6.cell 3).trans rfl
              have r4 : w6.cell? ⟨w.heap.size + 2, 4, none⟩ = some (.slice B Fl.length capB) := (hb6.cell 4).trans rfl
              refine bodyPost_ret (v := .tuple #[.agg #[.int .i64 age, .int .i64 limit, .int .i64 room, .slice A5 MM.length c5, .slice B Fl.length capB], .int .i64 (0)]) (by simp [results, Try.results12, go_sem, r0, r1, r2, r3, r4]) rfl ?_
              rw [HE.out.1, HE.out.2]
              exact ⟨A5, B, c5, capB, rfl, hr6, HB.out.nn hu6, hu6, .inr fun ad e => by have := H5.out.2 ad e; have := HU4.out.size; omega, .inl rfl⟩
          · go_wp2_with fail
            have hu1 : Upd wd (wd.alloc (.cells #[.int .i64 x.id, .string x.dest, .int .i64 x.pri, .int .i64 x.at_] 39)) Nope := (Upd.refl _ _).alloc _
            refine ⟨⟨⟨wd.alloc (.cells #[.int .i64 x.id, .string x.dest, .int .i64 x.pri, .int .i64 x.at_] 39), HD0.out.nn hu1⟩, rfl⟩, ?_⟩
            refine WA.one HRG.out 4 0 rfl (by kernel_rfl) ?_
            simp only [opsAt_cons, opsAt_nil, List.getElem?_toArray, List.getElem?_cons_zero, List.getElem?_cons_succ, consO_some]
            go_wp2_with fail
            have HRX := Lib.hid (RowX.first 39 wd x)
            have hsz : (wd.alloc (.cells #[.int .i64 x.id, .string x.dest, .int .i64 x.pri, .int .i64 x.at_] 39)).heap.size = wd.heap.size + 1 := by simp
            try rw [hsz]
            clear hsz hu1
            generalize (wd.alloc (.cells #[.int .i64 x.id, .string x.dest, .int .i64 x.pri, .int .i64 x.at_] 39)).alloc (.cells #[] 39) = wb at *
            refine ⟨⟨⟨wb, HD0.out.nn HRX.out.row.upd⟩, rfl⟩, ?_⟩
            obtain ⟨v4, wc, h1, hrc⟩ := HRX.out.app ek39 (l := L) (c := cap) ((HRD.out.nn HRX.out.row.upd).rd) HRD.out.nil (by simp; omega)
            rw [List.nil_append] at hrc
            have HRC := Lib.hid hrc
            clear hrc
            refine WA.one HRG.out 3 3 rfl (by kernel_rfl) ?_
            simp only [opsAt_cons, opsAt_nil, List.getElem?_toArray, List.getElem?_cons_zero, List.getElem?_cons_succ, consO_some]
            go_wp2_with (at_builtin; refine wpList_append_eq _ _ rfl rfl h1 rfl rfl rfl ?_)
            clear h1
            refine ⟨⟨⟨wc, HD0.out.nn HRC.out.row.upd⟩, rfl⟩, ?_⟩
            obtain ⟨v6, we, h1, hre, _, _⟩ := HRC.out.row.app ek39 (l := [x]) (c := 1) HRC.out.one (by intro h; cases h) (by simp; omega)
            have HROW := Lib.hid hre
            clear hre
            refine WA.one HRG.out 2 6 rfl (by kernel_rfl) ?_
            simp only [opsAt_cons, opsAt_nil, List.getElem?_toArray, List.getElem?_cons_zero, List.getElem?_cons_succ, consO_some]
            go_wp2_with (at_builtin; refine wpList_append_eq _ _ rfl rfl h1 rfl rfl rfl ?_)
            clear h1 HRX HRC
            refine ⟨⟨⟨we, HD0.out.nn HROW.out.upd⟩, rfl⟩, ?_⟩
            have HPE := Lib.hid (HP4.out.upd (HD0.out.nn HROW.out.upd) (fun h => h))
            have HWE := Lib.hid (HD0.out.nn HROW.out.upd)
            obtain ⟨A5, c5, e5, hr5, hA5⟩ := HROW.out.re
            subst e5
            have H5 := Lib.hid (And.intro hr5 (show ∀ ad, A5 = some ad → w4.heap.size ≤ ad.block from fun ad e => by have := hA5 ad e; have := HD0.out.size; omega))
            have x3 : we.cell? ⟨w.heap.size, 3, none⟩ = some (.slice A L.length cap) := (HPE.out.cell 3).trans rfl
            have yf := HPE.out.frozen 3
            clear hr5 hA5 HROW HRD
            generalize hMM : L ++ [x] = MM at *
            have HMM := Lib.hid hMM
            clear hMM
            refine WA.seg HRG.out 1 [7] rfl (by kernel_rfl) ?_
            simp only [opsAt_cons, opsAt_nil, List.getElem?_toArray, List.getElem?_cons_zero, List.getElem?_cons_succ, consO_some]
            repeat (first | go_big_quiet_skip | (go_big_quiet_want; go_big_quiet_op; go_big_quiet_on))
            refine wpQuiet_nil ?_
            refine WA.fin (by kernel_rfl) ?_
            simp only [opsAt_cons, opsAt_nil, List.getElem?_toArray, List.getElem?_cons_zero, List.getElem?_cons_succ, consO_some]
            go_upto_region 8 with (fail)
            have HPF := Lib.hid (HPE.out.set3 (.slice A5 MM.length c5))
            have huf : Upd we (we.setCell ⟨w.heap.size, 3, none⟩ (.slice A5 MM.length c5)) (fun i => i = w.heap.size) := (Upd.refl we _).set _ _ (.inl rfl)
            have HUF := Lib.hid huf
            clear x3 yf huf
            generalize we.setCell ⟨w.heap.size, 3, none⟩ (.slice A5 MM.length c5) = wf at *
            have HQF := Lib.hid ((HQ4.out.upd HWE.out (fun h => h)).upd HUF.out (fun e => by omega))
            have HUG := Lib.hid (show Upd w wf Nope from (HU4.out.nn HWE.out).on (g := w.heap.size) HUF.out (Nat.le_refl _))
            have x0 : wf.cell? ⟨w.heap.size, 0, none⟩ = some (.int .i64 age) := (HPF.out.cell 0).trans rfl
            have x1 : wf.cell? ⟨w.heap.size, 1, none⟩ = some (.int .i64 limit) := (HPF.out.cell 1).trans rfl
            have x2 : wf.cell? ⟨w.heap.size, 2, none⟩ = some (.int .i64 room) := (HPF.out.cell 2).trans rfl
            have x3 : wf.cell? ⟨w.heap.size, 3, none⟩ = some (.slice A5 MM.length c5) := (HPF.out.cell 3).trans rfl
            have x4 : wf.cell? ⟨w.heap.size, 4, none⟩ = some (.slice B Fl.length capB) := (HPF.out.cell 4).trans rfl
            have y0 := HQF.out.frozen 0
            have y1 := HQF.out.frozen 1
            have y2 := HQF.out.frozen 2
            have y3 := HQF.out.frozen 3
            have y4 := HQF.out.frozen 4
            have q0 : wf.cell? ⟨w.heap.size + 2, 0, none⟩ = some (.int .i64 0) := (HQF.out.cell 0).trans rfl
            have q1 : wf.cell? ⟨w.heap.size + 2, 1, none⟩ = some (.int .i64 0) := (HQF.out.cell 1).trans rfl
            have q2 : wf.cell? ⟨w.heap.size + 2, 2, none⟩ = some (.int .i64 0) := (HQF.out.cell 2).trans rfl
            have q3 : wf.cell? ⟨w.heap.size + 2, 3, none⟩ = some (.slice none 0 0) := (HQF.out.cell 3).trans rfl
            have q4 : wf.cell? ⟨w.heap.size + 2, 4, none⟩ = some (.slice none 0 0) := (HQF.out.cell 4).trans rfl
            go_wp2_with fail
            have hb6 := HQF.out.put5 (.int .i64 age) (.int .i64 limit) (.int .i64 room) (.slice A5 MM.length c5) (.slice B Fl.length capB)
            have hu6 := HUG.out.on (g := w.heap.size + 2) (Upd.put5 wf (w.heap.size + 2) (.int .i64 age) (.int .i64 limit) (.int .i64 room) (.slice A5 MM.length c5) (.slice B Fl.length capB)) (by omega)
            have hr6 := (H5.out.1.away HUF.out (fun ad e k => by have := H5.out.2 ad e; have := HQ4.out.lt; omega)).away (Upd.put5 wf (w.heap.size + 2) (.int .i64 age) (.int .i64 limit) (.int .i64 room) (.slice A5 MM.length c5) (.slice B Fl.length capB)) (fun ad e k => by have := H5.out.2 ad e; have := HQ4.out.lt; omega)
            clear x0 x1 x2 x3 x4 y0 y1 y2 y3 y4 q0 q1 q2 q3 q4
            generalize ((((wf.setCell ⟨w.heap.size + 2, 0, none⟩ (.int .i64 age)).setCell ⟨w.heap.size + 2, 1, none⟩ (.int .i64 limit)).setCell ⟨w.heap.size + 2, 2, none⟩ (.int .i64 room)).setCell ⟨w.heap.size + 2, 3, none⟩ (.slice A5 MM.length c5)).setCell ⟨w.heap.size + 2, 4, none⟩ (.slice B Fl.length capB) = w6 at *
            have r0 : w6.cell? ⟨w.heap.size + 2, 0, none⟩ = some (.int .i64 age) := (hb6.cell 0).trans rfl
            have r1 : w6.cell? ⟨w.heap.size + 2, 1, none⟩ = some (.int .i64 limit) := (hb6.cell 1).trans rfl
            have r2 : w6.cell? ⟨w.heap.size + 2, 2, none⟩ = some (.int .i64 room) := (hb6.cell 2).trans rfl
            have r3 : w6.cell? ⟨w.heap.size + 2, 3, none⟩ = some (.slice A5 MM.length c5) := (hb6.cell 3).trans rfl
            have r4 : w6.cell? ⟨w.heap.size + 2, 4, none⟩ = some (.slice B Fl.length capB) := (hb6.cell 4).trans rfl
            refine bodyPost_ret (v := .tuple #[.agg #[.int .i64 age, .int .i64 limit, .int .i64 room, .slice A5 MM.length c5, .slice B Fl.length capB], .int .i64 (0)]) (by simp [results, Try.results12, go_sem, r0, r1, r2, r3, r4]) rfl ?_
            rw [HE.out.1, HE.out.2]
            exact ⟨A5, B, c5, capB, rfl, hr6, HB.out.nn hu6, hu6, .inr fun ad e => by have := H5.out.2 ad e; have := HU4.out.size; omega, .inl rfl⟩
      · skip
        have HE := Lib.hid (show putFC room L Fl x = 11 ∧ putFL room L Fl x = L by
          have : putFC room L Fl x = 11 := by unfold putFC; rw [if_neg (by rw [HOK.out]; simp), if_pos (.inr h3)]
          exact ⟨this, by unfold putFL; rw [this]; rfl⟩)
        rw [h1]
        clear h1 h2 h3 HPC hk
        go_upto_region 4 with (fail)
        have x0 : w4.cell? ⟨w.heap.size, 0, none⟩ = some (.int .i64 age) := (HP4.out.cell 0).trans rfl
        have x1 : w4.cell? ⟨w.heap.size, 1, none⟩ = some (.int .i64 limit) := (HP4.out.cell 1).trans rfl
        have x2 : w4.cell? ⟨w.heap.size, 2, none⟩ = some (.int .i64 room) := (HP4.out.cell 2).trans rfl
        have x3 : w4.cell? ⟨w.heap.size, 3, none⟩ = some (.slice A L.length cap) := (HP4.out.cell 3).trans rfl
        have x4 : w4.cell? ⟨w.heap.size, 4, none⟩ = some (.slice B Fl.length capB) := (HP4.out.cell 4).trans rfl
        have y0 := HQ4.out.frozen 0
        have y1 := HQ4.out.frozen 1
        have y2 := HQ4.out.frozen 2
        have y3 := HQ4.out.frozen 3
        have y4 := HQ4.out.frozen 4
        have q0 : w4.cell? ⟨w.heap.size + 2, 0, none⟩ = some (.int .i64 0) := (HQ4.out.cell 0).trans rfl
        have q1 : w4.cell? ⟨w.heap.size + 2, 1, none⟩ = some (.int .i64 0) := (HQ4.out.cell 1).trans rfl
        have q2 : w4.cell? ⟨w.heap.size + 2, 2, none⟩ = some (.int .i64 0) := (HQ4.out.cell 2).trans rfl
        have q3 : w4.cell? ⟨w.heap.size + 2, 3, none⟩ = some (.slice none 0 0) := (HQ4.out.cell 3).trans rfl
        have q4 : w4.cell? ⟨w.heap.size + 2, 4, none⟩ = some (.slice none 0 0) := (HQ4.out.cell 4).trans rfl
        go_wp2_with fail
        have hb5 := HQ4.out.put5 (.int .i64 age) (.int .i64 limit) (.int .i64 room) (.slice A L.length cap) (.slice B Fl.length capB)
        have hu5 := HU4.out.on (g := w.heap.size + 2) (Upd.put5 w4 (w.heap.size + 2) (.int .i64 age) (.int .i64 limit) (.int .i64 room) (.slice A L.length cap) (.slice B Fl.length capB)) (by omega)

        clear x0 x1 x2 x3 x4 y0 y1 y2 y3 y4 q0 q1 q2 q3 q4
        generalize ((((w4.setCell ⟨w.heap.size + 2, 0, none⟩ (.int .i64 age)).setCell ⟨w.heap.size + 2, 1, none⟩ (.int .i64 limit)).setCell ⟨w.heap.size + 2, 2, none⟩ (.int .i64 room)).setCell ⟨w.heap.size + 2, 3, none⟩ (.slice A L.length cap)).setCell ⟨w.heap.size + 2, 4, none⟩ (.slice B Fl.length capB) = w5 at *
        have r0 : w5.cell? ⟨w.heap.size + 2, 0, none⟩ = some (.int .i64 age) := (hb5.cell 0).trans rfl
        have r1 : w5.cell? ⟨w.heap.size + 2, 1, none⟩ = some (.int .i64 limit) := (hb5.cell 1).trans rfl
        have r2 : w5.cell? ⟨w.heap.size + 2, 2, none⟩ = some (.int .i64 room) := (hb5.cell 2).trans rfl
        have r3 : w5.cell? ⟨w.heap.size + 2, 3, none⟩ = some (.slice A L.length cap) := (hb5.cell 3).trans rfl
        have r4 : w5.cell? ⟨w.heap.size + 2, 4, none⟩ = some (.slice B Fl.length capB) := (hb5.cell 4).trans rfl
        refine bodyPost_ret (v := .tuple #[.agg #[.int .i64 age, .int .i64 limit, .int .i64 room, .slice A L.length cap, .slice B Fl.length capB], .int .i64 (11)]) (by simp [results, Try.results12, go_sem, r0, r1, r2, r3, r4]) rfl ?_
        rw [HE.out.1, HE.out.2]
        exact ⟨A, B, cap, capB, rfl, HR.out.nn hu5, HB.out.nn hu5, hu5, .inl rfl, .inl rfl⟩
    · skip
      have HE := Lib.hid (show putFC room L Fl x = 11 ∧ putFL room L Fl x = L by
        have : putFC room L Fl x = 11 := by unfold putFC; rw [if_neg (by rw [HOK.out]; simp), if_pos (.inl h3)]
        exact ⟨this, by unfold putFL; rw [this]; rfl⟩)
      rw [h1]
      clear h1 h2 h3 HPC hk
      go_upto_region 4 with (fail)
      have x0 : w3.cell? ⟨w.heap.size, 0, none⟩ = some (.int .i64 age) := (HP3.out.cell 0).trans rfl
      have x1 : w3.cell? ⟨w.heap.size, 1, none⟩ = some (.int .i64 limit) := (HP3.out.cell 1).trans rfl
      have x2 : w3.cell? ⟨w.heap.size, 2, none⟩ = some (.int .i64 room) := (HP3.out.cell 2).trans rfl
      have x3 : w3.cell? ⟨w.heap.size, 3, none⟩ = some (.slice A L.length cap) := (HP3.out.cell 3).trans rfl
      have x4 : w3.cell? ⟨w.heap.size, 4, none⟩ = some (.slice B Fl.length capB) := (HP3.out.cell 4).trans rfl
      have y0 := HQ3.out.frozen 0
      have y1 := HQ3.out.frozen 1
      have y2 := HQ3.out.frozen 2
      have y3 := HQ3.out.frozen 3
      have y4 := HQ3.out.frozen 4
      have q0 : w3.cell? ⟨w.heap.size + 2, 0, none⟩ = some (.int .i64 0) := (HQ3.out.cell 0).trans rfl
      have q1 : w3.cell? ⟨w.heap.size + 2, 1, none⟩ = some (.int .i64 0) := (HQ3.out.cell 1).trans rfl
      have q2 : w3.cell? ⟨w.heap.size + 2, 2, none⟩ = some (.int .i64 0) := (HQ3.out.cell 2).trans rfl
      have q3 : w3.cell? ⟨w.heap.size + 2, 3, none⟩ = some (.slice none 0 0) := (HQ3.out.cell 3).trans rfl
      have q4 : w3.cell? ⟨w.heap.size + 2, 4, none⟩ = some (.slice none 0 0) := (HQ3.out.cell 4).trans rfl
      go_wp2_with fail
      have hb5 := HQ3.out.put5 (.int .i64 age) (.int .i64 limit) (.int .i64 room) (.slice A L.length cap) (.slice B Fl.length capB)
      have hu5 := HU3.out.on (g := w.heap.size + 2) (Upd.put5 w3 (w.heap.size + 2) (.int .i64 age) (.int .i64 limit) (.int .i64 room) (.slice A L.length cap) (.slice B Fl.length capB)) (by omega)

      clear x0 x1 x2 x3 x4 y0 y1 y2 y3 y4 q0 q1 q2 q3 q4
      generalize ((((w3.setCell ⟨w.heap.size + 2, 0, none⟩ (.int .i64 age)).setCell ⟨w.heap.size + 2, 1, none⟩ (.int .i64 limit)).setCell ⟨w.heap.size + 2, 2, none⟩ (.int .i64 room)).setCell ⟨w.heap.size + 2, 3, none⟩ (.slice A L.length cap)).setCell ⟨w.heap.size + 2, 4, none⟩ (.slice B Fl.length capB) = w5 at *
      have r0 : w5.cell? ⟨w.heap.size + 2, 0, none⟩ = some (.int .i64 age) := (hb5.cell 0).trans rfl
      have r1 : w5.cell? ⟨w.heap.size + 2, 1, none⟩ = some (.int .i64 limit) := (hb5.cell 1).trans rfl
      have r2 : w5.cell? ⟨w.heap.size + 2, 2, none⟩ = some (.int .i64 room) := (hb5.cell 2).trans rfl
      have r3 : w5.cell? ⟨w.heap.size + 2, 3, none⟩ = some (.slice A L.length cap) := (hb5.cell 3).trans rfl
      have r4 : w5.cell? ⟨w.heap.size + 2, 4, none⟩ = some (.slice B Fl.length capB) := (hb5.cell 4).trans rfl
      refine bodyPost_ret (v := .tuple #[.agg #[.int .i64 age, .int .i64 limit, .int .i64 room, .slice A L.length cap, .slice B Fl.length capB], .int .i64 (11)]) (by simp [results, Try.results12, go_sem, r0, r1, r2, r3, r4]) rfl ?_
      rw [HE.out.1, HE.out.2]
      exact ⟨A, B, cap, capB, rfl, HR.out.nn hu5, HB.out.nn hu5, hu5, .inl rfl, .inl rfl⟩
end Go.Proofs.Ythpilbooolgkiaa
