/- Put. -/
import Derived.Test.YthpilbooolgkiaaNew
import Derived.Test.YthpilbooolgkiaaRfc
set_option linter.unusedVariables false
set_option linter.unusedSimpArgs false
namespace Go.Proofs.Ythpilbooolgkiaa
open Go.RowKit

theorem quiet_lookS {C : World → Prop} {K : Act → Prop} {a : Act} {o : Oper} {b : Nat} {L : List (Int × ByteArray)} (hC : ∀ w, C w → Mp MS w b L) (m x : Operand) (hop : o.op = Op.lookup 65 m x true)
    (hm : a.eval m = .map (some b)) (key : Int) (hx : a.eval x = .int .i64 key) (ha : okI key) (hk : K (a.put o.dst (.tuple #[.string ((look key L).getD ByteArray.empty), .bool (look key L).isSome]))) : o.quiet Try.prog a C K :=
  ⟨_, fun w hw => by
    have e : (Instr.lookup 65 (.map (some b)) (.int .i64 key) true).run Try.prog w = .ok (.tuple #[.string ((look key L).getD ByteArray.empty), .bool (look key L).isSome]) w := (hC w hw).lookup true key ha
    unfold Oper.quietAt
    simp [execOp, hop, hm, hx, e, Oper.quietUpon, Result.andThen], hk⟩
/-- May the entry be put at all? -/
def okP (x : En) : Bool := !(decide (x.id < 0) || x.dest.toList.isEmpty || decide (255 < x.dest.size) || decide (x.pri < -9) || decide (9 < x.pri) || decide (x.at_ < 0) || decide (1099511627776 < x.at_))
def putC (room : Int) (l : List En) (fly : List (Int × ByteArray)) (x : En) : Int :=
  if okP x = false then 1 else if (look x.id fly).isSome = true ∨ (l.any fun e => e.id == x.id) = true then 11 else if room ≤ l.length then 6 else 0
def putL (room : Int) (l : List En) (fly : List (Int × ByteArray)) (x : En) : List En := if putC room l fly x = 0 then l ++ [x] else l
section
variable {w : World} {g : Nat} {F : Nat → Prop} {age limit room : Int} {l : List En} {fly : List (Int × ByteArray)} (h : RO w g F age limit room l fly)
include h
def PutP (w : World) (g : Nat) (F : Nat → Prop) (age limit room : Int) (l : List En) (fly : List (Int × ByteArray)) (x : En) (e : Ending) (w' : World) : Prop :=
  e = .returned (.int .i64 (putC room l fly x)) ∧ ∃ F', RO w' g F' age limit room (putL room l fly x) fly ∧ Gr w w' F F'
set_option maxHeartbeats 1000000 in
theorem RO.put_bad (x : En) (hid : okI x.id) (hx : x.dest.size ≤ 1000) (hb : okP x = false) : Calls Try.prog 13 #[.pointer (some ⟨g, 0, none⟩), .agg #[.int .i64 x.id, .string x.dest, .int .i64 x.pri, .int .i64 x.at_]] w (PutP w g F age limit room l fly x) := by
  obtain ⟨A, cap, b, h1, h2, h3, h4, h5, h6⟩ := h.out
  have c4 : w.cell? ⟨g, 4, none⟩ = some (.map (some b)) := (h1.cell 4).trans rfl
  have lg := h1.lt
  have lg1 : g < w.heap.size + 1 := by omega
  have hm := h3.upd ((Upd.refl w Nope).alloc (.cells #[.int .i64 x.id, .string x.dest, .int .i64 x.pri, .int .i64 x.at_] 34)) (fun h => h)
  have H := Lib.hid h
  clear h h1 h2 h3 h4 h5 h6
  go_enter Try.func13, Try.ntmps13
  go_upto_region 1 with (fail)
  have hU := (Upd.refl w Nope).alloc (.cells #[.int .i64 x.id, .string x.dest, .int .i64 x.pri, .int .i64 x.at_] 34)
  have hB := Blk.new w #[.int .i64 x.id, .string x.dest, .int .i64 x.pri, .int .i64 x.at_] 34
  have c4' := hU.cell c4 (fun h => h)
  generalize w.alloc (.cells #[.int .i64 x.id, .string x.dest, .int .i64 x.pri, .int .i64 x.at_] 34) = w2 at *
  have x0 : w2.cell? ⟨w.heap.size, 0, none⟩ = some (.int .i64 x.id) := (hB.cell 0).trans rfl
  have X0 := fun (z : UW w2) => z.cell x0
  have X4 := fun (z : UW w2) => z.cell c4'
  have HMQ := Lib.hid (fun (z : UW w2) => hm.upd z.ok (fun h => h))
  have HU := Lib.hid hU
  have HB := Lib.hid hB
  clear hm hU hB x0 c4' c4
  refine region_uw (by kernel_rfl) (by kernel_rfl) ?_
  repeat (first
    | go_big_quiet_skip
    | (go_big_quiet_want; first
        | (refine quiet_lookS (fun w' hw' => by obtain ⟨z, rfl⟩ := hw'; exact HMQ.out z) _ _ rfl rfl x.id rfl hid ?_; go_frame; go_big_quiet_on)
        | (go_big_quiet_op; go_big_quiet_on)))
  refine wpQuiet_nil ?_
  rintro _ ⟨z, rfl⟩
  have hUz := HU.out.nn z.ok
  have hBz := HB.out.upd z.ok (fun h => h)
  generalize z.val = w3 at *
  have e0 : w3.cell? ⟨w.heap.size, 0, none⟩ = some (.int .i64 x.id) := (hBz.cell 0).trans rfl
  have e1 : w3.cell? ⟨w.heap.size, 1, none⟩ = some (.string x.dest) := (hBz.cell 1).trans rfl
  have e2 : w3.cell? ⟨w.heap.size, 2, none⟩ = some (.int .i64 x.pri) := (hBz.cell 2).trans rfl
  have e3 : w3.cell? ⟨w.heap.size, 3, none⟩ = some (.int .i64 x.at_) := (hBz.cell 3).trans rfl
  have HR := Lib.hid (H.out.nn hUz)
  have HUZ := Lib.hid hUz
  have hpc : putC room l fly x = 1 ∧ putL room l fly x = l := by
    have : putC room l fly x = 1 := by unfold putC; rw [if_pos hb]
    exact ⟨this, by unfold putL; rw [this]; rfl⟩
  have HPC := Lib.hid hpc
  have hways : decide (x.id < 0) = true ∨ (decide (x.id < 0) = false ∧ x.dest.toList.isEmpty = true) ∨ (decide (x.id < 0) = false ∧ x.dest.toList.isEmpty = false ∧ decide (255 < (x.dest.size : Int)) = true) ∨
      (decide (x.id < 0) = false ∧ x.dest.toList.isEmpty = false ∧ decide (255 < (x.dest.size : Int)) = false ∧ decide (x.pri < -9) = true) ∨
      (decide (x.id < 0) = false ∧ x.dest.toList.isEmpty = false ∧ decide (255 < (x.dest.size : Int)) = false ∧ decide (x.pri < -9) = false ∧ decide (9 < x.pri) = true) ∨
      (decide (x.id < 0) = false ∧ x.dest.toList.isEmpty = false ∧ decide (255 < (x.dest.size : Int)) = false ∧ decide (x.pri < -9) = false ∧ decide (9 < x.pri) = false ∧ decide (x.at_ < 0) = true) ∨
      (decide (x.id < 0) = false ∧ x.dest.toList.isEmpty = false ∧ decide (255 < (x.dest.size : Int)) = false ∧ decide (x.pri < -9) = false ∧ decide (9 < x.pri) = false ∧ decide (x.at_ < 0) = false ∧ decide (1099511627776 < x.at_) = true) := by
    have hd : decide (255 < (x.dest.size : Int)) = decide (255 < x.dest.size) := by rw [decide_eq_decide]; omega
    rw [hd]
    unfold okP at hb
    revert hb
    cases decide (x.id < 0) <;> cases x.dest.toList.isEmpty <;> cases decide (255 < x.dest.size) <;> cases decide (x.pri < -9) <;> cases decide (9 < x.pri) <;> cases decide (x.at_ < 0) <;> cases decide (1099511627776 < x.at_) <;> simp
  clear hUz hBz hpc hb X0 X4 HMQ
  rcases hways with g1 | ⟨g1, g2⟩ | ⟨g1, g2, g3⟩ | ⟨g1, g2, g3, g4⟩ | ⟨g1, g2, g3, g4, g5⟩ | ⟨g1, g2, g3, g4, g5, g6⟩ | ⟨g1, g2, g3, g4, g5, g6, g7⟩
  all_goals
    go_wp2
    go_ret
    refine ⟨?_, F, ?_, ?_⟩
    · rw [HPC.out.1]; rfl
    · rw [HPC.out.2]; exact HR.out
    · exact ⟨HUZ.out.mono (fun _ _ h => h.elim), fun i h => .inl h⟩
set_option maxHeartbeats 1000000 in
theorem RO.put_twice (x : En) (hid : okI x.id) (hx : x.dest.size ≤ 1000) (hb : okP x = true) (hl : l.length ≤ 5000) (ht : (look x.id fly).isSome = true ∨ (l.any fun e => e.id == x.id) = true) : Calls Try.prog 13 #[.pointer (some ⟨g, 0, none⟩), .agg #[.int .i64 x.id, .string x.dest, .int .i64 x.pri, .int .i64 x.at_]] w (PutP w g F age limit room l fly x) := by
  obtain ⟨A, cap, b, h1, h2, h3, h4, h5, h6⟩ := h.out
  have c4 : w.cell? ⟨g, 4, none⟩ = some (.map (some b)) := (h1.cell 4).trans rfl
  have lg := h1.lt
  have lg1 : g < w.heap.size + 1 := by omega
  have hm := h3.upd ((Upd.refl w Nope).alloc (.cells #[.int .i64 x.id, .string x.dest, .int .i64 x.pri, .int .i64 x.at_] 34)) (fun h => h)
  have H := Lib.hid h
  have HT := Lib.hid ht
  clear ht
  clear h h1 h2 h3 h4 h5 h6
  go_enter Try.func13, Try.ntmps13
  go_upto_region 1 with (fail)
  have hU := (Upd.refl w Nope).alloc (.cells #[.int .i64 x.id, .string x.dest, .int .i64 x.pri, .int .i64 x.at_] 34)
  have hB := Blk.new w #[.int .i64 x.id, .string x.dest, .int .i64 x.pri, .int .i64 x.at_] 34
  have c4' := hU.cell c4 (fun h => h)
  generalize w.alloc (.cells #[.int .i64 x.id, .string x.dest, .int .i64 x.pri, .int .i64 x.at_] 34) = w2 at *
  have x0 : w2.cell? ⟨w.heap.size, 0, none⟩ = some (.int .i64 x.id) := (hB.cell 0).trans rfl
  have X0 := fun (z : UW w2) => z.cell x0
  have X4 := fun (z : UW w2) => z.cell c4'
  have HMQ := Lib.hid (fun (z : UW w2) => hm.upd z.ok (fun h => h))
  have HU := Lib.hid hU
  have HB := Lib.hid hB
  clear hm hU hB x0 c4' c4
  refine region_uw (by kernel_rfl) (by kernel_rfl) ?_
  repeat (first
    | go_big_quiet_skip
    | (go_big_quiet_want; first
        | (refine quiet_lookS (fun w' hw' => by obtain ⟨z, rfl⟩ := hw'; exact HMQ.out z) _ _ rfl rfl x.id rfl hid ?_; go_frame; go_big_quiet_on)
        | (go_big_quiet_op; go_big_quiet_on)))
  refine wpQuiet_nil ?_
  rintro _ ⟨z, rfl⟩
  have hUz := HU.out.nn z.ok
  have hBz := HB.out.upd z.ok (fun h => h)
  generalize z.val = w3 at *
  have e0 : w3.cell? ⟨w.heap.size, 0, none⟩ = some (.int .i64 x.id) := (hBz.cell 0).trans rfl
  have e1 : w3.cell? ⟨w.heap.size, 1, none⟩ = some (.string x.dest) := (hBz.cell 1).trans rfl
  have e2 : w3.cell? ⟨w.heap.size, 2, none⟩ = some (.int .i64 x.pri) := (hBz.cell 2).trans rfl
  have e3 : w3.cell? ⟨w.heap.size, 3, none⟩ = some (.int .i64 x.at_) := (hBz.cell 3).trans rfl
  have HR := Lib.hid (H.out.nn hUz)
  have HUZ := Lib.hid hUz
  have hpc : putC room l fly x = 11 ∧ putL room l fly x = l := by
    have : putC room l fly x = 11 := by unfold putC; rw [if_neg (by rw [hb]; simp), if_pos HT.out]
    exact ⟨this, by unfold putL; rw [this]; rfl⟩
  have HPC := Lib.hid hpc
  have hways : decide (x.id < 0) = false ∧ x.dest.toList.isEmpty = false ∧ decide (255 < (x.dest.size : Int)) = false ∧ decide (x.pri < -9) = false ∧ decide (9 < x.pri) = false ∧ decide (x.at_ < 0) = false ∧ decide (1099511627776 < x.at_) = false := by
    have hd : decide (255 < (x.dest.size : Int)) = decide (255 < x.dest.size) := by rw [decide_eq_decide]; omega
    rw [hd]
    unfold okP at hb
    revert hb
    cases decide (x.id < 0) <;> cases x.dest.toList.isEmpty <;> cases decide (255 < x.dest.size) <;> cases decide (x.pri < -9) <;> cases decide (9 < x.pri) <;> cases decide (x.at_ < 0) <;> cases decide (1099511627776 < x.at_) <;> simp
  obtain ⟨g1, g2, g3, g4, g5, g6, g7⟩ := hways
  have HAT := Lib.hid (HR.out.at_ x.id hl)
  clear hUz hBz hpc hb X0 X4 HMQ hl
  cases hfl : (look x.id fly).isSome with
  | true =>
    go_wp2
    go_ret
    refine ⟨?_, F, ?_, ?_⟩
    · rw [HPC.out.1]; rfl
    · rw [HPC.out.2]; exact HR.out
    · exact ⟨HUZ.out.mono (fun _ _ h => h.elim), fun i h => .inl h⟩
  | false =>
    have hin : (l.any fun e => e.id == x.id) = true := HT.out.resolve_left (by rw [hfl]; simp)
    obtain ⟨p, hp0, hp⟩ : ∃ p : Int, 0 ≤ p ∧ posOf (fun e => e.id == x.id) l = p := by
      rcases pos_cases (fun e => e.id == x.id) l with ⟨_, h2⟩ | ⟨P, _, _, _, h2, _, _⟩
      · rw [List.any_eq_true] at hin
        obtain ⟨e, he, he2⟩ := hin
        rw [h2 e he] at he2
        cases he2
      · exact ⟨_, by omega, h2⟩
    rw [hp] at HAT
    clear hin hp
    go_wp2_with fail
    refine HAT.out.mono ?_
    rintro e w4 ⟨rfl, hU4⟩
    have HU4 := Lib.hid hU4
    clear hU4 HAT e0 e1 e2 e3
    go_wp2
    go_ret
    refine ⟨?_, F, ?_, ?_⟩
    · rw [HPC.out.1]; rfl
    · rw [HPC.out.2]; exact HR.out.nn HU4.out
    · exact ⟨(HUZ.out.nn HU4.out).mono (fun _ _ h => h.elim), fun i h => .inl h⟩
set_option maxHeartbeats 1000000 in
theorem RO.put_full (x : En) (hid : okI x.id) (hx : x.dest.size ≤ 1000) (hb : okP x = true) (hl : l.length ≤ 5000) (hfl : (look x.id fly).isSome = false) (hin : (l.any fun e => e.id == x.id) = false) (hrm : room ≤ l.length) : Calls Try.prog 13 #[.pointer (some ⟨g, 0, none⟩), .agg #[.int .i64 x.id, .string x.dest, .int .i64 x.pri, .int .i64 x.at_]] w (PutP w g F age limit room l fly x) := by
  obtain ⟨A, cap, b, h1, h2, h3, h4, h5, h6⟩ := h.out
  have c4 : w.cell? ⟨g, 4, none⟩ = some (.map (some b)) := (h1.cell 4).trans rfl
  have lg := h1.lt
  have lg1 : g < w.heap.size + 1 := by omega
  have hm := h3.upd ((Upd.refl w Nope).alloc (.cells #[.int .i64 x.id, .string x.dest, .int .i64 x.pri, .int .i64 x.at_] 34)) (fun h => h)
  have H := Lib.hid h
  clear h h1 h2 h3 h4 h5 h6
  go_enter Try.func13, Try.ntmps13
  go_upto_region 1 with (fail)
  have hU := (Upd.refl w Nope).alloc (.cells #[.int .i64 x.id, .string x.dest, .int .i64 x.pri, .int .i64 x.at_] 34)
  have hB := Blk.new w #[.int .i64 x.id, .string x.dest, .int .i64 x.pri, .int .i64 x.at_] 34
  have c4' := hU.cell c4 (fun h => h)
  generalize w.alloc (.cells #[.int .i64 x.id, .string x.dest, .int .i64 x.pri, .int .i64 x.at_] 34) = w2 at *
  have x0 : w2.cell? ⟨w.heap.size, 0, none⟩ = some (.int .i64 x.id) := (hB.cell 0).trans rfl
  have X0 := fun (z : UW w2) => z.cell x0
  have X4 := fun (z : UW w2) => z.cell c4'
  have HMQ := Lib.hid (fun (z : UW w2) => hm.upd z.ok (fun h => h))
  have HU := Lib.hid hU
  have HB := Lib.hid hB
  clear hm hU hB x0 c4' c4
  refine region_uw (by kernel_rfl) (by kernel_rfl) ?_
  repeat (first
    | go_big_quiet_skip
    | (go_big_quiet_want; first
        | (refine quiet_lookS (fun w' hw' => by obtain ⟨z, rfl⟩ := hw'; exact HMQ.out z) _ _ rfl rfl x.id rfl hid ?_; go_frame; go_big_quiet_on)
        | (go_big_quiet_op; go_big_quiet_on)))
  refine wpQuiet_nil ?_
  rintro _ ⟨z, rfl⟩
  have hUz := HU.out.nn z.ok
  have hBz := HB.out.upd z.ok (fun h => h)
  generalize z.val = w3 at *
  have e0 : w3.cell? ⟨w.heap.size, 0, none⟩ = some (.int .i64 x.id) := (hBz.cell 0).trans rfl
  have e1 : w3.cell? ⟨w.heap.size, 1, none⟩ = some (.string x.dest) := (hBz.cell 1).trans rfl
  have e2 : w3.cell? ⟨w.heap.size, 2, none⟩ = some (.int .i64 x.pri) := (hBz.cell 2).trans rfl
  have e3 : w3.cell? ⟨w.heap.size, 3, none⟩ = some (.int .i64 x.at_) := (hBz.cell 3).trans rfl
  have HR := Lib.hid (H.out.nn hUz)
  have HUZ := Lib.hid hUz
  have hpc : putC room l fly x = 6 ∧ putL room l fly x = l := by
    have : putC room l fly x = 6 := by unfold putC; rw [if_neg (by rw [hb]; simp), if_neg (by rw [hfl, hin]; simp), if_pos hrm]
    exact ⟨this, by unfold putL; rw [this]; rfl⟩
  have HPC := Lib.hid hpc
  have hways : decide (x.id < 0) = false ∧ x.dest.toList.isEmpty = false ∧ decide (255 < (x.dest.size : Int)) = false ∧ decide (x.pri < -9) = false ∧ decide (9 < x.pri) = false ∧ decide (x.at_ < 0) = false ∧ decide (1099511627776 < x.at_) = false := by
    have hd : decide (255 < (x.dest.size : Int)) = decide (255 < x.dest.size) := by rw [decide_eq_decide]; omega
    rw [hd]
    unfold okP at hb
    revert hb
    cases decide (x.id < 0) <;> cases x.dest.toList.isEmpty <;> cases decide (255 < x.dest.size) <;> cases decide (x.pri < -9) <;> cases decide (9 < x.pri) <;> cases decide (x.at_ < 0) <;> cases decide (1099511627776 < x.at_) <;> simp
  obtain ⟨g1, g2, g3, g4, g5, g6, g7⟩ := hways
  have HAT := Lib.hid (HR.out.at_ x.id hl)
  clear hUz hBz hpc hb X0 X4 HMQ hl
  have hp : posOf (fun e => e.id == x.id) l = -1 := by
    rcases pos_cases (fun e => e.id == x.id) l with ⟨h1, _⟩ | ⟨P, y, S, rfl, _, h2, _⟩
    · exact h1
    · exfalso
      rw [List.any_eq_false] at hin
      exact hin y (by simp) h2
  rw [hp] at HAT
  clear hp hin
  go_wp2_with fail
  refine HAT.out.mono ?_
  rintro e w4 ⟨rfl, hU4⟩
  obtain ⟨A', cap', b', k1, _⟩ := (HR.out.nn hU4).out
  have d3 : w4.cell? ⟨g, 3, none⟩ = some (.slice A' l.length cap') := (k1.cell 3).trans rfl
  have d2 : w4.cell? ⟨g, 2, none⟩ = some (.int .i64 room) := (k1.cell 2).trans rfl
  have HU4 := Lib.hid hU4
  have q1 : decide (room ≤ (l.length : Int)) = true := by simpa using hrm
  clear hU4 HAT e0 e1 e2 e3 k1
  go_wp2_with fail
  go_quiet (fail)
  go_wp2
  go_ret
  refine ⟨?_, F, ?_, ?_⟩
  · rw [HPC.out.1]; rfl
  · rw [HPC.out.2]; exact HR.out.nn (HU4.out.drewN _)
  · exact ⟨(HUZ.out.nn (HU4.out.drewN _)).mono (fun _ _ h => h.elim), fun i h => .inl h⟩
omit h in
/-- A world in which the queue's cell 3 holds a slice, and the entry lies in a block of its own. -/
structure UP (g p : Nat) (v : Value) (x : En) where mk ::
  val : World
  h1 : val.cell? ⟨g, 3, none⟩ = some v
  h0 : val.frozen? ⟨g, 3, none⟩ = false
  e0 : val.cell? ⟨p, 0, none⟩ = some (.int .i64 x.id)
  e1 : val.cell? ⟨p, 1, none⟩ = some (.string x.dest)
  e2 : val.cell? ⟨p, 2, none⟩ = some (.int .i64 x.pri)
  e3 : val.cell? ⟨p, 3, none⟩ = some (.int .i64 x.at_)
omit h in
theorem SL.own {w : World} {A : Option Addr} {cap : Nat} {l : List En} (h : SL w A cap l) : w.ownsRow 0 34 4 (.slice A l.length cap) l.length (l.flatMap En.vals) := by
  rcases h with ⟨rfl, rfl, rfl⟩ | ⟨q, rfl, cs, h1, h2, h3, h4, h5⟩
  · exact ⟨rfl, .inl ⟨rfl, rfl⟩⟩
  · exact ⟨flat_len vals_len l, .inr ⟨q, cap, cs, rfl, Nat.zero_le _, h1, h2, h3, h4, h5⟩⟩
omit h in
/-- One entry more, behind the queue's row. -/
theorem SL.app {w : World} {A : Option Addr} {cap : Nat} {l : List En} (h : SL w A cap l) (x : En) (hl : l.length ≤ 5000) : ∃ q cap' w', (Builtin.append_ #[58, 58] 58 #[.slice A l.length cap, .slice (some ⟨w.heap.size, 0, none⟩) 1 1]).run Try.prog (w.alloc (.cells #[.int .i64 x.id, .string x.dest, .int .i64 x.pri, .int .i64 x.at_] 34)) = .ok (.slice (some ⟨q, 0, none⟩) (l.length + 1) cap') w' ∧
    SL w' (some ⟨q, 0, none⟩) cap' (l ++ [x]) ∧ Upd w w' (fun k => ∃ ad, A = some ad ∧ k = ad.block) ∧ ((∃ ad, A = some ad ∧ q = ad.block) ∨ w.heap.size ≤ q) := by
  obtain ⟨i0, hi, hz0, hz1, hz2⟩ := info_parts infoE
  obtain ⟨v', w', h1, h2, h3, h4⟩ := append_rowS (f := En.vals) (fun _ => rfl) (by decide) (P := Try.prog) 0 58 Try.underlying58 hi hz0 hz1 hz2 rfl (fun x u hu => by simp [En.vals] at hu; rcases hu with rfl | rfl | rfl | rfl <;> rfl) (h.own.alloc (.cells #[.int .i64 x.id, .string x.dest, .int .i64 x.pri, .int .i64 x.at_] 34)) (rdE_new (T := 34) w x) (c := 1) (by intro h; cases h) (by unfold maxLen; simp; omega) (by simp; omega) (Nat.zero_le _)
  have hv : v' ≠ .slice none 0 0 := fun e => by
    have := h2.1
    rw [flat_len vals_len] at this
    obtain ⟨_, h5⟩ := h2
    rcases h5 with ⟨_, h0⟩ | ⟨_, _, _, e2, _⟩
    · simp at h0
    · rw [e] at e2; cases e2
  obtain ⟨q, cap', rfl, _, hA, _⟩ := arr_of_owns h2 hv
  have hu0 : Upd w (w.alloc (.cells #[.int .i64 x.id, .string x.dest, .int .i64 x.pri, .int .i64 x.at_] 34)) (fun k => ∃ ad, A = some ad ∧ k = ad.block) := (Upd.refl w _).alloc _
  refine ⟨q, cap', w', h1, .inr ⟨q, rfl, hA⟩, hu0.grown h3 (fun k e => .inl ?_), ?_⟩
  · cases A with
    | none => cases e
    | some ad => exact ⟨ad, rfl, by cases e; rfl⟩
  · rcases h4 with e | e
    · cases A with
      | none => cases e
      | some ad => exact .inl ⟨ad, rfl, by cases e; rfl⟩
    · right
      injection e with e
      simp at e
      omega
set_option maxHeartbeats 2000000 in
theorem RO.put_ok (x : En) (hid : okI x.id) (hx : x.dest.size ≤ 1000) (hb : okP x = true) (hl : l.length ≤ 5000) (hfl : (look x.id fly).isSome = false) (hin : (l.any fun e => e.id == x.id) = false) (hrm : (l.length : Int) < room) : Calls Try.prog 13 #[.pointer (some ⟨g, 0, none⟩), .agg #[.int .i64 x.id, .string x.dest, .int .i64 x.pri, .int .i64 x.at_]] w (PutP w g F age limit room l fly x) := by
  obtain ⟨A, cap, b, h1, h2, h3, h4, h5, h6⟩ := h.out
  have c4 : w.cell? ⟨g, 4, none⟩ = some (.map (some b)) := (h1.cell 4).trans rfl
  have lg := h1.lt
  have lg1 : g < w.heap.size + 1 := by omega
  have hm := h3.upd ((Upd.refl w Nope).alloc (.cells #[.int .i64 x.id, .string x.dest, .int .i64 x.pri, .int .i64 x.at_] 34)) (fun h => h)
  have H := Lib.hid h
  clear h h1 h2 h3 h4 h5 h6
  go_enter Try.func13, Try.ntmps13
  go_upto_region 1 with (fail)
  have hU := (Upd.refl w Nope).alloc (.cells #[.int .i64 x.id, .string x.dest, .int .i64 x.pri, .int .i64 x.at_] 34)
  have hB := Blk.new w #[.int .i64 x.id, .string x.dest, .int .i64 x.pri, .int .i64 x.at_] 34
  have c4' := hU.cell c4 (fun h => h)
  generalize w.alloc (.cells #[.int .i64 x.id, .string x.dest, .int .i64 x.pri, .int .i64 x.at_] 34) = w2 at *
  have x0 : w2.cell? ⟨w.heap.size, 0, none⟩ = some (.int .i64 x.id) := (hB.cell 0).trans rfl
  have X0 := fun (z : UW w2) => z.cell x0
  have X4 := fun (z : UW w2) => z.cell c4'
  have HMQ := Lib.hid (fun (z : UW w2) => hm.upd z.ok (fun h => h))
  have HU := Lib.hid hU
  have HB := Lib.hid hB
  clear hm hU hB x0 c4' c4
  refine region_uw (by kernel_rfl) (by kernel_rfl) ?_
  repeat (first
    | go_big_quiet_skip
    | (go_big_quiet_want; first
        | (refine quiet_lookS (fun w' hw' => by obtain ⟨z, rfl⟩ := hw'; exact HMQ.out z) _ _ rfl rfl x.id rfl hid ?_; go_frame; go_big_quiet_on)
        | (go_big_quiet_op; go_big_quiet_on)))
  refine wpQuiet_nil ?_
  rintro _ ⟨z, rfl⟩
  have hUz := HU.out.nn z.ok
  have hBz := HB.out.upd z.ok (fun h => h)
  generalize z.val = w3 at *
  have e0 : w3.cell? ⟨w.heap.size, 0, none⟩ = some (.int .i64 x.id) := (hBz.cell 0).trans rfl
  have e1 : w3.cell? ⟨w.heap.size, 1, none⟩ = some (.string x.dest) := (hBz.cell 1).trans rfl
  have e2 : w3.cell? ⟨w.heap.size, 2, none⟩ = some (.int .i64 x.pri) := (hBz.cell 2).trans rfl
  have e3 : w3.cell? ⟨w.heap.size, 3, none⟩ = some (.int .i64 x.at_) := (hBz.cell 3).trans rfl
  have HR := Lib.hid (H.out.nn hUz)
  have HUZ := Lib.hid hUz
  have hpc : putC room l fly x = 0 ∧ putL room l fly x = l ++ [x] := by
    have : putC room l fly x = 0 := by unfold putC; rw [if_neg (by rw [hb]; simp), if_neg (by rw [hfl, hin]; simp), if_neg (by omega)]
    exact ⟨this, by unfold putL; rw [this]; rfl⟩
  have HPC := Lib.hid hpc
  have hways : decide (x.id < 0) = false ∧ x.dest.toList.isEmpty = false ∧ decide (255 < (x.dest.size : Int)) = false ∧ decide (x.pri < -9) = false ∧ decide (9 < x.pri) = false ∧ decide (x.at_ < 0) = false ∧ decide (1099511627776 < x.at_) = false := by
    have hd : decide (255 < (x.dest.size : Int)) = decide (255 < x.dest.size) := by rw [decide_eq_decide]; omega
    rw [hd]
    unfold okP at hb
    revert hb
    cases decide (x.id < 0) <;> cases x.dest.toList.isEmpty <;> cases decide (255 < x.dest.size) <;> cases decide (x.pri < -9) <;> cases decide (9 < x.pri) <;> cases decide (x.at_ < 0) <;> cases decide (1099511627776 < x.at_) <;> simp
  obtain ⟨g1, g2, g3, g4, g5, g6, g7⟩ := hways
  have hxok : x.ok := by
    simp only [decide_eq_false_iff_not] at g1 g3 g4 g5 g6 g7
    exact ⟨by omega, by have := hid; simp [okI, Lit.wf, IntKind.min, IntKind.max, IntKind.signed, IntKind.bits] at this; omega, by omega, by omega, by omega, by omega, by omega⟩
  have HXO := Lib.hid hxok
  have HAT := Lib.hid (HR.out.at_ x.id hl)
  have HBZ := Lib.hid hBz
  clear hUz hBz hpc hb X0 X4 HMQ hxok
  have hp : posOf (fun e => e.id == x.id) l = -1 := by
    rcases pos_cases (fun e => e.id == x.id) l with ⟨h1, _⟩ | ⟨P, y, S, rfl, _, h2, _⟩
    · exact h1
    · exfalso
      rw [List.any_eq_false] at hin
      exact hin y (by simp) h2
  rw [hp] at HAT
  clear hp hin
  go_wp2_with fail
  refine HAT.out.mono ?_
  rintro e w4 ⟨rfl, hU4⟩
  obtain ⟨A', cap', b', k1, k2, k3, k4, k5, k6⟩ := (HR.out.nn hU4).out
  have d3 : w4.cell? ⟨g, 3, none⟩ = some (.slice A' l.length cap') := (k1.cell 3).trans rfl
  have d2 : w4.cell? ⟨g, 2, none⟩ = some (.int .i64 room) := (k1.cell 2).trans rfl
  have HU4 := Lib.hid hU4
  have HB4 := Lib.hid (HBZ.out.upd hU4 (fun h => h))
  have HK := Lib.hid (And.intro k1 (And.intro k2 (And.intro k3 (And.intro k4 (And.intro k5 k6)))))
  have q1 : decide (room ≤ (l.length : Int)) = false := by simp; omega
  have HL := Lib.hid hl
  have HRM := Lib.hid hrm
  have hl2 : l.length ≤ 5000 := hl
  clear hU4 HAT e0 e1 e2 e3 k1 k2 k3 k4 k5 k6 hl hrm
  go_wp2_with fail
  go_quiet (fail)
  go_upto_region 8 with (fail)
  have hb5 := (HB4.out.drewN nq).drew
  obtain ⟨k1, k2, k3, k4, k5, k6⟩ := HK.out
  have hu5 : Upd w4 (w4.drewN nq).drew Nope := ((Upd.refl w4 _).drewN nq).drew
  have k1' := k1.upd hu5 (fun h => h)
  have k2' := k2.upd hu5 (fun ad e h => h)
  have k3' := k3.upd hu5 (fun h => h)
  have y1 : (w4.drewN nq).drew.cell? ⟨g, 3, none⟩ = some (.slice A' l.length cap') := (k1'.cell 3).trans rfl
  have y0 := k1'.frozen 3
  have z0 : (w4.drewN nq).drew.cell? ⟨w.heap.size, 0, none⟩ = some (.int .i64 x.id) := (hb5.cell 0).trans rfl
  have z1 : (w4.drewN nq).drew.cell? ⟨w.heap.size, 1, none⟩ = some (.string x.dest) := (hb5.cell 1).trans rfl
  have z2 : (w4.drewN nq).drew.cell? ⟨w.heap.size, 2, none⟩ = some (.int .i64 x.pri) := (hb5.cell 2).trans rfl
  have z3 : (w4.drewN nq).drew.cell? ⟨w.heap.size, 3, none⟩ = some (.int .i64 x.at_) := (hb5.cell 3).trans rfl
  have XC := fun (z : UP g w.heap.size (.slice A' l.length cap') x) => z.h1
  have E0 := fun (z : UP g w.heap.size (.slice A' l.length cap') x) => z.e0
  have E1 := fun (z : UP g w.heap.size (.slice A' l.length cap') x) => z.e1
  have E2 := fun (z : UP g w.heap.size (.slice A' l.length cap') x) => z.e2
  have E3 := fun (z : UP g w.heap.size (.slice A' l.length cap') x) => z.e3
  haveI : Nonempty (UP g w.heap.size (.slice A' l.length cap') x) := ⟨⟨(w4.drewN nq).drew, y1, y0, z0, z1, z2, z3⟩⟩
  refine region_seqF [([0, 1, 2, 3, 4, 5], 6), ([], 7)] [8, 9] 10 [9, 8, 7, 6, 5, 4, 3, 2, 1, 0] _ (by kernel_rfl) (fun w' => ∃ z : UP g w.heap.size (.slice A' l.length cap') x, w' = z.val) rfl (by kernel_rfl) (fun _ _ d _ _ h => by cases d <;> exact h) ⟨⟨(w4.drewN nq).drew, y1, y0, z0, z1, z2, z3⟩, rfl⟩ ?_
  have HU5 := Lib.hid (HU4.out.nn hu5)
  have HK5 := Lib.hid (And.intro k1' (And.intro k2' (And.intro k3' (And.intro k4 (And.intro k5 k6)))))
  have HB5 := Lib.hid hb5
  have HLT := Lib.hid (show w.heap.size < (w4.drewN nq).drew.heap.size from hb5.lt)
  clear y1 y0 z0 z1 z2 z3 k1 k2 k3 k4 k5 k6 k1' k2' k3' hb5 hu5 HK HB4 HU4 d3 d2
  generalize (w4.drewN nq).drew = w5 at *
  simp only [segsAt_cons, segsAt_nil, opsAt_cons, opsAt_nil, List.getElem?_toArray, List.getElem?_cons_zero, List.getElem?_cons_succ, consO_some, pairO_some]
  refine wpSF_seg ?_
  repeat (first | go_big_quiet_skip | (go_big_quiet_want; go_big_quiet_op; go_big_quiet_on))
  refine wpQuiet_nil ?_
  go_wp2_with fail
  obtain ⟨k1, k2, k3, k4, k5, k6⟩ := HK5.out
  obtain ⟨q, cap6, w6, happ, hsl6, hu6, hq6⟩ := k2.app x HL.out
  have hb6 : Blk (w5.alloc (.cells #[.int .i64 x.id, .string x.dest, .int .i64 x.pri, .int .i64 x.at_] 34)) w.heap.size #[.int .i64 x.id, .string x.dest, .int .i64 x.pri, .int .i64 x.at_] 34 := HB5.out.alloc _
  have hg6 : Blk (w5.alloc (.cells #[.int .i64 x.id, .string x.dest, .int .i64 x.pri, .int .i64 x.at_] 34)) g (rcs age limit room A' l.length cap' b') 67 := k1.alloc _
  refine ⟨⟨⟨w5.alloc (.cells #[.int .i64 x.id, .string x.dest, .int .i64 x.pri, .int .i64 x.at_] 34), (hg6.cell 3).trans rfl, hg6.frozen 3, (hb6.cell 0).trans rfl, (hb6.cell 1).trans rfl, (hb6.cell 2).trans rfl, (hb6.cell 3).trans rfl⟩, rfl⟩, ?_⟩
  clear hb6 hg6
  have hga : ¬ ∃ ad, A' = some ad ∧ g = ad.block := fun ⟨ad, e, e2⟩ => (k6 ad e).1 e2.symm
  have hpa : ¬ ∃ ad, A' = some ad ∧ w.heap.size = ad.block := fun ⟨ad, e, e2⟩ => by
    have h1 := (k4 ad.block).2 (.inr (.inr ⟨ad, e, rfl⟩))
    obtain ⟨A0, cap0, b0, j1, j2, j3, j4, _⟩ := H.out.out
    rcases (j4 ad.block).1 h1 with h2 | h2 | ⟨ad', e', h2⟩
    · have := j1.lt; omega
    · have := j3.lt; omega
    · rcases j2 with ⟨rfl, _⟩ | ⟨q', rfl, hA0⟩
      · cases e'
      · cases e'; have := hA0.lt; simp at h2; omega
  have hg6 := k1.upd hu6 hga
  have hb6 := HB5.out.upd hu6 hpa
  have hm6 := k3.upd hu6 (fun ⟨ad, e, e2⟩ => (k6 ad e).2 e2.symm)
  have HH := Lib.hid (And.intro hsl6 (And.intro hu6 (And.intro hq6 (And.intro hm6 (And.intro k4 (And.intro k5 k6))))))
  have HGB := Lib.hid (And.intro k1.lt k3.lt)
  clear hsl6 hu6 hq6 hm6 k1 k2 k3 k4 k5 k6 hga hpa
  refine wpSF_seg ?_
  refine wpQuiet_nil ?_
  go_wp2_with (at_builtin; refine wpList_append_eq _ _ rfl rfl happ rfl rfl rfl ?_)
  clear happ
  have f3 := hg6.frozen 3
  have c3 : w6.cell? ⟨g, 3, none⟩ = some (.slice A' l.length cap') := (hg6.cell 3).trans rfl
  have lg6 := hg6.lt
  refine ⟨⟨⟨w6, c3, f3, (hb6.cell 0).trans rfl, (hb6.cell 1).trans rfl, (hb6.cell 2).trans rfl, (hb6.cell 3).trans rfl⟩, rfl⟩, ?_⟩
  refine wpSF_fin ?_
  repeat (first | go_big_quiet_skip | (go_big_quiet_want; go_big_quiet_op; go_big_quiet_on))
  refine wpQuiet_nil ?_
  have HG6 := Lib.hid hg6
  clear hg6 hb6 XC E0 E1 E2 E3
  go_wp2_with fail
  go_ret
  have hu7 : Upd w6 (w6.setCell ⟨g, 3, none⟩ (.slice (some ⟨q, 0, none⟩) (l.length + 1) cap6)) (fun k => k = g) := (Upd.refl w6 _).set _ _ (.inl rfl)
  obtain ⟨hsl6, hu6, hq6, hm6, k4, k5, k6⟩ := HH.out
  have hgq : g ≠ q := by
    rcases hq6 with ⟨ad, e, rfl⟩ | h
    · exact fun e2 => (k6 ad e).1 e2.symm
    · have := HGB.out.1; omega
  have hbq : b' ≠ q := by
    rcases hq6 with ⟨ad, e, rfl⟩ | h
    · exact fun e2 => (k6 ad e).2 e2.symm
    · have := HGB.out.2; omega
  refine ⟨?_, fun k => k = g ∨ k = b' ∨ k = q, ?_, ?_, ?_⟩
  · rw [HPC.out.1]; rfl
  · rw [HPC.out.2]
    refine ⟨⟨some ⟨q, 0, none⟩, cap6, b', ?_, hsl6.upd hu7 (fun ad e => by cases e; exact fun e2 => hgq e2.symm), hm6.upd hu7 k5, fun k => ?_, k5, fun ad e => by cases e; exact ⟨fun e2 => hgq e2.symm, fun e2 => hbq e2.symm⟩⟩, fun e he => ?_⟩
    · have := HG6.out.set 3 (.slice (some ⟨q, 0, none⟩) (l.length + 1) cap6)
      rw [show (l ++ [x]).length = l.length + 1 by simp]
      exact this
    · constructor
      · rintro (h | h | h)
        · exact .inl h
        · exact .inr (.inl h)
        · exact .inr (.inr ⟨_, rfl, h⟩)
      · rintro (h | h | ⟨ad, e, h⟩)
        · exact .inl h
        · exact .inr (.inl h)
        · cases e; exact .inr (.inr h)
    · rcases List.mem_append.1 he with h | h
      · exact H.out.ok e h
      · obtain rfl := List.mem_singleton.1 h
        exact HXO.out
  · have u0 : Upd w w5 Nope := HUZ.out.nn HU5.out
    have u6 : Upd w5 w6 F := hu6.mono (fun i _ h => (k4 i).2 (.inr (.inr h)))
    have u7 := hu7.mono (G := F) (fun i _ h => (k4 i).2 (.inl h))
    exact ((u0.mono (fun _ _ h => h.elim)).then_ u6).then_ u7
  · rintro i (h | h | h)
    · exact .inl ((k4 _).2 (.inl h))
    · exact .inl ((k4 _).2 (.inr (.inl h)))
    · rcases hq6 with ⟨ad, e, h2⟩ | h2
      · exact .inl ((k4 _).2 (.inr (.inr ⟨ad, e, by rw [h]; exact h2⟩)))
      · have := (HUZ.out.nn HU5.out).size
        right
        omega
theorem RO.put_ (x : En) (hid : okI x.id) (hx : x.dest.size ≤ 1000) (hl : l.length ≤ 5000) : Calls Try.prog 13 #[.pointer (some ⟨g, 0, none⟩), .agg #[.int .i64 x.id, .string x.dest, .int .i64 x.pri, .int .i64 x.at_]] w (PutP w g F age limit room l fly x) := by
  cases hb : okP x with
  | false => exact h.put_bad x hid hx hb
  | true =>
    by_cases ht : (look x.id fly).isSome = true ∨ (l.any fun e => e.id == x.id) = true
    · exact h.put_twice x hid hx hb hl ht
    · have h1 : (look x.id fly).isSome = false := by simpa using fun h => ht (.inl h)
      have h2 : (l.any fun e => e.id == x.id) = false := Bool.eq_false_iff.2 fun h => ht (.inr h)
      by_cases hr : room ≤ (l.length : Int)
      · exact h.put_full x hid hx hb hl h1 h2 hr
      · exact h.put_ok x hid hx hb hl h1 h2 (by omega)
end
end Go.Proofs.Ythpilbooolgkiaa
