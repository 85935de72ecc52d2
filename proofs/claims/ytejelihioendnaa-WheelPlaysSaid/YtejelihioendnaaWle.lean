/- A wheel's Set, least and Next. -/
import Derived.Test.YtejelihioendnaaWla
set_option linter.unusedVariables false
set_option linter.unusedSimpArgs false
set_option linter.unusedSectionVars false
namespace Go.Proofs.Ytejelihioendnaa
open Go.RowKit

section
variable {w : World} {b r : Nat} {L rest : List (Int × Int)} {ops : Array Oper} {tail : List Oper} {o : Oper} {a : Act} {Q : Exit → Act → World → Prop}
theorem nextI (h : Rng MI w b r L rest) (hg : o.guard = none) (it : Operand) (hop : o.op = Op.next it false) (hit : a.eval it = .pointer (some ⟨r, 0, none⟩))
    (hDone : rest = [] → wpList Try.prog ops Q tail (a.put o.dst (.tuple #[.bool false])) w)
    (hMore : ∀ l1 k d l2 w', rest = l1 ++ (k, d) :: l2 → Rng MI w' b r L (l1 ++ l2) → (k, d) ∈ L → (∀ q ∈ l1 ++ l2, q.1 ≠ k) → Upd w w' (· = r) → w'.heap.size = w.heap.size →
      (Instr.entry (.pointer (some ⟨r, 0, none⟩))).run Try.prog w' = .ok (.tuple #[.int .i64 k, .int .i64 d]) w' → wpList Try.prog ops Q tail (a.put o.dst (.tuple #[.bool true, .int .i64 k, .int .i64 d])) w') : wpList Try.prog ops Q (o :: tail) a w :=
  wp_nextM h hg it hop hit hDone (fun l1 p l2 w' => by obtain ⟨k, d⟩ := p; exact hMore l1 k d l2 w')
end
/-- The least of a set of ticks. -/
def IsMin (o : Option Int) (D : Int → Prop) : Prop := match o with
  | none => ∀ d, ¬ D d
  | some b => D b ∧ ∀ d, D d → b ≤ d
def optMin (o : Option Int) (d : Int) : Option Int := match o with
  | none => some d
  | some b => if d < b then some d else some b
theorem IsMin.add {o : Option Int} {D D' : Int → Prop} {d : Int} (h : IsMin o D) (hD : ∀ x, D' x ↔ D x ∨ x = d) : IsMin (optMin o d) D' := by
  cases o with
  | none => exact ⟨(hD d).2 (.inr rfl), fun x hx => by rcases (hD x).1 hx with hx | hx; exact absurd hx (h x); omega⟩
  | some b =>
    simp only [optMin]
    split
    · exact ⟨(hD d).2 (.inr rfl), fun x hx => by rcases (hD x).1 hx with hx | hx; have := h.2 x hx; omega; omega⟩
    · exact ⟨(hD b).2 (.inl h.1), fun x hx => by rcases (hD x).1 hx with hx | hx; exact h.2 x hx; omega⟩
theorem IsMin.iff {o : Option Int} {D D' : Int → Prop} (h : IsMin o D) (hD : ∀ x, D' x ↔ D x) : IsMin o D' := by
  cases o with
  | none => exact fun d hd => h d ((hD d).1 hd)
  | some b => exact ⟨(hD b).2 h.1, fun d hd => h.2 d ((hD d).1 hd)⟩
def mv (o : Option Int) : Value := .int .i64 (o.getD 0)
def mf (o : Option Int) : Value := .bool o.isSome
def ticks (D : Int → Prop) (L : List (Int × Int)) : Int → Prop := fun d => D d ∨ ∃ p ∈ L, p.2 = d

set_option maxRecDepth 100000 in
set_option maxHeartbeats 2000000 in
theorem see_any {w : World} {m : Option Nat} {L : List (Int × Int)} (hm : ∀ b, m = some b → Mp MI w b L) (hn : m = none → L = []) {qf qb : Nat} {o : Option Int} {D : Int → Prop} (hf : Blk w qf #[mf o] 4) (hb : Blk w qb #[mv o] 3) (ho : IsMin o D) :
    Calls Try.prog 33 #[.map m, .pointer (some ⟨qf, 0, none⟩), .pointer (some ⟨qb, 0, none⟩)] w fun e w' => e = .returned (.tuple #[]) ∧ (∃ o', IsMin o' (ticks D L) ∧ Blk w' qf #[mf o'] 4 ∧ Blk w' qb #[mv o'] 3) ∧ Upd w w' (fun i => i = qf ∨ i = qb) := by
  have hne0 : qf ≠ qb := hf.ne hb (by decide)
  cases m with
  | none =>
    have hL := hn rfl
    subst hL
    have hnx := fun ty => run_next_nilMap (P := Try.prog) w ty 0 0 #[]
    have hr0 : (Instr.range 59 (.map none)).run Try.prog w = .ok (.pointer (some ⟨w.heap.size, 0, none⟩)) (w.alloc (.mapIter none 0 #[] 0)) := by
      simp [Instr.range, run_underlying Try.underlying59, go_sem, Result.andThen]
    have u : Upd w (w.alloc (.mapIter none 0 #[] 0)) Nope := (Upd.refl w _).alloc _
    have H := Lib.hid (show ∃ o', IsMin o' (ticks D []) ∧ Blk (w.alloc (.mapIter none 0 #[] 0)) qf #[mf o'] 4 ∧ Blk (w.alloc (.mapIter none 0 #[] 0)) qb #[mv o'] 3 from ⟨o, ho.iff (fun x => by simp [ticks]), hf.upd u id, hb.upd u id⟩)
    clear hm hn hf hb ho
    go_enter Try.func33, Try.ntmps33
    go_wp2_with fail
    refine wp_loop_rounds 1 ?_
    rw [rounds_succ]
    go_wp2
    go_end0
    exact ⟨rfl, H.out, u.mono (fun _ _ h => h.elim)⟩
  | some b =>
    have hm := hm b rfl
    have hlb := hm.lt
    have hlf := hf.lt
    have hlq := hb.lt
    have nb1 : b ≠ qf := hm.ne_blk hf
    have nb2 : b ≠ qb := hm.ne_blk hb
    have HF := Lib.hid hf
    have HB := Lib.hid hb
    have HO := Lib.hid ho
    clear hn hf hb ho
    go_enter Try.func33, Try.ntmps33
    go_wp2_with (first | (at_range; refine wp_rangeM hm rfl _ rfl rfl ?_; intro w0 hr0 hu0 hz0) | go_in)
    go_frame
    go_loopw [] (fun wr => ∃ rest done o', Rng MI wr b w.heap.size L rest ∧ (∀ p, p ∈ L ↔ p ∈ done ∨ p ∈ rest) ∧ IsMin o' (ticks D done) ∧ Blk wr qf #[mf o'] 4 ∧ Blk wr qb #[mv o'] 3 ∧ Upd w wr (fun i => i = qf ∨ i = qb)) (fun wr => wr.rangeLeft b w.heap.size)
    case atStart => exact ⟨L, [], o, hr0, by simp, HO.out.iff (fun x => by simp [ticks]), HF.out.upd hu0 id, HB.out.upd hu0 id, hu0.mono (fun _ _ h => h.elim)⟩
    case round =>
      obtain ⟨rest, done, o', hrg, hp, hmin, hf, hb, hu⟩ := hrel
      have HMIN := Lib.hid hmin
      have HPM := Lib.hid hp
      clear hmin hp
      go_wp2_with (first | (at_next; refine nextI hrg rfl _ rfl rfl ?_ ?_) | go_in)
      · rintro rfl
        have HR := Lib.hid (show ∃ o'', IsMin o'' (ticks D L) ∧ Blk wr qf #[mf o''] 4 ∧ Blk wr qb #[mv o''] 3 from ⟨o', HMIN.out.iff (fun x => by simp only [ticks]; simp only [HPM.out]; simp), hf, hb⟩)
        clear hf hb
        go_wp2
        go_end0
        exact ⟨rfl, HR.out, hu⟩
      · intro l1 k d l2 w1 hre hr1 hmem hne hu1 hz1 hen
        have hu1' := hu.trans hu1 (H := fun i => i = qf ∨ i = qb) (fun _ _ h => h) (fun i hi e => by omega)
        have hf1 := hf.upd hu1 (by omega)
        have hb1 := hb.upd hu1 (by omega)
        have hlen : rest.length = (l1 ++ l2).length + 1 := by rw [hre]; simp; omega
        have hmin2 : IsMin (optMin o' d) (ticks D ((k, d) :: done)) := HMIN.out.add (fun x => by
          simp only [ticks, List.mem_cons]
          constructor
          · rintro (h | ⟨p, rfl | h, e⟩)
            · exact .inl (.inl h)
            · exact .inr e.symm
            · exact .inl (.inr ⟨p, h, e⟩)
          · rintro ((h | ⟨p, h, e⟩) | h)
            · exact .inl h
            · exact .inr ⟨p, .inr h, e⟩
            · exact .inr ⟨(k, d), .inl rfl, h.symm⟩)
        have hpm2 : ∀ p, p ∈ L ↔ p ∈ (k, d) :: done ∨ p ∈ l1 ++ l2 := fun p => by
          rw [HPM.out, hre]
          simp only [List.mem_append, List.mem_cons]
          constructor
          · rintro (h | h | h | h)
            · exact .inl (.inr h)
            · exact .inr (.inl h)
            · exact .inl (.inl h)
            · exact .inr (.inr h)
          · rintro ((h | h) | h | h)
            · exact .inr (.inr (.inl h))
            · exact .inl h
            · exact .inr (.inl h)
            · exact .inr (.inr (.inr h))
        have HM2 := Lib.hid hmin2
        have HP2 := Lib.hid hpm2
        have HRE := Lib.hid hre
        have HLEN := Lib.hid hlen
        have HRG := Lib.hid hrg
        have HNE := Lib.hid hne
        clear hmin2 hpm2 hre hlen hf hb hu hrg hne
        have z0 := hf1.frozen 0
        have z1 := hb1.frozen 0
        have hsf : Blk ((w1.setCell ⟨qb, 0, none⟩ (.int .i64 d)).setCell ⟨qf, 0, none⟩ (.bool true)) qf #[.bool true] 4 := by
          have := (hf1.far (p := ⟨qb, 0, none⟩) hne0 (.int .i64 d)).set 0 (.bool true)
          simpa using this
        have hsb : Blk ((w1.setCell ⟨qb, 0, none⟩ (.int .i64 d)).setCell ⟨qf, 0, none⟩ (.bool true)) qb #[.int .i64 d] 3 := by
          have := (hb1.set 0 (.int .i64 d)).far (p := ⟨qf, 0, none⟩) (fun e => hne0 e.symm) (.bool true)
          simpa using this
        have us : Upd w1 ((w1.setCell ⟨qb, 0, none⟩ (.int .i64 d)).setCell ⟨qf, 0, none⟩ (.bool true)) (fun i => i = qf ∨ i = qb) := ((Upd.refl w1 _).set ⟨qb, 0, none⟩ _ (.inl (.inr rfl))).set ⟨qf, 0, none⟩ _ (.inl (.inl rfl))
        have hrs := hr1.upd us (by omega) (by omega)
        have HSF := Lib.hid hsf
        have HSB := Lib.hid hsb
        have HRS := Lib.hid hrs
        have HUS := Lib.hid (hu1'.then_ us)
        have HF1 := Lib.hid hf1
        have HB1 := Lib.hid hb1
        have HR1 := Lib.hid hr1
        have HU1 := Lib.hid hu1'
        clear hsf hsb us hrs
        cases o' with
        | none =>
          have x0 : w1.cell? ⟨qf, 0, none⟩ = some (.bool false) := (hf1.cell 0).trans rfl
          have x1 : w1.cell? ⟨qb, 0, none⟩ = some (.int .i64 0) := (hb1.cell 0).trans rfl
          clear hf1 hb1 hr1 hu1'
          go_wp2
          go_roundw
          case rel => exact ⟨l1 ++ l2, (k, d) :: done, some d, HRS.out, HP2.out, HM2.out, HSF.out, HSB.out, HUS.out⟩
          case measure => rw [HRS.out.left_eq, HRG.out.left_eq, HLEN.out]; omega
        | some bst =>
          have x0 : w1.cell? ⟨qf, 0, none⟩ = some (.bool true) := (hf1.cell 0).trans rfl
          have x1 : w1.cell? ⟨qb, 0, none⟩ = some (.int .i64 bst) := (hb1.cell 0).trans rfl
          clear hf1 hb1 hr1 hu1'
          by_cases hlt : d < bst
          · have hd : decide (d < bst) = true := by simpa using hlt
            have eo : optMin (some bst) d = some d := by simp [optMin, hlt]
            rw [eo] at HM2
            clear hlt eo
            go_wp2
            go_roundw
            case rel => exact ⟨l1 ++ l2, (k, d) :: done, some d, HRS.out, HP2.out, HM2.out, HSF.out, HSB.out, HUS.out⟩
            case measure => rw [HRS.out.left_eq, HRG.out.left_eq, HLEN.out]; omega
          · have hd : decide (d < bst) = false := by simpa using hlt
            have eo : optMin (some bst) d = some bst := by simp [optMin, hlt]
            rw [eo] at HM2
            clear hlt eo
            go_wp2
            go_roundw
            case rel => exact ⟨l1 ++ l2, (k, d) :: done, some bst, HR1.out, HP2.out, HM2.out, HF1.out, HB1.out, HU1.out⟩
            case measure => rw [HR1.out.left_eq, HRG.out.left_eq, HLEN.out]; omega
end Go.Proofs.Ytejelihioendnaa
