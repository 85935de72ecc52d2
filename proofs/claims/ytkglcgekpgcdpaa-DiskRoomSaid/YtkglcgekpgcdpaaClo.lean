/- What the changes do: the four closures. -/
import Derived.Test.YtkglcgekpgcdpaaChg
set_option linter.unusedVariables false
set_option linter.unusedSimpArgs false
namespace Go.Proofs.Ytkglcgekpgcdpaa
open Go.RowKit

theorem step_delF {ops : Array Oper} {o : Oper} {a : Act} {w : World} {K : Act → World → Prop} {Q : Exit → Act → World → Prop} {E : Prop} {b : Nat} {L : List (ByteArray × Fl)} (h : Mp MF w b L) (hg : o.guard = none) (m x : Operand)
    (hop : o.op = Op.call { callee := Callee.builtin Builtin.delete, args := #[m, x], argTypes := #[49, 9] }) (hm : a.eval m = .map (some b)) (key : ByteArray) (hx : a.eval x = .string key) (ha : key.size ≤ maxLen)
    (hK : ∀ w', Mp MF w' b (del key L) → Upd w w' (· = b) → w'.heap.size = w.heap.size → K (a.put o.dst (.tuple #[])) w') : if Region.wanted o (yielded ops a.tmps) = true then Oper.wp Try.prog o a w K Q else E := by
  have hw : Region.wanted o (yielded ops a.tmps) = true := by simp [Region.wanted, hg]
  rw [if_pos hw]
  obtain ⟨w', hrun, r1, r2, r3⟩ := h.drop key ha o.type
  have hrun' : (Builtin.delete_ #[49, 9] o.type #[.map (some b), .string key]).run Try.prog w = .ok (.tuple #[]) w' := hrun
  unfold Oper.wp
  simp [execOp, hop, resolve, invoke, builtin, hm, hx, hrun', Result.andThen]
  exact hK w' r1 r2 r3

section
variable {w : World} {g b : Nat} {d : Dk} (h : DK w g b d) {qd qn qf qs : Nat} {name : ByteArray} {f : Fl}
  (hd : w.cell? ⟨qd, 0, none⟩ = some (.pointer (some ⟨g, 0, none⟩))) (hn : w.cell? ⟨qn, 0, none⟩ = some (.string name)) (hk : name.size ≤ maxLen)
include h hd hn hk

theorem clo_append {s : ByteArray} (f0 : w.cell? ⟨qf, 0, none⟩ = some (.string f.s)) (f1 : w.cell? ⟨qf, 1, none⟩ = some (.int .i64 f.n)) (hs : w.cell? ⟨qs, 0, none⟩ = some (.string s)) (hsz : f.s.size + s.size ≤ 9223372036854775807) :
    Calls Try.prog 29 #[.pointer (some ⟨qf, 0, none⟩), .pointer (some ⟨qs, 0, none⟩), .pointer (some ⟨qd, 0, none⟩), .pointer (some ⟨qn, 0, none⟩)] w fun e w' => e = .returned (.tuple #[]) ∧ DK w' g b (d.with_ (put name ⟨f.s ++ s, f.n⟩ d.L)) ∧ Upd w w' (· = b) := by
  have c1 := h.c1
  have hne := h.ne
  obtain ⟨w3, hrun, hm3, hu3, hz3⟩ := putF_run (h.nn (Upd.refl w _).drew).mp name (f.s ++ s) f.n hk
  have h3 : DK w3 g b (d.with_ (put name ⟨f.s ++ s, f.n⟩ d.L)) := ⟨(h.blk.drew).upd hu3 (fun e => hne e.symm), hm3⟩
  have H3 := Lib.hid h3
  clear h h3 hm3 hz3
  go_enter Try.func29, Try.ntmps29
  go_wp2_with fail
  go_big_region
  go_wp2_with fail
  go_end0
  exact ⟨rfl, H3.out, ((Upd.refl w _).drew).then_ hu3⟩

theorem clo_sync (f0 : w.cell? ⟨qf, 0, none⟩ = some (.string f.s)) :
    Calls Try.prog 31 #[.pointer (some ⟨qf, 0, none⟩), .pointer (some ⟨qd, 0, none⟩), .pointer (some ⟨qn, 0, none⟩)] w fun e w' => e = .returned (.tuple #[]) ∧ DK w' g b (d.with_ (put name ⟨f.s, f.s.size⟩ d.L)) ∧ Upd w w' (· = b) := by
  have c1 := h.c1
  have hne := h.ne
  obtain ⟨w3, hrun, hm3, hu3, hz3⟩ := putF_run (h.nn (Upd.refl w _).drew).mp name f.s f.s.size hk
  have h3 : DK w3 g b (d.with_ (put name ⟨f.s, f.s.size⟩ d.L)) := ⟨(h.blk.drew).upd hu3 (fun e => hne e.symm), hm3⟩
  have H3 := Lib.hid h3
  clear h h3 hm3 hz3
  go_enter Try.func31, Try.ntmps31
  go_wp2_with fail
  go_big_region
  go_wp2_with fail
  go_end0
  exact ⟨rfl, H3.out, ((Upd.refl w _).drew).then_ hu3⟩

theorem clo_remove : Calls Try.prog 33 #[.pointer (some ⟨qd, 0, none⟩), .pointer (some ⟨qn, 0, none⟩)] w fun e w' => e = .returned (.tuple #[]) ∧ DK w' g b (d.with_ (del name d.L)) ∧ Upd w w' (· = b) := by
  have c1 := h.c1
  have hne := h.ne
  have hm := (h.nn (Upd.refl w Nope).drew).mp
  have hb := h.blk
  clear h
  go_enter Try.func33, Try.ntmps33
  go_wp2_with fail
  go_region_law (refine step_delF hm rfl _ _ rfl rfl name rfl hk ?_; intro w3 hm3 hu3 hz3)
  all_goals go_wp2_with fail
  all_goals go_end0
  all_goals exact ⟨rfl, ⟨(hb.drew).upd hu3 (fun e => hne e.symm), hm3⟩, ((Upd.refl w _).drew).then_ hu3⟩

theorem clo_rename {qt : Nat} {tn : ByteArray} (f0 : w.cell? ⟨qf, 0, none⟩ = some (.string f.s)) (f1 : w.cell? ⟨qf, 1, none⟩ = some (.int .i64 f.n)) (ht : w.cell? ⟨qt, 0, none⟩ = some (.string tn)) (hkt : tn.size ≤ maxLen) (nd : qd ≠ b) (nt : qt ≠ b) (nf : qf ≠ b) :
    Calls Try.prog 32 #[.pointer (some ⟨qd, 0, none⟩), .pointer (some ⟨qn, 0, none⟩), .pointer (some ⟨qf, 0, none⟩), .pointer (some ⟨qt, 0, none⟩)] w fun e w' => e = .returned (.tuple #[]) ∧ DK w' g b (d.with_ (put tn f (del name d.L))) ∧ Upd w w' (· = b) := by
  have c1 := h.c1
  have hne := h.ne
  have hm := (h.nn (Upd.refl w Nope).drew).mp
  have hb := h.blk
  clear h
  go_enter Try.func32, Try.ntmps32
  go_wp2_with fail
  go_region_law (refine step_delF hm rfl _ _ rfl rfl name rfl hk ?_; intro w3 hm3 hu3 hz3)
  all_goals
    have hb3 := (hb.drew).upd hu3 (fun e => hne e.symm)
    have k1 : w3.cell? ⟨g, 1, none⟩ = some (.map (some b)) := (hb3.cell 1).trans rfl
    have k2 : w3.cell? ⟨qd, 0, none⟩ = some (.pointer (some ⟨g, 0, none⟩)) := hu3.cell (show w.drew.cell? ⟨qd, 0, none⟩ = _ from hd) nd
    have k3 : w3.cell? ⟨qt, 0, none⟩ = some (.string tn) := hu3.cell (show w.drew.cell? ⟨qt, 0, none⟩ = _ from ht) nt
    have k4 : w3.cell? ⟨qf, 0, none⟩ = some (.string f.s) := hu3.cell (show w.drew.cell? ⟨qf, 0, none⟩ = _ from f0) nf
    have k5 : w3.cell? ⟨qf, 1, none⟩ = some (.int .i64 f.n) := hu3.cell (show w.drew.cell? ⟨qf, 1, none⟩ = _ from f1) nf
    obtain ⟨w4, hrun, hm4, hu4, hz4⟩ := putF_run (hm3.upd ((Upd.refl w3 Nope).drew) id) tn f.s f.n hkt
    have h4 : DK w4 g b (d.with_ (put tn f (del name d.L))) := ⟨(hb3.drew).upd hu4 (fun e => hne e.symm), hm4⟩
    have H4 := Lib.hid h4
    clear h4 hm4 hz4 hb3 hm3 hb
    go_wp2_with fail
    go_big_region
    go_wp2_with fail
    go_end0
    exact ⟨rfl, H4.out, ((((Upd.refl w _).drew).then_ hu3).drew).then_ hu4⟩
end
end Go.Proofs.Ytkglcgekpgcdpaa
