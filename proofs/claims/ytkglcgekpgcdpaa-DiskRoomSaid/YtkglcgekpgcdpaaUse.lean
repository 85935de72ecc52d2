/- How many bytes a disk uses, how many of a file's wait. -/
import Derived.Test.YtkglcgekpgcdpaaDk
set_option linter.unusedVariables false
set_option linter.unusedSimpArgs false
namespace Go.Proofs.Ytkglcgekpgcdpaa
open Go.RowKit

section
variable {w : World} {b r : Nat} {L rest : List (ByteArray × Fl)} {ops : Array Oper} {tail : List Oper} {o : Oper} {a : Act} {Q : Exit → Act → World → Prop}
theorem nextF (h : Rng MF w b r L rest) (hg : o.guard = none) (it : Operand) (hop : o.op = Op.next it false) (hit : a.eval it = .pointer (some ⟨r, 0, none⟩))
    (hDone : rest = [] → wpList Try.prog ops Q tail (a.put o.dst (.tuple #[.bool false])) w)
    (hMore : ∀ l1 k s n l2 w', rest = l1 ++ (k, ⟨s, n⟩) :: l2 → Rng MF w' b r L (l1 ++ l2) → (k, ⟨s, n⟩) ∈ L → (∀ q ∈ l1 ++ l2, q.1 ≠ k) → Upd w w' (· = r) → w'.heap.size = w.heap.size →
      (Instr.entry (.pointer (some ⟨r, 0, none⟩))).run Try.prog w' = .ok (.tuple #[.string k, .agg #[.string s, .int .i64 n]]) w' → wpList Try.prog ops Q tail (a.put o.dst (.tuple #[.bool true, .string k, .agg #[.string s, .int .i64 n]])) w') : wpList Try.prog ops Q (o :: tail) a w :=
  wp_nextM h hg it hop hit hDone (fun l1 p l2 w' => by obtain ⟨k, s, n⟩ := p; exact hMore l1 k s n l2 w')
end

def sumL (L : List (ByteArray × Fl)) : Int := (L.map fun p => (p.2.s.size : Int)).sum
theorem sumL_nil : sumL [] = 0 := rfl
theorem sumL_cons (p : ByteArray × Fl) (L : List (ByteArray × Fl)) : sumL (p :: L) = p.2.s.size + sumL L := by simp [sumL]
theorem sumL_app (L L' : List (ByteArray × Fl)) : sumL (L ++ L') = sumL L + sumL L' := by simp [sumL]
theorem sumL_nn (L : List (ByteArray × Fl)) : 0 ≤ sumL L := by
  induction L with
  | nil => simp [sumL]
  | cons p L ih => rw [sumL_cons]; omega
theorem sumL_mem {L : List (ByteArray × Fl)} {p : ByteArray × Fl} (h : p ∈ L) : (p.2.s.size : Int) ≤ sumL L := by
  obtain ⟨l1, l2, rfl⟩ := List.append_of_mem h
  rw [sumL_app, sumL_cons]
  have := sumL_nn l1
  have := sumL_nn l2
  omega

set_option maxHeartbeats 1000000 in
theorem used_any {w : World} {g b : Nat} {d : Dk} (h : DK w g b d) (hs : sumL d.L ≤ 4611686018427387904) :
    Calls Try.prog 17 #[.pointer (some ⟨g, 0, none⟩)] w fun e w' => e = .returned (.int .i64 (sumL d.L)) ∧ Upd w w' Nope := by
  have c1 := h.c1
  have hm := h.mp
  have hg := h.blk.lt
  clear h
  generalize d.L = L at hm hs ⊢
  go_enter Try.func17, Try.ntmps17
  go_wp2_with (first | (at_range; refine wp_rangeM hm rfl _ rfl rfl ?_; intro w0 hr0 hu0 hz0) | go_in)
  go_frame
  go_loopw [3] (fun s3 wr => ∃ rest, s3 = .int .i64 (sumL L - sumL rest) ∧ Rng MF wr b w.heap.size L rest ∧ sumL rest ≤ sumL L ∧ Upd w wr Nope) (fun _ wr => wr.rangeLeft b w.heap.size)
  case atStart => exact ⟨L, by simp, hr0, Int.le_refl _, hu0⟩
  case round =>
    obtain ⟨rest, rfl, hrg, hle, hu⟩ := hrel
    go_wp2_with (first | (at_next; refine nextF hrg rfl _ rfl rfl ?_ ?_) | go_in)
    · rintro rfl
      go_wp2
      go_ret
      exact ⟨by simp [sumL_nil], hu⟩
    · intro l1 k s n l2 w1 hre hr1 hmem hne hu1 hz1 hen
      have e1 : sumL rest = s.size + sumL (l1 ++ l2) := by
        rw [hre, sumL_app, sumL_cons, sumL_app]
        show _ + ((s.size : Int) + _) = _
        omega
      have hlen : rest.length = (l1 ++ l2).length + 1 := by rw [hre]; simp; omega
      clear hre
      have n1 := sumL_nn (l1 ++ l2)
      have n2 := sumL_nn L
      have w64 : wrap64 (sumL L - sumL rest + s.size) = sumL L - sumL (l1 ++ l2) := by rw [wrap64_in (by omega) (by omega)]; omega
      go_wp2
      go_roundw
      case rel => exact ⟨l1 ++ l2, congrArg (Value.int .i64) (by omega), hr1.upd ((Upd.refl w1 Nope).alloc _) id id, by omega, (hu.on hu1 (Nat.le_refl _)).alloc _⟩
      case measure => rw [(hr1.upd ((Upd.refl w1 Nope).alloc _) id id).left_eq, hrg.left_eq, hlen]; omega

section
variable {w : World} {b : Nat} {L : List (ByteArray × Fl)} {ops : Array Oper} {tail : List Oper} {o : Oper} {a : Act} {Q : Exit → Act → World → Prop}
def fileOf (k : ByteArray) (L : List (ByteArray × Fl)) : Fl := (look k L).getD ⟨ByteArray.empty, 0⟩
theorem lookF1 (h : Mp MF w b L) (hg : o.guard = none) (m x : Operand) (hop : o.op = Op.lookup 49 m x false) (hm : a.eval m = .map (some b)) (key : ByteArray) (hx : a.eval x = .string key) (ha : key.size ≤ maxLen)
    (hK : wpList Try.prog ops Q tail (a.put o.dst (.agg #[.string (fileOf key L).s, .int .i64 (fileOf key L).n])) w) : wpList Try.prog ops Q (o :: tail) a w :=
  wp_lookM1 h hg m x hop hm key hx ha hK
theorem lookF2 (h : Mp MF w b L) (hg : o.guard = none) (m x : Operand) (hop : o.op = Op.lookup 49 m x true) (hm : a.eval m = .map (some b)) (key : ByteArray) (hx : a.eval x = .string key) (ha : key.size ≤ maxLen)
    (hK : wpList Try.prog ops Q tail (a.put o.dst (.tuple #[.agg #[.string (fileOf key L).s, .int .i64 (fileOf key L).n], .bool (look key L).isSome])) w) : wpList Try.prog ops Q (o :: tail) a w :=
  wp_lookM2 h hg m x hop hm key hx ha hK
theorem lookF2_run (h : Mp MF w b L) (key : ByteArray) (ha : key.size ≤ maxLen) : (Instr.lookup 49 (.map (some b)) (.string key) true).run Try.prog w = .ok (.tuple #[.agg #[.string (fileOf key L).s, .int .i64 (fileOf key L).n], .bool (look key L).isSome]) w := h.lookup true key ha
theorem putF_run (h : Mp MF w b L) (key s : ByteArray) (n : Int) (ha : key.size ≤ maxLen) :
    ∃ w', (Instr.mapUpdate 49 (.map (some b)) (.string key) (.agg #[.string s, .int .i64 n])).run Try.prog w = .ok () w' ∧ Mp MF w' b (put key ⟨s, n⟩ L) ∧ Upd w w' (· = b) ∧ w'.heap.size = w.heap.size := h.update key ⟨s, n⟩ ha
theorem storeF_run {r : Nat} {rest : List (ByteArray × Fl)} (h : Rng MF w b r L rest) (key s : ByteArray) (n : Int) (ha : look key L ≠ none) (hr : ∀ q ∈ rest, q.1 ≠ key) :
    ∃ w', (Instr.mapUpdate 49 (.map (some b)) (.string key) (.agg #[.string s, .int .i64 n])).run Try.prog w = .ok () w' ∧ Rng MF w' b r (put key ⟨s, n⟩ L) rest ∧ Upd w w' (· = b) ∧ w'.heap.size = w.heap.size := h.store key ⟨s, n⟩ ha hr
end

theorem waits_any {w : World} {g b : Nat} {d : Dk} (h : DK w g b d) (k : ByteArray) (hk : k.size ≤ maxLen) :
    Calls Try.prog 21 #[.pointer (some ⟨g, 0, none⟩), .string k] w fun e w' => e = .returned (.int .i64 (wrap64 ((fileOf k d.L).s.size - (fileOf k d.L).n))) ∧ Upd w w' Nope := by
  have c1 := h.c1
  have hm := h.mp
  have hg := h.blk.lt
  clear h
  generalize d.L = L at hm ⊢
  go_enter Try.func21, Try.ntmps21
  go_wp2_with (first | (at_lookup; refine lookF1 hm rfl _ _ rfl rfl k rfl hk ?_) | go_in)
  go_ret
  exact ⟨rfl, (Upd.refl _ _).alloc _⟩
end Go.Proofs.Ytkglcgekpgcdpaa
