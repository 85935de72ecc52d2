/- A wheel's Due and Cancel. -/
import Derived.Test.YtejelihioendnaaWof
set_option linter.unusedVariables false
set_option linter.unusedSimpArgs false
set_option linter.unusedSectionVars false
namespace Go.Proofs.Ytejelihioendnaa
open Go.RowKit

def upS (sl : Nat → List (Int × Int)) (i : Nat) (L : List (Int × Int)) : Nat → List (Int × Int) := fun j => if j = i then L else sl j
section
variable {w w' : World} {g : Nat} {bs : Nat → Option Nat} {bf bp : Nat} {s : Wh} (h : WH w g bs bf bp s)
include h
theorem WH.ne_g {i b : Nat} (hi : i ≤ 256) (hb : at_ bs bf i = some b) : g ≠ b := fun e => (h.mp hi hb).ne_blk h.blk e.symm
theorem WH.at_ne {i j b : Nat} (hi : i ≤ 256) (hj : j ≤ 256) (hb : at_ bs bf i = some b) (hb' : at_ bs bf j = some b) : i = j := by
  unfold at_ at hb hb'
  split at hb <;> split at hb'
  · omega
  · injection hb with hb; exact absurd rfl (hb ▸ (h.nf j b (by omega) hb').1)
  · injection hb' with hb'; exact absurd rfl (hb' ▸ (h.nf i b (by omega) hb).1)
  · exact h.inj i j b (by omega) (by omega) hb hb'
theorem WH.ne_p {i b : Nat} (hi : i ≤ 256) (hb : at_ bs bf i = some b) : bp ≠ b := by
  unfold at_ at hb
  split at hb
  · injection hb with hb; intro e; exact h.fp (hb.trans e.symm)
  · exact fun e => (h.nf i b (by omega) hb).2 e.symm
theorem WH.slot_up {i b : Nat} (hi : i ≤ 256) (hb : at_ bs bf i = some b) {L : List (Int × Int)} (hm : Mp MI w' b L) (u : Upd w w' (· = b)) : WH w' g bs bf bp { s with sl := upS s.sl i L } := by
  refine ⟨h.blk.upd u (h.ne_g hi hb), fun k hk hn => ?_, fun k c hk hc => ?_, ?_, h.place.upd u (h.ne_p hi hb), h.inj, h.nf, h.fp⟩
  · show upS s.sl i L k = []
    unfold upS
    by_cases e : k = i
    · subst e
      unfold at_ at hb
      rw [if_neg (by omega), hn] at hb
      cases hb
    · rw [if_neg e]
      exact h.nil_ k hk hn
  · show Mp MI w' c (upS s.sl i L k)
    unfold upS
    by_cases e : k = i
    · subst e
      unfold at_ at hb
      rw [if_neg (by omega), hc] at hb
      injection hb with hb
      subst hb
      rw [if_pos rfl]
      exact hm
    · rw [if_neg e]
      refine (h.slot k c hk hc).upd u (fun e2 => ?_)
      subst e2
      exact e (h.at_ne (by omega) hi (by unfold at_; rw [if_neg (by omega)]; exact hc) hb)
  · show Mp MI w' bf (upS s.sl i L 256)
    unfold upS
    by_cases e : 256 = i
    · subst e
      unfold at_ at hb
      rw [if_pos rfl] at hb
      injection hb with hb
      subst hb
      rw [if_pos rfl]
      exact hm
    · rw [if_neg e]
      refine h.far.upd u (fun e2 => ?_)
      subst e2
      exact e (h.at_ne (Nat.le_refl _) hi (by unfold at_; rw [if_pos rfl]) hb)
theorem WH.place_up {P : List (Int × (Int × Int))} (hm : Mp MP w' bp P) (u : Upd w w' (· = bp)) : WH w' g bs bf bp { s with pl := P } :=
  ⟨h.blk.upd u (fun e => h.place.ne_blk h.blk e.symm), h.nil_, fun k c hk hc => (h.slot k c hk hc).upd u (h.nf k c hk hc).2, h.far.upd u h.fp, hm, h.inj, h.nf, h.fp⟩
end

/-! ### the maps' operations, spelled out -/
section
variable {w : World} {b : Nat} {L : List (Int × Int)} {P : List (Int × (Int × Int))} {ops : Array Oper} {tail : List Oper} {o : Oper} {a : Act} {Q : Exit → Act → World → Prop}
def plOf (k : Int) (P : List (Int × (Int × Int))) : Int × Int := (look k P).getD (0, 0)
theorem lookP2 (h : Mp MP w b P) (hg : o.guard = none) (m x : Operand) (hop : o.op = Op.lookup 60 m x true) (hm : a.eval m = .map (some b)) (key : Int) (hx : a.eval x = .int .i64 key) (ha : okI key)
    (hK : wpList Try.prog ops Q tail (a.put o.dst (.tuple #[.agg #[.int .i64 (plOf key P).1, .int .i64 (plOf key P).2], .bool (look key P).isSome])) w) : wpList Try.prog ops Q (o :: tail) a w :=
  wp_lookM2 h hg m x hop hm key hx ha hK
theorem lookI1 (h : Mp MI w b L) (hg : o.guard = none) (m x : Operand) (hop : o.op = Op.lookup 59 m x false) (hm : a.eval m = .map (some b)) (key : Int) (hx : a.eval x = .int .i64 key) (ha : okI key)
    (hK : wpList Try.prog ops Q tail (a.put o.dst (.int .i64 ((look key L).getD 0))) w) : wpList Try.prog ops Q (o :: tail) a w :=
  wp_lookM1 h hg m x hop hm key hx ha hK
theorem delI (h : Mp MI w b L) (hg : o.guard = none) (m x : Operand) (hop : o.op = Op.call { callee := Callee.builtin Builtin.delete, args := #[m, x], argTypes := #[59, 3] }) (hm : a.eval m = .map (some b)) (key : Int) (hx : a.eval x = .int .i64 key) (ha : okI key)
    (hK : ∀ w', Mp MI w' b (del key L) → Upd w w' (· = b) → w'.heap.size = w.heap.size → wpList Try.prog ops Q tail (a.put o.dst (.tuple #[])) w') : wpList Try.prog ops Q (o :: tail) a w :=
  wp_delM h hg m x hop hm key hx ha hK
theorem delP (h : Mp MP w b P) (hg : o.guard = none) (m x : Operand) (hop : o.op = Op.call { callee := Callee.builtin Builtin.delete, args := #[m, x], argTypes := #[60, 3] }) (hm : a.eval m = .map (some b)) (key : Int) (hx : a.eval x = .int .i64 key) (ha : okI key)
    (hK : ∀ w', Mp MP w' b (del key P) → Upd w w' (· = b) → w'.heap.size = w.heap.size → wpList Try.prog ops Q tail (a.put o.dst (.tuple #[])) w') : wpList Try.prog ops Q (o :: tail) a w :=
  wp_delM h hg m x hop hm key hx ha hK
theorem putI (h : Mp MI w b L) (hg : o.guard = none) (m x v : Operand) (hop : o.op = Op.mapUpdate 59 m x v) (hm : a.eval m = .map (some b)) (key c : Int) (hx : a.eval x = .int .i64 key) (hv : a.eval v = .int .i64 c) (ha : okI key)
    (hK : ∀ w', Mp MI w' b (put key c L) → Upd w w' (· = b) → w'.heap.size = w.heap.size → wpList Try.prog ops Q tail (a.put o.dst undef) w') : wpList Try.prog ops Q (o :: tail) a w :=
  wp_putM h hg m x v hop hm key c hx hv ha hK
theorem putP_run (h : Mp MP w b P) (key : Int) (p : Int × Int) (ha : okI key) :
    ∃ w', (Instr.mapUpdate 60 (.map (some b)) (.int .i64 key) (.agg #[.int .i64 p.1, .int .i64 p.2])).run Try.prog w = .ok () w' ∧ Mp MP w' b (put key p P) ∧ Upd w w' (· = b) ∧ w'.heap.size = w.heap.size := h.update key p ha
end
/-- .. of a wheel whose places are such. -/
def plok (s : Wh) : Prop := ∀ id p, look id s.pl = some p → okp p
def dueR (s : Wh) (id : Int) : Int × Bool := match look id s.pl with
  | none => (0, false)
  | some p => ((look id (s.sl (idx p))).getD 0, true)
def cancelR (s : Wh) (id : Int) : Wh × Bool := match look id s.pl with
  | none => (s, false)
  | some p => (⟨s.now, upS s.sl (idx p) (del id (s.sl (idx p))), del id s.pl⟩, true)
theorem FT_of {g : Nat} {bs bs' : Nat → Option Nat} {bf bp : Nat} {n : Nat} (hg : ∀ k c, bs' k = some c → bs k = some c ∨ n ≤ c) {i : Nat} (h : FT g bs' bf bp i) : FT g bs bf bp i ∨ n ≤ i := by
  rcases h with h | h | h | ⟨k, hk, h⟩
  · exact .inl (.inl h)
  · exact .inl (.inr (.inl h))
  · exact .inl (.inr (.inr (.inl h)))
  · rcases hg k i h with h | h
    · exact .inl (.inr (.inr (.inr ⟨k, hk, h⟩)))
    · exact .inr h
theorem FT_at {g : Nat} {bs : Nat → Option Nat} {bf bp : Nat} {i b : Nat} (hi : i ≤ 256) (hb : at_ bs bf i = some b) : FT g bs bf bp b := by
  unfold at_ at hb
  split at hb
  · injection hb with hb; exact .inr (.inl hb.symm)
  · exact .inr (.inr (.inr ⟨i, by omega, hb⟩))

set_option maxRecDepth 100000 in
set_option maxHeartbeats 2000000 in
theorem due_any {w : World} {g : Nat} {F : Nat → Prop} {s : Wh} (h : WO w g F s) (hp : plok s) (id : Int) (hid : okI id) :
    Calls Try.prog 21 #[.pointer (some ⟨g, 0, none⟩), .int .i64 id] w fun e w' => e = .returned (.tuple #[.int .i64 (dueR s id).1, .bool (dueR s id).2]) ∧ ∃ F', WO w' g F' s ∧ Gr w w' F F' := by
  obtain ⟨bs, bf, bp, h, hF⟩ := h
  have c := h.cp
  have hm := h.place
  have hg := h.blk.lt
  cases hl : look id s.pl with
  | none =>
    have hpl : plOf id s.pl = (0, 0) := by unfold plOf; rw [hl]; rfl
    have hR : dueR s id = (0, false) := by unfold dueR; rw [hl]
    rw [hR]
    have u : Upd w (w.alloc (.cells #[.int .i64 0, .int .i64 0] 67)) Nope := (Upd.refl w _).alloc _
    have H := Lib.hid (show ∃ F', WO (w.alloc (.cells #[.int .i64 0, .int .i64 0] 67)) g F' s ∧ Gr w (w.alloc (.cells #[.int .i64 0, .int .i64 0] 67)) F F' from ⟨F, ⟨bs, bf, bp, h.nn u, hF⟩, Gr.same u⟩)
    clear h hp hF hR u
    go_enter Try.func21, Try.ntmps21
    go_wp2_with (first | (at_lookup; refine lookP2 hm rfl _ _ rfl rfl id rfl hid ?_; rw [hpl, hl]) | go_in)
    go_ret2
    exact ⟨rfl, H.out⟩
  | some p =>
    have hpo := hp id p hl
    have hpl : plOf id s.pl = p := by unfold plOf; rw [hl]; rfl
    have hR : dueR s id = ((look id (s.sl (idx p))).getD 0, true) := by unfold dueR; rw [hl]
    rw [hR]
    have u : Upd w (w.alloc (.cells #[.int .i64 p.1, .int .i64 p.2] 67)) Nope := (Upd.refl w _).alloc _
    have hO := of_any (h.nn u) p hpo
    unfold pv at hO
    have HO := Lib.hid hO
    have HF := Lib.hid hF
    clear h hp hF hR hO
    go_enter Try.func21, Try.ntmps21
    go_wp2_with (first | (at_lookup; refine lookP2 hm rfl _ _ rfl rfl id rfl hid ?_; rw [hpl, hl]) | (go_at_call 23; refine HO.out.mono ?_; rintro e w2 ⟨b, bs', rfl, hw, hb, hu, hgr, _⟩) | (at_lookup; refine lookI1 (hw.mp (idx_le hpo) hb) rfl _ _ rfl rfl id rfl hid ?_) | go_in)
    go_ret2
    have hgr' : ∀ k c, bs' k = some c → bs k = some c ∨ w.heap.size ≤ c := fun k c hc => (hgr k c hc).imp _root_.id (fun h => by simp at h; omega)
    exact ⟨rfl, _, ⟨bs', bf, bp, hw, fun _ => Iff.rfl⟩, ⟨(u.mono (fun _ _ h => h.elim)).then_ (hu.mono (fun i _ e => (HF.out i).2 (.inl e))), fun i hi => (FT_of hgr' hi).imp (HF.out i).2 _root_.id⟩⟩
set_option maxRecDepth 100000 in
set_option maxHeartbeats 2000000 in
theorem cancel_any {w : World} {g : Nat} {F : Nat → Prop} {s : Wh} (h : WO w g F s) (hp : plok s) (id : Int) (hid : okI id) :
    Calls Try.prog 13 #[.pointer (some ⟨g, 0, none⟩), .int .i64 id] w fun e w' => e = .returned (.bool (cancelR s id).2) ∧ ∃ F', WO w' g F' (cancelR s id).1 ∧ Gr w w' F F' := by
  obtain ⟨bs, bf, bp, h, hF⟩ := h
  have c := h.cp
  have hm := h.place
  have hg := h.blk.lt
  cases hl : look id s.pl with
  | none =>
    have hpl : plOf id s.pl = (0, 0) := by unfold plOf; rw [hl]; rfl
    have hR : cancelR s id = (s, false) := by unfold cancelR; rw [hl]
    rw [hR]
    have u : Upd w (w.alloc (.cells #[.int .i64 0, .int .i64 0] 67)) Nope := (Upd.refl w _).alloc _
    have H := Lib.hid (show ∃ F', WO (w.alloc (.cells #[.int .i64 0, .int .i64 0] 67)) g F' s ∧ Gr w (w.alloc (.cells #[.int .i64 0, .int .i64 0] 67)) F F' from ⟨F, ⟨bs, bf, bp, h.nn u, hF⟩, Gr.same u⟩)
    clear h hp hF hR u
    go_enter Try.func13, Try.ntmps13
    go_wp2_with (first | (at_lookup; refine lookP2 hm rfl _ _ rfl rfl id rfl hid ?_; rw [hpl, hl]) | go_in)
    go_ret
    exact ⟨rfl, H.out⟩
  | some p =>
    have hpo := hp id p hl
    have hpl : plOf id s.pl = p := by unfold plOf; rw [hl]; rfl
    have hR : cancelR s id = (⟨s.now, upS s.sl (idx p) (del id (s.sl (idx p))), del id s.pl⟩, true) := by unfold cancelR; rw [hl]
    rw [hR]
    have u : Upd w (w.alloc (.cells #[.int .i64 p.1, .int .i64 p.2] 67)) Nope := (Upd.refl w _).alloc _
    have hO := of_any (h.nn u) p hpo
    unfold pv at hO
    have HO := Lib.hid hO
    have HF := Lib.hid hF
    clear h hp hF hR hO
    go_enter Try.func13, Try.ntmps13
    go_wp2_with (first | (at_lookup; refine lookP2 hm rfl _ _ rfl rfl id rfl hid ?_; rw [hpl, hl]) | (go_at_call 23; refine HO.out.mono ?_; rintro e w2 ⟨b, bs', rfl, hw, hb, hu, hgr, _⟩) | (at_delete; refine delI (hw.mp (idx_le hpo) hb) rfl _ _ rfl rfl id rfl hid ?_; intro w3 hm3 hu3 hz3; have hw3 := hw.slot_up (idx_le hpo) hb hm3 hu3; have c3 := hw3.cp) | (at_delete; refine delP hw3.place rfl _ _ rfl rfl id rfl hid ?_; intro w4 hm4 hu4 hz4; have hw4 := hw3.place_up hm4 hu4) | go_in)
    go_ret
    have hgr' : ∀ k c, bs' k = some c → bs k = some c ∨ w.heap.size ≤ c := fun k c hc => (hgr k c hc).imp _root_.id (fun h => by simp at h; omega)
    have hfb : ∀ i, i = b → F i ∨ w.heap.size ≤ i := fun i e => by
      subst e
      exact (FT_of hgr' (FT_at (g := g) (bp := bp) (idx_le hpo) hb)).imp (HF.out i).2 _root_.id
    refine ⟨rfl, _, ⟨bs', bf, bp, hw4, fun _ => Iff.rfl⟩, ⟨?_, fun i hi => (FT_of hgr' hi).imp (HF.out i).2 _root_.id⟩⟩
    refine (((u.mono (G := F) (fun _ _ h => h.elim)).then_ (hu.mono (fun i _ e => (HF.out i).2 (.inl e)))).trans hu3 (fun _ _ h => h) (fun i hi e => (hfb i e).resolve_right (by omega))).trans hu4 (fun _ _ h => h) (fun i hi e => (HF.out i).2 (.inr (.inr (.inl e))))
end Go.Proofs.Ytejelihioendnaa
