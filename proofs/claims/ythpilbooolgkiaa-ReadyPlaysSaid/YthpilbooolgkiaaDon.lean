/- Done, Remove. -/
import Derived.Test.YthpilbooolgkiaaOrd
set_option linter.unusedVariables false
set_option linter.unusedSimpArgs false
namespace Go.Proofs.Ythpilbooolgkiaa
open Go.RowKit

theorem okI_of {a : Int} (h : -9223372036854775808 ≤ a) (h' : a ≤ 9223372036854775807) : okI a := by
  simp [okI, Lit.wf, IntKind.min, IntKind.max, IntKind.signed, IntKind.bits]
  omega
theorem posF_cases (p : En → Bool) : ∀ (l : List En) (k : Nat), (posF p k l = -1 ∧ ∀ e ∈ l, p e = false) ∨ ∃ P x S, l = P ++ x :: S ∧ posF p k l = ((k + P.length : Nat) : Int) ∧ p x = true ∧ ∀ e ∈ P, p e = false
  | [], k => .inl ⟨rfl, fun e h => by cases h⟩
  | a :: l, k => by
    unfold posF
    by_cases ha : p a = true
    · rw [if_pos ha]
      exact .inr ⟨[], a, l, rfl, by simp, ha, fun e h => by cases h⟩
    · rw [if_neg ha]
      have ha' : p a = false := by simpa using ha
      rcases posF_cases p l (k + 1) with ⟨h1, h2⟩ | ⟨P, x, S, rfl, h2, h3, h4⟩
      · exact .inl ⟨h1, fun e he => by
          rcases List.mem_cons.1 he with rfl | he
          · exact ha'
          · exact h2 e he⟩
      · refine .inr ⟨a :: P, x, S, rfl, by rw [h2, List.length_cons]; congr 1; omega, h3, fun e he => ?_⟩
        rcases List.mem_cons.1 he with rfl | he
        · exact ha'
        · exact h4 e he
theorem pos_cases (p : En → Bool) (l : List En) : (posOf p l = -1 ∧ ∀ e ∈ l, p e = false) ∨ ∃ P x S, l = P ++ x :: S ∧ posOf p l = (P.length : Int) ∧ p x = true ∧ ∀ e ∈ P, p e = false := by
  have := posF_cases p l 0
  simpa [posOf] using this
/-- The first one of its kind is taken out. -/
def remL (p : En → Bool) (l : List En) : List En := l.eraseP p
theorem remL_none {p : En → Bool} {l : List En} (h : ∀ e ∈ l, p e = false) : remL p l = l := List.eraseP_of_forall_not (fun e he => by simp [h e he])
theorem remL_at {p : En → Bool} {P S : List En} {x : En} (hx : p x = true) (hP : ∀ e ∈ P, p e = false) : remL p (P ++ x :: S) = P ++ S := by
  unfold remL
  rw [List.eraseP_append_right _ (fun e he => by simp [hP e he]), List.eraseP_cons_of_pos hx]
theorem remL_mem {p : En → Bool} {l : List En} {e : En} (h : e ∈ remL p l) : e ∈ l := List.mem_of_mem_eraseP h
/-- New blocks alone join, and blocks of one's own alone turn. -/
structure Gr (w w' : World) (F F' : Nat → Prop) : Prop where
  upd : Upd w w' F
  new : ∀ i, F' i → F i ∨ w.heap.size ≤ i
section
variable {w : World} {b : Nat} {L : List (Int × ByteArray)} {ops : Array Oper} {tail : List Oper} {o : Oper} {a : Act} {Q : Exit → Act → World → Prop}
theorem lookS2 (h : Mp MS w b L) (hg : o.guard = none) (m x : Operand) (hop : o.op = Op.lookup 65 m x true) (hm : a.eval m = .map (some b)) (key : Int) (hx : a.eval x = .int .i64 key) (ha : okI key)
    (hK : wpList Try.prog ops Q tail (a.put o.dst (.tuple #[.string ((look key L).getD ByteArray.empty), .bool (look key L).isSome])) w) : wpList Try.prog ops Q (o :: tail) a w :=
  wp_lookM2 h hg m x hop hm key hx ha hK
theorem delS (h : Mp MS w b L) (hg : o.guard = none) (m x : Operand) (hop : o.op = Op.call { callee := Callee.builtin Builtin.delete, args := #[m, x], argTypes := #[65, 3] }) (hm : a.eval m = .map (some b)) (key : Int) (hx : a.eval x = .int .i64 key) (ha : okI key)
    (hK : ∀ w', Mp MS w' b (del key L) → Upd w w' (· = b) → wpList Try.prog ops Q tail (a.put o.dst (.tuple #[])) w') : wpList Try.prog ops Q (o :: tail) a w :=
  wp_delM h hg m x hop hm key hx ha (fun w' h1 h2 _ => hK w' h1 h2)
end
section
variable {w : World} {g : Nat} {F : Nat → Prop} {age limit room : Int} {l : List En} {fly : List (Int × ByteArray)} (h : RO w g F age limit room l fly)
include h
set_option maxHeartbeats 1000000 in
theorem RO.done_ (id : Int) (hid : okI id) : Calls Try.prog 17 #[.pointer (some ⟨g, 0, none⟩), .int .i64 id] w fun r w' => r = .returned (.bool (look id fly).isSome) ∧ RO w' g F age limit room l (del id fly) ∧ Upd w w' F := by
  obtain ⟨A, cap, b, h1, h2, h3, h4, h5, h6⟩ := h.out
  have c4 : w.cell? ⟨g, 4, none⟩ = some (.map (some b)) := (h1.cell 4).trans rfl
  have HR := Lib.hid (And.intro h1 (And.intro h2 (And.intro h4 (And.intro h5 (And.intro h6 h.ok)))))
  have hm := h3
  clear h h1 h2 h3 h4 h5 h6
  go_enter Try.func17, Try.ntmps17
  go_wp2_with (first
    | (at_lookup; refine lookS2 hm rfl _ _ rfl rfl id rfl hid ?_)
    | (refine delS hm rfl _ _ rfl rfl id rfl hid ?_; intro w2 hm2 hu2; clear hm c4)
    | fail)
  have HM := Lib.hid (And.intro hm2 hu2)
  clear hm2 hu2
  go_wp2
  go_ret
  obtain ⟨h1, h2, h4, h5, h6, hk⟩ := HR.out
  obtain ⟨hm2, hu2⟩ := HM.out
  refine ⟨rfl, ⟨⟨A, cap, b, h1.upd hu2 (fun e => h5 e.symm), h2.upd hu2 (fun ad e => (h6 ad e).2), hm2, h4, h5, h6⟩, hk⟩, hu2.mono (fun i _ e => (h4 i).2 (.inr (.inl e)))⟩
set_option maxHeartbeats 1000000 in
theorem RO.remove_ (id : Int) (hl : l.length ≤ 5000) : Calls Try.prog 19 #[.pointer (some ⟨g, 0, none⟩), .int .i64 id] w fun r w' => r = .returned (.bool (l.any fun e => e.id == id)) ∧ RO w' g F age limit room (remL (fun e => e.id == id) l) fly ∧ Upd w w' F := by
  have HAT := Lib.hid (h.at_ id hl)
  have H := Lib.hid h
  rcases pos_cases (fun e => e.id == id) l with ⟨hp, hn⟩ | ⟨P, x, S, rfl, hp, hx, hn⟩
  · have hr := remL_none hn
    have ha : (l.any fun e => e.id == id) = false := by rw [List.any_eq_false]; intro e he; simp [hn e he]
    have HRA := Lib.hid (And.intro hr ha)
    rw [hp] at HAT
    clear h hp hn hr ha
    go_enter Try.func19, Try.ntmps19
    go_wp2_with fail
    refine HAT.out.mono ?_
    rintro e w2 ⟨rfl, hU⟩
    have HU := Lib.hid hU
    clear hU HAT
    go_wp2
    go_ret
    rw [HRA.out.1, HRA.out.2]
    exact ⟨rfl, H.out.nn HU.out, HU.out.mono (fun _ _ h => h.elim)⟩
  · have hr := remL_at (S := S) hx hn
    have ha : ((P ++ x :: S).any fun e => e.id == id) = true := List.any_eq_true.2 ⟨x, by simp, hx⟩
    have HRA := Lib.hid (And.intro hr ha)
    rw [hp] at HAT
    have hpl : P.length ≤ 5000 := by simp at hl; omega
    have HL := Lib.hid hl
    clear h hp hn hr ha hx hl
    go_enter Try.func19, Try.ntmps19
    go_wp2_with fail
    refine HAT.out.mono ?_
    rintro e w2 ⟨rfl, hU⟩
    have H2 := Lib.hid (H.out.nn hU)
    have HU := Lib.hid hU
    obtain ⟨A, cap, b, h1, h2, h3, h4, h5, h6⟩ := H2.out.out
    rcases h2 with ⟨_, _, he⟩ | ⟨q, rfl, hA⟩
    · simp at he
    obtain ⟨n, hn⟩ : ∃ n, n = (P ++ x :: S).length := ⟨_, rfl⟩
    have c3 : w2.cell? ⟨g, 3, none⟩ = some (.slice (some ⟨q, 0, none⟩) n cap) := by rw [hn]; exact (h1.cell 3).trans rfl
    have hD := delete_any w2 q cap P S x hA n P.length hn rfl (by rw [hn]; exact HL.out)
    rw [show ((P.length + 1 : Nat) : Int) = (P.length : Int) + 1 by omega] at hD
    have hqg : q ≠ g := (h6 _ rfl).1
    have HD := Lib.hid hD
    have HO := Lib.hid (And.intro h1 (And.intro h3 (And.intro h4 (And.intro h5 h6))))
    clear hU HAT h1 h3 h4 h5 h6 hA hn hD
    go_wp2_with fail
    refine HD.out.mono ?_
    rintro e w3 ⟨rfl, hA3, hU3⟩
    obtain ⟨h1, h3, h4, h5, h6⟩ := HO.out
    have h13 := h1.upd hU3 (fun e => hqg e.symm)
    have d3 : w3.cell? ⟨g, 3, none⟩ = some (.slice (some ⟨q, 0, none⟩) (P ++ x :: S).length cap) := (h13.cell 3).trans rfl
    have df := h13.frozen 3
    have HF := Lib.hid (And.intro hA3 (And.intro hU3 h13))
    have HO2 := Lib.hid (And.intro h3 (And.intro h4 (And.intro h5 h6)))
    clear hA3 hU3 h1 h3 h4 h5 h6 h13 c3 HD
    generalize hM : P ++ S = M at *
    have HM := Lib.hid hM
    clear hM
    go_wp2
    go_ret
    rw [HRA.out.1, HRA.out.2]
    obtain ⟨hA3, hU3, h13⟩ := HF.out
    obtain ⟨h3, h4, h5, h6⟩ := HO2.out
    have hu4 : Upd w3 (w3.setCell ⟨g, 3, none⟩ (.slice (some ⟨q, 0, none⟩) M.length cap)) (fun k => k = g) := (Upd.refl w3 (fun k => k = g)).set _ _ (.inl rfl)
    refine ⟨rfl, ⟨⟨some ⟨q, 0, none⟩, cap, b, h13.set 3 _, .inr ⟨q, rfl, hA3.upd hu4 hqg⟩, (h3.upd hU3 (h6 _ rfl).2.symm).upd hu4 h5, h4, h5, h6⟩, fun e he => H.out.ok e (by
      rw [← HM.out] at he
      rcases List.mem_append.1 he with h | h <;> simp [h])⟩, ?_⟩
    exact ((HU.out.mono (fun _ _ h => h.elim)).then_ (hU3.mono (fun i _ e => (h4 i).2 (.inr (.inr ⟨_, rfl, e⟩))))).then_ (hu4.mono (fun i _ e => (h4 i).2 (.inl e)))
end
end Go.Proofs.Ythpilbooolgkiaa
