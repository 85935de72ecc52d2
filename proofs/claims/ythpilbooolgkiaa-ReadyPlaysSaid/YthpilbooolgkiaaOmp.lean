/- ReadyOrder: its maps, and its plain law. -/
import Derived.Test.YthpilbooolgkiaaWts
set_option linter.unusedVariables false
set_option linter.unusedSimpArgs false
namespace Go.Proofs.Ythpilbooolgkiaa
open Go.RowKit
open Go.Maps (int_keyed keyOf_int_mk)

/-- The map of entries, by their numbers. -/
def MB : MK Try.prog 3 Int En where
  kv := .int .i64
  ok := okI
  vv := En.val
  K := int_keyed Try.underlying3
  key a h := ⟨_, keyOf_int_mk Try.underlying3 h⟩
  inj a b h := by injection h
  vinj a b h := by
    unfold En.val at h
    simp only [Value.agg.injEq, Array.mk.injEq, List.cons.injEq, Value.int.injEq, true_and, Value.string.injEq, and_true] at h
    exact En.ext' h.1 h.2.1 h.2.2.1 h.2.2.2
  tT := 62
  eT := 34
  under := Try.underlying62
  zero := ⟨0, ByteArray.empty, 0, 0⟩
  zrun w := by kernel_rfl
/-- The map of places. -/
def MA : MK Try.prog 3 Int Int where
  kv := .int .i64
  ok := okI
  vv := .int .i64
  K := int_keyed Try.underlying3
  key a h := ⟨_, keyOf_int_mk Try.underlying3 h⟩
  inj a b h := by injection h
  vinj a b h := by injection h
  tT := 63
  eT := 3
  under := Try.underlying63
  zero := 0
  zrun w := by kernel_rfl
theorem quiet_lookM {k : TypeId} {α β : Type} [DecidableEq α] {M : MK Try.prog k α β} {C : World → Prop} {K : Act → Prop} {a : Act} {o : Oper} {b : Nat} {L : List (α × β)} (hC : ∀ w, C w → Mp M w b L) (m x : Operand) (hop : o.op = Op.lookup M.tT m x false)
    (hm : a.eval m = .map (some b)) (key : α) (hx : a.eval x = M.kv key) (ha : M.ok key) (hk : K (a.put o.dst (M.vv ((look key L).getD M.zero)))) : o.quiet Try.prog a C K :=
  ⟨_, fun w hw => by
    have e : (Instr.lookup M.tT (.map (some b)) (M.kv key) false).run Try.prog w = .ok (M.vv ((look key L).getD M.zero)) w := (hC w hw).lookup false key ha
    unfold Oper.quietAt
    simp [execOp, hop, hm, hx, e, Oper.quietUpon, Result.andThen], hk⟩
theorem quiet_lookB {C : World → Prop} {K : Act → Prop} {a : Act} {o : Oper} {b : Nat} {L : List (Int × En)} (hC : ∀ w, C w → Mp MB w b L) (m x : Operand) (hop : o.op = Op.lookup 62 m x false) (hm : a.eval m = .map (some b)) (key : Int) (e : En) (he : look key L = some e)
    (hx : a.eval x = .int .i64 key) (ha : okI key) (hk : K (a.put o.dst (.agg #[.int .i64 e.id, .string e.dest, .int .i64 e.pri, .int .i64 e.at_]))) : o.quiet Try.prog a C K :=
  quiet_lookM hC m x hop hm key hx ha (by rw [he]; exact hk)
theorem quiet_lookA {C : World → Prop} {K : Act → Prop} {a : Act} {o : Oper} {b : Nat} {L : List (Int × Int)} (hC : ∀ w, C w → Mp MA w b L) (m x : Operand) (hop : o.op = Op.lookup 63 m x false) (hm : a.eval m = .map (some b)) (key : Int) (e : Int) (he : look key L = some e)
    (hx : a.eval x = .int .i64 key) (ha : okI key) (hk : K (a.put o.dst (.int .i64 e))) : o.quiet Try.prog a C K :=
  quiet_lookM hC m x hop hm key hx ha (by rw [he]; exact hk)
section
variable {w : World} {b : Nat} {ops : Array Oper} {tail : List Oper} {o : Oper} {a : Act} {Q : Exit → Act → World → Prop}
theorem putB {L : List (Int × En)} (h : Mp MB w b L) (hg : o.guard = none) (m x v : Operand) (hop : o.op = Op.mapUpdate 62 m x v) (hm : a.eval m = .map (some b)) (key : Int) (c : En) (hx : a.eval x = .int .i64 key) (hv : a.eval v = .agg #[.int .i64 c.id, .string c.dest, .int .i64 c.pri, .int .i64 c.at_]) (ha : okI key)
    (hK : ∀ w', Mp MB w' b (put key c L) → Upd w w' (· = b) → wpList Try.prog ops Q tail (a.put o.dst undef) w') : wpList Try.prog ops Q (o :: tail) a w :=
  wp_putM h hg m x v hop hm key c hx hv ha (fun w' h1 h2 _ => hK w' h1 h2)
theorem putA {L : List (Int × Int)} (h : Mp MA w b L) (hg : o.guard = none) (m x v : Operand) (hop : o.op = Op.mapUpdate 63 m x v) (hm : a.eval m = .map (some b)) (key : Int) (c : Int) (hx : a.eval x = .int .i64 key) (hv : a.eval v = .int .i64 c) (ha : okI key)
    (hK : ∀ w', Mp MA w' b (put key c L) → Upd w w' (· = b) → wpList Try.prog ops Q tail (a.put o.dst undef) w') : wpList Try.prog ops Q (o :: tail) a w :=
  wp_putM h hg m x v hop hm key c hx hv ha (fun w' h1 h2 _ => hK w' h1 h2)
theorem lenB {L : List (Int × En)} (h : Mp MB w b L) (hg : o.guard = none) (m : Operand) (hop : o.op = Op.call { callee := Callee.builtin Builtin.len, args := #[m], argTypes := #[62] }) (hm : a.eval m = .map (some b))
    (hK : wpList Try.prog ops Q tail (a.put o.dst (.int .i64 (L.length : Int))) w) : wpList Try.prog ops Q (o :: tail) a w := wp_lenM h hg m hop hm hK
end
/-! ### The plain law -/
/-- The entries that are there, with their places. -/
structure PL (P : List (En × Nat)) (k : Nat) : Prop where
  ids : (P.map fun p => p.1.id).Nodup
  inc : P.Pairwise (fun p q => p.2 < q.2)
  lt : ∀ p ∈ P, p.2 < k
  ok : ∀ p ∈ P, p.1.ok
def ents (P : List (En × Nat)) : List En := P.map (·.1)
def byL (P : List (En × Nat)) : List (Int × En) := P.map fun p => (p.1.id, p.1)
def atL (P : List (En × Nat)) : List (Int × Int) := P.map fun p => (p.1.id, (p.2 : Int))
theorem PL.nil : PL [] 0 := ⟨by simp, by simp, by simp, by simp⟩
theorem PL.next {P : List (En × Nat)} {k : Nat} (h : PL P k) : PL P (k + 1) := ⟨h.ids, h.inc, fun p hp => by have := h.lt p hp; omega, h.ok⟩
theorem PL.snoc {P : List (En × Nat)} {k : Nat} (h : PL P k) {x : En} (hx : x.ok) (hn : ((ents P).any fun e => e.id == x.id) = false) : PL (P ++ [(x, k)]) (k + 1) := by
  have hn' : ∀ p ∈ P, p.1.id ≠ x.id := fun p hp e => by
    rw [List.any_eq_false] at hn
    exact hn p.1 (List.mem_map_of_mem hp) (by simpa using e)
  refine ⟨?_, ?_, fun p hp => ?_, fun p hp => ?_⟩
  · rw [List.map_append, List.nodup_append]
    refine ⟨h.ids, by simp, fun a ha b hb => ?_⟩
    obtain ⟨p, hp, rfl⟩ := List.mem_map.1 ha
    simp at hb
    rw [hb]
    exact hn' p hp
  · rw [List.pairwise_append]
    refine ⟨h.inc, by simp, fun a ha b hb => ?_⟩
    simp at hb
    rw [hb]
    exact h.lt a ha
  · rcases List.mem_append.1 hp with hp | hp
    · have := h.lt p hp; omega
    · simp at hp; rw [hp]; simp
  · rcases List.mem_append.1 hp with hp | hp
    · exact h.ok p hp
    · simp at hp; rw [hp]; exact hx
theorem put_by {P : List (En × Nat)} {x : En} {k : Nat} (hn : ((ents P).any fun e => e.id == x.id) = false) : put x.id x (byL P) = byL (P ++ [(x, k)]) ∧ put x.id (k : Int) (atL P) = atL (P ++ [(x, k)]) := by
  have hn' : ∀ p ∈ P, p.1.id ≠ x.id := fun p hp e => by
    rw [List.any_eq_false] at hn
    exact hn p.1 (List.mem_map_of_mem hp) (by simpa using e)
  constructor
  · rw [put_new (fun q hq => by obtain ⟨p, hp, rfl⟩ := List.mem_map.1 hq; exact hn' p hp)]
    simp [byL]
  · rw [put_new (fun q hq => by obtain ⟨p, hp, rfl⟩ := List.mem_map.1 hq; exact hn' p hp)]
    simp [atL]
theorem look_uniq {β : Type} {l : List (Int × β)} (hn : (l.map (·.1)).Nodup) {a : Int} {c : β} (h : (a, c) ∈ l) : look a l = some c := by
  induction l with
  | nil => cases h
  | cons p l ih =>
    obtain ⟨b, d⟩ := p
    rw [List.map_cons, List.nodup_cons] at hn
    rcases List.mem_cons.1 h with h | h
    · injection h with h1 h2
      subst h1 h2
      simp [look]
    · have hne : b ≠ a := fun e => hn.1 (by rw [e]; exact List.mem_map_of_mem (f := (·.1)) h)
      have := ih hn.2 h
      simp [look, hne, this]
theorem PL.by_ {P : List (En × Nat)} {k : Nat} (h : PL P k) {e : En} (he : e ∈ ents P) : look e.id (byL P) = some e := by
  obtain ⟨p, hp, rfl⟩ := List.mem_map.1 he
  refine look_uniq ?_ (List.mem_map_of_mem hp)
  have := h.ids
  simpa [byL, Function.comp_def] using this
theorem PL.at_ {P : List (En × Nat)} {k : Nat} (h : PL P k) {p : En × Nat} (hp : p ∈ P) : look p.1.id (atL P) = some (p.2 : Int) := by
  refine look_uniq ?_ (List.mem_map_of_mem (f := fun p : En × Nat => (p.1.id, (p.2 : Int))) hp)
  have := h.ids
  simpa [atL, Function.comp_def] using this
/-- Ties stand as they were put. -/
theorem PL.ties {P : List (En × Nat)} {k : Nat} (h : PL P k) {ky : En → Int} {M1 M2 : List En} {x y : En} (hm : srtK ky (ents P) = M1 ++ x :: y :: M2) (hk : ky x = ky y) :
    ∃ i j : Nat, look x.id (atL P) = some (i : Int) ∧ look y.id (atL P) = some (j : Int) ∧ i < j := by
  have h1 := same_srtK (ky := ky) (ents P) (ky x)
  rw [hm, List.filter_append, List.filter_cons_of_pos (by simp), List.filter_cons_of_pos (by simp [hk])] at h1
  have h2 : List.Sublist [x, y] (ents P) := by
    refine List.Sublist.trans ?_ (List.filter_sublist (p := fun e => decide (ky e = ky x)))
    rw [← h1]
    refine List.Sublist.trans ?_ (List.sublist_append_right _ _)
    exact List.Sublist.cons_cons _ (List.Sublist.cons_cons _ (List.nil_sublist _))
  obtain ⟨Q, hQ, e⟩ := List.sublist_map_iff.1 h2
  match Q, e with
  | [p, q], e =>
    simp at e
    obtain ⟨rfl, rfl⟩ := e
    have h3 := h.inc.sublist hQ
    have hp : p ∈ P := hQ.subset (by simp)
    have hq : q ∈ P := hQ.subset (by simp)
    rw [List.pairwise_cons] at h3
    exact ⟨p.2, q.2, h.at_ hp, h.at_ hq, h3.1 q (by simp)⟩
/-- The head of the order, taken out. -/
theorem srtK_rem {ky : En → Int} {L : List En} {x : En} {r : List En} (hn : (L.map (·.id)).Nodup) (h : srtK ky L = x :: r) : r = srtK ky (remL (fun e => e.id == x.id) L) := by
  have hx : x ∈ L := (same_srtK L).mem (show x ∈ srtK ky L by rw [h]; simp)
  obtain ⟨P, S, rfl⟩ := List.append_of_mem hx
  have hP : ∀ e ∈ P, e.id ≠ x.id := fun e he heq => by
    rw [List.map_append, List.map_cons, List.nodup_append] at hn
    exact hn.2.2 e.id (List.mem_map_of_mem he) x.id (by simp) heq
  rw [remL_at (by simp) (fun e he => by simpa using hP e he)]
  have hs := sd_srtK (ky := ky) (P ++ x :: S)
  rw [h] at hs
  unfold Sd at hs
  rw [List.pairwise_cons] at hs
  refine srtK_of hs.2 fun k => ?_
  have h1 := same_srtK (ky := ky) (P ++ x :: S) k
  rw [h, List.filter_append, List.filter_cons, List.filter_cons] at h1
  rw [List.filter_append]
  by_cases hk : ky x = k
  · simp only [hk, decide_true, if_true] at h1
    cases hf : P.filter (fun e => decide (ky e = k)) with
    | nil => rw [hf] at h1; simpa using h1
    | cons a T =>
      rw [hf] at h1
      injection h1 with h2 _
      have ha : a ∈ P := by
        have : a ∈ P.filter (fun e => decide (ky e = k)) := by rw [hf]; simp
        exact (List.mem_filter.1 this).1
      exact absurd (by rw [← h2]) (hP a ha)
  · simpa [hk] using h1
theorem nodup_rem {L : List En} {p : En → Bool} (hn : (L.map (·.id)).Nodup) : ((remL p L).map (·.id)).Nodup := hn.sublist ((List.eraseP_sublist).map _)
theorem take_head {now age : Int} {L : List En} {x : En} {r : List En} (h : srtK (En.key now age) L = x :: r) : takeR now age 64 L [] = some x := by
  unfold takeR
  rw [h, List.find?_cons_of_pos (by simp [freeB, cntD])]
theorem put_del (a : Int) (d : ByteArray) : (look a (put a d [])).isSome = true ∧ del a (put a d []) = [] := by simp [put, look, del]
theorem key_ge {now age : Int} {x y : En} (h : En.key now age x ≤ En.key now age y) : y.rank now age ≤ x.rank now age := by unfold En.key at h; omega
end Go.Proofs.Ythpilbooolgkiaa
