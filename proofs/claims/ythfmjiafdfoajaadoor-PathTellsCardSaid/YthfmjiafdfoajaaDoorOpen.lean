/- A slice that came in, its elements of one cell each, opened as a list: what a law's walk is told of it. -/
import Derived.Test.YthfmjiafdfoajaaDoorBase
import Derived.Deep.Slices
import Derived.ProofKit
import Derived.SizedLaws
import Derived.Laws.OwnMore
import Derived.Deep.AppendLies
set_option linter.unusedVariables false
set_option linter.unusedSimpArgs false
namespace Go.Proofs.YthfmjiafdfoajaaDoor
open Go.RowKit Go.ChangeShapes Go.WideShapes

/-- The row of one-cell elements at A reads as l. -/
def Rd1 {α : Type} (f : α → Value) (w : World) (A : Option Addr) (l : List α) : Prop := ∀ i (h : i < l.length), ∃ ad, A = some ad ∧ w.cell? (ad.add i) = some (f (l[i]'h))

theorem Rd1.at_ {α : Type} {f : α → Value} {w : World} {ad : Addr} {l : List α} (h : Rd1 f w (some ad) l) (i : Nat) (hi : i < l.length) : w.cell? (ad.add i) = some (f (l[i]'hi)) := by
  obtain ⟨b, e, hc⟩ := h i hi
  cases e
  exact hc
theorem Rd1.upd {α : Type} {f : α → Value} {w w1 : World} {F : Nat → Prop} {A : Option Addr} {l : List α} (h : Rd1 f w A l) (k : Upd w w1 F) (hF : ∀ i, F i → w.heap.size ≤ i) : Rd1 f w1 A l := by
  intro i hi
  obtain ⟨ad, e, hc⟩ := h i hi
  refine ⟨ad, e, k.cell hc (fun hf => ?_)⟩
  have h1 := World.block_lt_of_cell? w _ hc
  have h2 := hF _ hf
  omega
theorem Rd1.below {α : Type} {f : α → Value} {w w1 : World} {A : Option Addr} {l : List α} (h : Rd1 f w A l) (k : Below w.heap.size w w1) : Rd1 f w1 A l := h.upd (Upd.of_below k Nope) (fun _ h => h.elim)
theorem Rd1.of_drew {α : Type} {f : α → Value} {w w1 : World} {A : Option Addr} {l : List α} (h : Rd1 f w A l) (k : Drew w w1) : Rd1 f w1 A l := h.upd (k.upd Nope) (fun _ h => h.elim)
theorem Rd1.drewN {α : Type} {f : α → Value} {w : World} {A : Option Addr} {l : List α} (h : Rd1 f w A l) (n : Nat) : Rd1 f (w.drewN n) A l := h
theorem Rd1.take {α : Type} {f : α → Value} {w : World} {A : Option Addr} {l : List α} (h : Rd1 f w A l) (k : Nat) : Rd1 f w A (l.take k) := by
  intro i hi
  have hi' : i < l.length := by rw [List.length_take] at hi; omega
  obtain ⟨ad, e, hc⟩ := h i hi'
  exact ⟨ad, e, by rw [hc]; simp⟩

/-- An append whose run is known, at the list of a plain region's operations, guarded or not. -/
theorem wpList_append_eq {P : Program} {w : World} {ops : Array Oper} {rest : List Oper} {o : Oper} {a : Act} {Q : Exit → Act → World → Prop} {v u v' : Value} {w' : World} {t ty : TypeId} (s x : Operand)
    (ho : o.op = .call { callee := .builtin .append, args := #[s, x], argTypes := #[t, t] }) (hty : o.type = ty)
    (hr : (Builtin.append_ #[t, t] ty #[v, u]).run P w = .ok v' w') (hw : Region.wanted o (yielded ops a.tmps) = true) (hs : a.eval s = v) (hx : a.eval x = u)
    (h : wpList P ops Q rest (a.put o.dst v') w') : wpList P ops Q (o :: rest) a w := by
  refine wpList_step fun K hK => ?_
  rw [if_pos hw]
  subst hty
  unfold Oper.wp execOp
  simp only [ho, resolve, invoke, builtin, Sem.run_bind, Sem.run_pure, Result.andThen_ok, List.map_toArray, List.map_cons, List.map_nil, hs, hx, hr]
  exact hK _ _ h
/-- 'append(v, l...)', v the call's own, l's row read as it lies (nil or not, empty or not): for elements of one cell. -/
theorem append_row {P : Program} {α : Type} {f : α → Value} (base : Nat) {t e : TypeId} (ty : TypeId) {i : TypeInfo} {z : Value} {bytes : Nat} (ht : P.underlying t = some (.slice e)) (hi : P.info? e = some i) (hz : i.zero = some z)
    (hsize : i.size = 1) (hby : i.bytes = bytes) (hzs : z.cells.size = 1) (hf : ∀ x, (f x).oneCell' = true) {w : World}
    {v : Value} {n : Nat} {xs : List α} (hown : w.ownsRow base e 1 v n (xs.map f)) {A : Option Addr} {c : Nat} {l : List α} (hr : Rd1 f w A l) (hn : A = none → c = 0)
    (h63 : n + l.length ≤ maxLen) (hbytes : (n + l.length) * bytes ≤ 140737488355328) (hbase : base ≤ w.heap.size) :
    ∃ v' w', (Builtin.append_ #[t, t] ty #[v, .slice A l.length c]).run P w = .ok v' w' ∧ w'.ownsRow base e 1 v' (n + l.length) ((xs ++ l).map f) ∧ w.grownBy w' v.ownBlock ∧ (v'.ownBlock = v.ownBlock ∨ v'.ownBlock = some w.heap.size) := by
  cases A with
  | none =>
    have hl : l = [] := by
      cases l with
      | nil => rfl
      | cons x l => obtain ⟨ad, h, _⟩ := hr 0 (by simp); cases h
    subst hl
    obtain rfl := hn rfl
    exact ⟨v, w, run_append_owned_none (P := P) (w := w) base t ty e i 1 ht hi v n _ hown, by simpa using hown, ⟨rfl, rfl, rfl, Nat.le_refl _, fun _ _ _ => rfl⟩, .inl rfl⟩
  | some ad =>
    obtain ⟨v', w', h1, h2, h3, _, h5⟩ := run_append_own_at (P := P) w base t ty e i z 1 bytes ht hi hz hsize hby hzs (by omega) v n (xs.map f) hown ad l.length c (l.map f) (by simp) (fun j u hj => by
      rw [List.getElem?_map] at hj
      by_cases hlt : j < l.length
      · rw [List.getElem?_eq_getElem hlt] at hj
        simp at hj
        rw [← hj]
        exact hr.at_ j hlt
      · rw [List.getElem?_eq_none (by omega)] at hj
        cases hj) (fun u hu => by obtain ⟨x, _, rfl⟩ := List.mem_map.1 hu; exact hf x) h63 hbytes hbase
    exact ⟨v', w', h1, by rw [List.map_append]; exact h2, h3, h5⟩
theorem rd1_of_owns {α : Type} {f : α → Value} {w : World} {base : Nat} {T : TypeId} {v : Value} {n : Nat} {l : List α} (h : w.ownsRow base T 1 v n (l.map f)) :
    ∃ A cap, v = .slice A n cap ∧ n = l.length ∧ Rd1 f w A l ∧ (A = none → cap = 0) ∧ n ≤ cap := by
  obtain ⟨hlen, h2⟩ := h
  rw [List.length_map, Nat.mul_one] at hlen
  rcases h2 with ⟨rfl, h0⟩ | ⟨g, cap, cur, rfl, hb, hg, hnc, hcm, hcs, htk⟩
  · exact ⟨none, 0, by rw [h0], hlen.symm, fun i hi => absurd hi (by omega), fun _ => rfl, by omega⟩
  · refine ⟨_, cap, rfl, hlen.symm, fun i hi => ⟨_, rfl, ?_⟩, (fun h => nomatch h), hnc⟩
    have e : (cur.toList.take (n * 1))[i]? = some (f l[i]) := by rw [htk]; simp [hi]
    rw [List.getElem?_take_of_lt (by omega)] at e
    rw [show (⟨g, 0, none⟩ : Addr).add i = ⟨g, i, none⟩ by simp [Addr.add]; exact fun h => h.symm, cell_of_row w g i cur T (0, 0) hg, ← e]
    simp
theorem rd1_blk {α : Type} {f : α → Value} {w : World} {g : Nat} {T : TypeId} {l : List α} {cs : Array Value} (h : Blk w g cs T) (hc : cs.toList = l.map f) : Rd1 f w (some ⟨g, 0, none⟩) l := by
  intro i hi
  refine ⟨_, rfl, ?_⟩
  rw [show (⟨g, 0, none⟩ : Addr).add i = ⟨g, i, none⟩ by simp [Addr.add]; exact fun h => h.symm, h.cell i]
  have : cs.toList[i]? = some (f l[i]) := by rw [hc]; simp [hi]
  simpa using this
/-- 'append([]T{}, l...)': a copy. -/
theorem copy_row {P : Program} {α : Type} {f : α → Value} {t e : TypeId} (ty : TypeId) {i : TypeInfo} {z : Value} {bytes : Nat} (ht : P.underlying t = some (.slice e)) (hi : P.info? e = some i) (hz : i.zero = some z)
    (hsize : i.size = 1) (hby : i.bytes = bytes) (hzs : z.cells.size = 1) (hf : ∀ x, (f x).oneCell' = true) {w : World}
    {A : Option Addr} {c : Nat} {l : List α} (hr : Rd1 f w A l) (hn : A = none → c = 0) (h63 : l.length ≤ maxLen) (hbytes : l.length * bytes ≤ 140737488355328) :
    ∃ B cap w', (Builtin.append_ #[t, t] ty #[.slice (some ⟨w.heap.size, 0, none⟩) 0 0, .slice A l.length c]).run P (w.alloc (.cells #[] e)) = .ok (.slice B l.length cap) w' ∧ w'.ownsRow w.heap.size e 1 (.slice B l.length cap) l.length (l.map f) ∧ Rd1 f w' B l ∧ (B = none → cap = 0) ∧ Upd w w' Nope := by
  have hown : (w.alloc (.cells #[] e)).ownsRow w.heap.size e 1 (.slice (some ⟨w.heap.size, 0, none⟩) 0 0) 0 (([] : List α).map f) :=
    ⟨by simp, .inr ⟨w.heap.size, 0, #[], rfl, Nat.le_refl _, heap_alloc_new w _, Nat.le_refl _, by simp [maxLen], by simp, by simp⟩⟩
  obtain ⟨v', w', h1, h2, h3, h4⟩ := append_row (P := P) (f := f) w.heap.size ty ht hi hz hsize hby hzs hf hown (hr.upd ((Upd.refl w Nope).alloc (.cells #[] e)) (fun _ h => h.elim)) hn (by omega) (by simpa using hbytes) (by simp)
  rw [Nat.zero_add, List.nil_append] at h2
  obtain ⟨B, cap, rfl, _, hb, hbn, _⟩ := rd1_of_owns h2
  exact ⟨B, cap, w', h1, h2, hb, hbn, ((Upd.refl w Nope).alloc _).grown h3 (fun k e => .inr (by simp [Value.ownBlock] at e; omega))⟩

section
variable {H : Type} {enc : TypeId × Value → H} {P : Program} {W : World}

theorem open_row1 {α : Type} (f : α → Value) (ok : α → Prop) {t e : TypeId} {a : Option Addr} {len cap : Nat} {d : DataW H} {ps : List MemPlace}
    (ht : P.underlying t = some (.slice e)) (hc : P.cellsOf e = 1)
    (hE : ∀ n v x, DataW.trod enc P W 0 (fun _ => true) true n e [v] = some x → ∃ y, v = f y ∧ ok y)
    (h : DataW.Trod enc P W 0 (fun _ => true) true t (.slice a len cap) d ps) :
    ∃ l : List α, l.length = len ∧ Rd1 f W a l ∧ len ≤ cap ∧ cap ≤ maxLen ∧ ∀ y ∈ l, ok y := by
  obtain ⟨fuel, hf⟩ := h
  rcases Deep.open_slice1 ht hc hf with ⟨hcs, _⟩ | ⟨x, l, c, m, n, V, D, Pl, hcs, _, hl, hm, hmm, _, hx⟩
  · simp [Value.cells] at hcs
    obtain ⟨rfl, rfl, rfl⟩ := hcs
    exact ⟨[], rfl, fun i hi => absurd hi (by simp), Nat.le_refl _, by simp [maxLen], by simp⟩
  · simp [Value.cells] at hcs
    obtain ⟨rfl, rfl, rfl⟩ := hcs
    have hlm : len ≤ m := by rw [hmm]; split <;> omega
    have hy : ∀ i, i < len → ∃ y, V i = f y ∧ ok y := fun i hi => hE n (V i) _ (hx i (by omega)).2
    obtain ⟨l, hll, hlv⟩ : ∃ l : List α, l.length = len ∧ ∀ i (h : i < l.length), V i = f (l[i]'h) ∧ ok (l[i]'h) := by
      clear hx hl hmm hlm hf
      rename_i hdp
      clear hdp
      induction len with
      | zero => exact ⟨[], rfl, fun i hi => absurd hi (by simp)⟩
      | succ k ih =>
        obtain ⟨l, hl, hv⟩ := ih (fun i hi => hy i (by omega))
        obtain ⟨y, hyk, hok⟩ := hy k (by omega)
        refine ⟨l ++ [y], by simp [hl], fun i hi => ?_⟩
        by_cases hik : i < l.length
        · rw [List.getElem_append_left hik]
          exact hv i hik
        · have e : i = k := by simp at hi; omega
          subst e
          rw [List.getElem_append_right (by omega)]
          simpa [hl] using ⟨hyk, hok⟩
    refine ⟨l, hll, fun i hi => ⟨x, rfl, ?_⟩, hl, hm, fun y hy => ?_⟩
    · rw [← (hlv i hi).1]
      exact (hx i (by omega)).1
    · obtain ⟨i, hi, rfl⟩ := List.mem_iff_getElem.1 hy
      exact (hlv i hi).2

theorem elem_int {k : IntKind} {e : TypeId} (he : P.underlying e = some (.int k)) (n : Nat) (v : Value) (x : DataW H × List MemPlace) (h : DataW.trod enc P W 0 (fun _ => true) true n e [v] = some x) :
    ∃ y : Int, v = .int k y ∧ (Lit.int k y).wf = true := by
  obtain ⟨y, hy, _, hw⟩ := DataW.trod_int he h
  exact ⟨y, by simpa using hy, hw⟩
theorem elem_bool {e : TypeId} (he : P.underlying e = some .bool) (n : Nat) (v : Value) (x : DataW H × List MemPlace) (h : DataW.trod enc P W 0 (fun _ => true) true n e [v] = some x) :
    ∃ y : Bool, v = .bool y ∧ True := by
  obtain ⟨y, hy, _⟩ := DataW.trod_bool he h
  exact ⟨y, by simpa using hy, trivial⟩
theorem elem_string {e : TypeId} (he : P.underlying e = some .string) (n : Nat) (v : Value) (x : DataW H × List MemPlace) (h : DataW.trod enc P W 0 (fun _ => true) true n e [v] = some x) :
    ∃ y : ByteArray, v = .string y ∧ y.size ≤ maxLen := by
  obtain ⟨y, hy, _, hw⟩ := DataW.trod_string he h
  exact ⟨y, by simpa using hy, hw⟩
theorem weightsAll_mem {e : TypeId} {d : DataW H} {m : Nat} (hm : m ∈ d.weights P e) : ∀ {l : List (DataW H)}, d ∈ l → m ∈ DataW.weightsAll P e l
  | x :: r, h => by
    rw [DataW.weightsAll]
    rcases List.mem_cons.1 h with rfl | h
    · exact List.mem_append_left _ hm
    · exact List.mem_append_right _ (weightsAll_mem hm h)
/-- .. the elements opened with what the size of the whole input says of each. -/
theorem open_row1w {α : Type} (f : α → Value) (ok : α → Prop) {t e : TypeId} {a : Option Addr} {len cap : Nat} {d : DataW H} {ps : List MemPlace}
    (ht : P.underlying t = some (.slice e)) (hc : P.cellsOf e = 1)
    (hE : ∀ n v x, DataW.trod enc P W 0 (fun _ => true) true n e [v] = some x → (∀ m ∈ x.1.weights P e, m ≤ reachBytes) → ∃ y, v = f y ∧ ok y)
    (h : DataW.Trod enc P W 0 (fun _ => true) true t (.slice a len cap) d ps) (hw : ∀ m ∈ d.weights P t, m ≤ reachBytes) :
    ∃ l : List α, l.length = len ∧ Rd1 f W a l ∧ len ≤ cap ∧ cap ≤ maxLen ∧ (∀ y ∈ l, ok y) ∧ (a = none → cap = 0) := by
  obtain ⟨fuel, hf⟩ := h
  rcases Deep.open_slice1 ht hc hf with ⟨hcs, _⟩ | ⟨x, l, c, m, n, V, D, Pl, hcs, _, hl, hm, hmm, hd, hx⟩
  · simp [Value.cells] at hcs
    obtain ⟨rfl, rfl, rfl⟩ := hcs
    exact ⟨[], rfl, fun i hi => absurd hi (by simp), Nat.le_refl _, by simp [maxLen], by simp, fun _ => rfl⟩
  · simp [Value.cells] at hcs
    obtain ⟨rfl, rfl, rfl⟩ := hcs
    have hlm : len ≤ m := by rw [hmm]; split <;> omega
    injection hd with hd _
    have hy : ∀ i, i < len → ∃ y, V i = f y ∧ ok y := fun i hi => hE n (V i) _ (hx i (by omega)).2 (fun q hq => hw q (by
      rw [hd, DataW.weights, ht]
      exact List.mem_cons_of_mem _ (List.mem_append_left _ (weightsAll_mem hq (List.mem_map_of_mem (List.mem_range.2 hi))))))
    obtain ⟨l, hll, hlv⟩ : ∃ l : List α, l.length = len ∧ ∀ i (h : i < l.length), V i = f (l[i]'h) ∧ ok (l[i]'h) := by
      clear hx hl hmm hlm hf hd
      induction len with
      | zero => exact ⟨[], rfl, fun i hi => absurd hi (by simp)⟩
      | succ k ih =>
        obtain ⟨l, hl, hv⟩ := ih (fun i hi => hy i (by omega))
        obtain ⟨y, hyk, hok⟩ := hy k (by omega)
        refine ⟨l ++ [y], by simp [hl], fun i hi => ?_⟩
        by_cases hik : i < l.length
        · rw [List.getElem_append_left hik]
          exact hv i hik
        · have e : i = k := by simp at hi; omega
          subst e
          rw [List.getElem_append_right (by omega)]
          simpa [hl] using ⟨hyk, hok⟩
    refine ⟨l, hll, fun i hi => ⟨x, rfl, ?_⟩, hl, hm, fun y hy => ?_, fun h => by cases h⟩
    · rw [← (hlv i hi).1]
      exact (hx i (by omega)).1
    · obtain ⟨i, hi, rfl⟩ := List.mem_iff_getElem.1 hy
      exact (hlv i hi).2
theorem elem_stringw {e : TypeId} (he : P.underlying e = some .string) (n : Nat) (v : Value) (x : DataW H × List MemPlace) (h : DataW.trod enc P W 0 (fun _ => true) true n e [v] = some x)
    (hw : ∀ m ∈ x.1.weights P e, m ≤ reachBytes) : ∃ y : ByteArray, v = .string y ∧ y.size ≤ 140737488351232 := by
  obtain ⟨y, hy, hx, _⟩ := DataW.trod_string he h
  rw [hx] at hw
  have z := hw y.data.toList.length (by simp [DataW.weights])
  rw [Array.length_toList] at z
  exact ⟨y, by simpa using hy, z⟩
theorem weights_arg {ts : List TypeId} {ds : List (DataW H)} (h : (DataW.weightsEach P ts ds).all (· ≤ reachBytes) = true) {j : Nat} {t : TypeId} {d : DataW H} (ht : ts[j]? = some t) (hd : ds[j]? = some d) : ∀ m ∈ d.weights P t, m ≤ reachBytes := by
  intro m hm
  have := List.all_eq_true.1 h _ (DataW.weights_mem_each ht hd m hm)
  simpa using this
end
theorem wf_i64 {x : Int} (h : (Lit.int .i64 x).wf = true) : -9223372036854775808 ≤ x ∧ x ≤ 9223372036854775807 := by
  simpa [Lit.wf, IntKind.min, IntKind.max, IntKind.signed, IntKind.bits] using h
theorem wf_u8 {x : Int} (h : (Lit.int .u8 x).wf = true) : 0 ≤ x ∧ x ≤ 255 := by
  simpa [Lit.wf, IntKind.min, IntKind.max, IntKind.signed, IntKind.bits] using h
theorem wf_u32 {x : Int} (h : (Lit.int .u32 x).wf = true) : 0 ≤ x ∧ x ≤ 4294967295 := by
  simpa [Lit.wf, IntKind.min, IntKind.max, IntKind.signed, IntKind.bits] using h
end Go.Proofs.YthfmjiafdfoajaaDoor
