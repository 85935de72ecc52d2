/- Maps told by the list of their entries, in the order in which they were laid: reads, writes, deletes, ranges. -/
import Derived.Test.YthpilbooolgkiaaBase
import Derived.Maps.RangeWalk
import Derived.Carry
set_option linter.unusedVariables false
set_option linter.unusedSimpArgs false
set_option linter.unusedSectionVars false
namespace Go.Proofs.Ythpilbooolgkiaa
open Go.RowKit Go.MapKept
open Go.ChangeMaps (setBlock heap_setBlock_same heap_setBlock_other)
open Go.Maps (Keyed)

section
variable {α β : Type} [DecidableEq α]
/-- What the list has at a key. -/
def look (a : α) : List (α × β) → Option β
  | [] => none
  | p :: r => if p.1 = a then some p.2 else look a r
def put (a : α) (c : β) : List (α × β) → List (α × β)
  | [] => [(a, c)]
  | p :: r => if p.1 = a then (a, c) :: r else p :: put a c r
def del (a : α) (l : List (α × β)) : List (α × β) := l.filter fun p => decide (p.1 ≠ a)
theorem look_none {a : α} {l : List (α × β)} : look a l = none ↔ ∀ p ∈ l, p.1 ≠ a := by
  induction l with
  | nil => simp [look]
  | cons p r ih =>
    simp only [look, List.mem_cons, forall_eq_or_imp]
    split
    · rename_i h; simp [h]
    · rename_i h; rw [ih]; exact ⟨fun h' => ⟨h, h'⟩, fun h' => h'.2⟩
theorem look_mem {a : α} {c : β} {l : List (α × β)} (h : look a l = some c) : (a, c) ∈ l := by
  induction l with
  | nil => simp [look] at h
  | cons p r ih =>
    simp only [look] at h
    split at h
    · rename_i e; cases h; subst e; simp
    · exact List.mem_cons_of_mem _ (ih h)
theorem put_new {a : α} {c : β} {l : List (α × β)} (h : ∀ p ∈ l, p.1 ≠ a) : put a c l = l ++ [(a, c)] := by
  induction l with
  | nil => rfl
  | cons p r ih =>
    simp only [put, List.cons_append]
    rw [if_neg (h p (by simp)), ih (fun q hq => h q (by simp [hq]))]
theorem del_new {a : α} {l : List (α × β)} (h : ∀ p ∈ l, p.1 ≠ a) : del a l = l := List.filter_eq_self.2 (fun p hp => by simpa using h p hp)
theorem at_there {a : α} {c : β} {l : List (α × β)} (hd : l.Pairwise (fun p q => p.1 ≠ q.1)) {j : Nat} (h : l[j]? = some (a, c)) :
    look a l = some c ∧ (∀ d, put a d l = l.set j (a, d)) ∧ del a l = l.eraseIdx j := by
  induction l generalizing j with
  | nil => simp at h
  | cons p r ih =>
    obtain ⟨h1, h2⟩ := List.pairwise_cons.1 hd
    cases j with
    | zero =>
      simp at h
      subst h
      refine ⟨by simp [look], fun d => by simp [put], ?_⟩
      have : del a r = r := del_new (fun q hq => (h1 q hq).symm)
      unfold del at this ⊢
      rw [List.filter_cons, if_neg (by simp), this]
      rfl
    | succ j =>
      have h' : r[j]? = some (a, c) := by simpa using h
      have hm : (a, c) ∈ r := List.mem_of_getElem? h'
      have hne : p.1 ≠ a := h1 _ hm
      obtain ⟨i1, i2, i3⟩ := ih h2 h'
      refine ⟨by simp [look, hne, i1], fun d => by simp [put, hne, i2], ?_⟩
      unfold del at i3 ⊢
      rw [List.filter_cons, if_pos (by simpa using hne), i3]
      rfl
theorem look_put_same (a : α) (c : β) (l : List (α × β)) : look a (put a c l) = some c := by
  induction l with
  | nil => simp [put, look]
  | cons p r ih => unfold put; split <;> simp [look, *]
theorem look_put_other {a a' : α} (h : a' ≠ a) (c : β) (l : List (α × β)) : look a' (put a c l) = look a' l := by
  induction l with
  | nil => simp [put, look, h.symm]
  | cons p r ih =>
    unfold put
    split
    · rename_i e
      simp only [look]
      rw [if_neg h.symm, if_neg (by rw [e]; exact h.symm)]
    · simp only [look, ih]
theorem look_put (a a' : α) (c : β) (l : List (α × β)) : look a' (put a c l) = if a' = a then some c else look a' l := by
  split
  · rename_i h; rw [h]; exact look_put_same ..
  · rename_i h; exact look_put_other h ..
theorem look_del_same (a : α) (l : List (α × β)) : look a (del a l) = none := look_none.2 (fun p hp => by simpa [del] using (List.mem_filter.1 hp).2)
theorem look_del_other {a a' : α} (h : a' ≠ a) (l : List (α × β)) : look a' (del a l) = look a' l := by
  induction l with
  | nil => rfl
  | cons p r ih =>
    simp only [del, List.filter_cons] at ih ⊢
    by_cases hp : p.1 = a
    · simp only [hp, ne_eq, not_true, decide_false, Bool.false_eq_true, if_false]
      rw [ih]
      simp only [look]
      rw [if_neg (by rw [hp]; exact h.symm)]
    · simp only [hp, ne_eq, not_false_eq_true, decide_true, if_true, look]
      rw [ih]
theorem look_del (a a' : α) (l : List (α × β)) : look a' (del a l) = if a' = a then none else look a' l := by
  split
  · rename_i h; rw [h]; exact look_del_same ..
  · rename_i h; exact look_del_other h ..
theorem mem_put {a : α} {c : β} {l : List (α × β)} {p : α × β} (h : p ∈ put a c l) : p = (a, c) ∨ (p ∈ l ∧ p.1 ≠ a) ∨ p ∈ l := by
  induction l with
  | nil => simp [put] at h; exact .inl h
  | cons q r ih =>
    unfold put at h
    split at h
    · rcases List.mem_cons.1 h with h | h
      · exact .inl h
      · exact .inr (.inr (List.mem_cons_of_mem _ h))
    · rcases List.mem_cons.1 h with h | h
      · exact .inr (.inr (by simp [h]))
      · rcases ih h with h | h | h
        · exact .inl h
        · exact .inr (.inr (List.mem_cons_of_mem _ h.1))
        · exact .inr (.inr (List.mem_cons_of_mem _ h))
theorem put_keys {a : α} {c : β} {l : List (α × β)} (h : look a l ≠ none) : (put a c l).map (·.1) = l.map (·.1) := by
  induction l with
  | nil => simp [look] at h
  | cons q r ih =>
    simp only [look, put] at h ⊢
    split
    · rename_i e; simp [e]
    · rename_i e
      rw [if_neg e] at h
      simp [ih h]
theorem put_len {a : α} {c : β} (l : List (α × β)) : (put a c l).length = l.length + (if look a l = none then 1 else 0) := by
  induction l with
  | nil => simp [put, look]
  | cons q r ih =>
    simp only [look, put]
    split
    · simp
    · simp [ih]; omega
theorem del_len {a : α} {l : List (α × β)} (hd : l.Pairwise (fun p q => p.1 ≠ q.1)) : (del a l).length + (if look a l = none then 0 else 1) = l.length := by
  cases hl : look a l with
  | none => rw [del_new (look_none.1 hl)]; simp
  | some c =>
    obtain ⟨j, hj⟩ := List.getElem?_of_mem (look_mem hl)
    have hlt := (List.getElem?_eq_some_iff.1 hj).1
    rw [(at_there hd hj).2.2, List.length_eraseIdx]
    simp [hlt]
    omega
end

/-- How the keys and the elements of a map's type stand in it. -/
structure MK (P : Program) (k : TypeId) (α β : Type) where
  kv : α → Value
  ok : α → Prop
  vv : β → Value
  K : Keyed P k
  key : ∀ a, ok a → ∃ l, keyOf P k (kv a) = some l
  inj : ∀ a b, kv a = kv b → a = b
  vinj : ∀ a b, vv a = vv b → a = b
  tT : TypeId
  eT : TypeId
  under : P.underlying tT = some (.map k eT)
  zero : β
  zrun : ∀ w, (zeroValue eT).run P w = .ok (vv zero) w

section
variable {P : Program} {k : TypeId} {α β : Type} [DecidableEq α]

/-- Block b is a map of the entries L. -/
structure Mp (M : MK P k α β) (w : World) (b : Nat) (L : List (α × β)) : Prop where mk ::
  (out : ∃ es clock, w.heap[b]? = some (.map es clock) ∧ es.toList.map (fun x => (x.key, x.val)) = L.map (fun p => (M.kv p.1, M.vv p.2)) ∧ Stamped es clock ∧ ∀ p ∈ L, M.ok p.1)

variable {M : MK P k α β} {w w' : World} {b r : Nat} {L rest : List (α × β)}

theorem Mp.lt (h : Mp M w b L) : b < w.heap.size := by
  obtain ⟨es, clock, hb, _⟩ := h.out
  exact (Array.getElem?_eq_some_iff.1 hb).1
theorem Mp.upd {F : Nat → Prop} (h : Mp M w b L) (u : Upd w w' F) (hn : ¬ F b) : Mp M w' b L := by
  obtain ⟨es, clock, hb, r⟩ := h.out
  exact ⟨es, clock, u.blk hb hn, r⟩
theorem Mp.set (h : Mp M w b L) {a : Addr} (ha : b ≠ a.block) (u : Value) : Mp M (w.setCell a u) b L := by
  obtain ⟨es, clock, hb, r⟩ := h.out
  exact ⟨es, clock, (Below.heap_setCell _ _ _ _ ha).trans hb, r⟩
theorem Mp.alloc (h : Mp M w b L) (o : Obj) : Mp M (w.alloc o) b L := h.upd ((Upd.refl w Nope).alloc o) id
theorem Mp.new (M : MK P k α β) (w : World) : Mp M (w.alloc (.map #[] 0)) w.heap.size [] := ⟨#[], 0, (MapKept.heap_alloc w _).1, rfl, stamped_empty 0, by simp⟩
theorem Mp.ne_blk (h : Mp M w b L) {g : Nat} {cs : Array Value} {t : TypeId} (hg : Blk w g cs t) : b ≠ g := by
  obtain ⟨es, clock, hb, _⟩ := h.out
  rintro rfl
  unfold Blk at hg
  rw [hb] at hg
  cases hg

theorem nth_of {es : List MapEntry} (he : es.map (fun x => (x.key, x.val)) = L.map (fun p => (M.kv p.1, M.vv p.2))) {j : Nat} {e : MapEntry} (hj : es[j]? = some e) :
    ∃ p, L[j]? = some p ∧ e.key = M.kv p.1 ∧ e.val = M.vv p.2 := by
  have := congrArg (fun l => l[j]?) he
  simp only [List.getElem?_map, hj, Option.map_some] at this
  cases hp : L[j]? with
  | none => rw [hp] at this; simp at this
  | some p =>
    rw [hp] at this
    simp at this
    exact ⟨p, rfl, this.1, this.2⟩
theorem nth_to {es : List MapEntry} (he : es.map (fun x => (x.key, x.val)) = L.map (fun p => (M.kv p.1, M.vv p.2))) {j : Nat} {p : α × β} (hj : L[j]? = some p) :
    ∃ e, es[j]? = some e ∧ e.key = M.kv p.1 ∧ e.val = M.vv p.2 := by
  have := congrArg (fun l => l[j]?) he
  simp only [List.getElem?_map, hj, Option.map_some] at this
  cases hp : es[j]? with
  | none => rw [hp] at this; simp at this
  | some e =>
    rw [hp] at this
    simp at this
    exact ⟨e, rfl, this.1, this.2⟩
theorem pair_of {es : List MapEntry} (he : es.map (fun x => (x.key, x.val)) = L.map (fun p => (M.kv p.1, M.vv p.2))) (hs : es.Pairwise (fun x y => x.key ≠ y.key)) : L.Pairwise (fun p q => p.1 ≠ q.1) := by
  rw [List.pairwise_iff_getElem] at hs ⊢
  intro i j hi hj hij e
  have hlen := congrArg List.length he
  simp at hlen
  obtain ⟨p, hp, k1, _⟩ := nth_of he (j := i) (e := es[i]'(by omega)) (by simp)
  obtain ⟨q, hq, k2, _⟩ := nth_of he (j := j) (e := es[j]'(by omega)) (by simp)
  rw [List.getElem?_eq_getElem hi] at hp
  rw [List.getElem?_eq_getElem hj] at hq
  cases hp
  cases hq
  exact hs i j (by omega) (by omega) hij (by rw [k1, k2, e])
theorem Mp.apart (h : Mp M w b L) : L.Pairwise (fun p q => p.1 ≠ q.1) := by
  obtain ⟨es, clock, hb, he, hs, _⟩ := h.out
  exact pair_of he ((stamped_iff es clock).1 hs).2.2
theorem Mp.ok (h : Mp M w b L) : ∀ p ∈ L, M.ok p.1 := by
  obtain ⟨es, clock, hb, he, hs, ho⟩ := h.out
  exact ho
/-- Where a key is found. -/
theorem found {es : Array MapEntry} (he : es.toList.map (fun x => (x.key, x.val)) = L.map (fun p => (M.kv p.1, M.vv p.2))) (ho : ∀ p ∈ L, M.ok p.1) (a : α) (ha : M.ok a) (w : World) :
    ∃ l, keyOf P k (M.kv a) = some l ∧ (((Instr.findKey k (M.kv a) es.toList).run P w = .ok none w ∧ (∀ e ∈ es.toList, e.key ≠ M.kv a) ∧ ∀ p ∈ L, p.1 ≠ a) ∨
      ∃ j e c, (Instr.findKey k (M.kv a) es.toList).run P w = .ok (some (j, e.val)) w ∧ es.toList[j]? = some e ∧ e.key = M.kv a ∧ e.val = M.vv c ∧ L[j]? = some (a, c)) := by
  obtain ⟨l, hl⟩ := M.key a ha
  refine ⟨l, hl, ?_⟩
  rcases M.K.find w hl es.toList (fun e hem => by
      obtain ⟨j, hj⟩ := List.getElem?_of_mem hem
      obtain ⟨p, hp, h1, _⟩ := nth_of he hj
      rw [h1]
      exact M.key _ (ho p (List.mem_of_getElem? hp))) with ⟨f1, f2⟩ | ⟨j, e, f1, f2, f3⟩
  · refine .inl ⟨f1, f2, fun p hp e => ?_⟩
    obtain ⟨j, hj⟩ := List.getElem?_of_mem hp
    obtain ⟨e', he', h1, _⟩ := nth_to he hj
    exact f2 e' (List.mem_of_getElem? he') (by rw [h1, e])
  · obtain ⟨p, hp, h1, h2⟩ := nth_of he f2
    have hpa : p.1 = a := M.inj _ _ (h1.symm.trans f3)
    exact .inr ⟨j, e, p.2, f1, f2, f3, h2, by rw [hp, ← hpa]⟩
theorem Mp.lookup (h : Mp M w b L) (c : Bool) (a : α) (ha : M.ok a) : (Instr.lookup M.tT (.map (some b)) (M.kv a) c).run P w = .ok (if c then .tuple #[M.vv ((look a L).getD M.zero), .bool (look a L).isSome] else M.vv ((look a L).getD M.zero)) w := by
  have hd := h.apart
  obtain ⟨es, clock, hb, he, hs, ho⟩ := h.out
  obtain ⟨l, hl, ⟨f1, f2, f3⟩ | ⟨j, e, v, f1, f2, f3, f4, f5⟩⟩ := found he ho a ha w
  · rw [look_none.2 f3]
    simp [Instr.lookup, run_underlying M.under, MapKept.run_getObj_map hb, M.K.check w _ hl, f1, M.zrun, Result.andThen]
  · rw [(at_there hd f5).1]
    simp [Instr.lookup, run_underlying M.under, MapKept.run_getObj_map hb, M.K.check w _ hl, f1, f4, Result.andThen]
theorem upd_setBlock {es : Array MapEntry} {clock : Nat} (hb : w.heap[b]? = some (.map es clock)) (o : Obj) : Upd w (setBlock w b o) (· = b) :=
  ⟨rfl, rfl, rfl, by simp [setBlock], fun i _ hi => heap_setBlock_other hb _ hi⟩
theorem Mp.update (h : Mp M w b L) (a : α) (c : β) (ha : M.ok a) :
    ∃ w', (Instr.mapUpdate M.tT (.map (some b)) (M.kv a) (M.vv c)).run P w = .ok () w' ∧ Mp M w' b (put a c L) ∧ Upd w w' (· = b) ∧ w'.heap.size = w.heap.size := by
  have hd := h.apart
  obtain ⟨es, clock, hb, he, hs, ho⟩ := h.out
  have hok : ∀ p ∈ put a c L, M.ok p.1 := fun p hp => by
    rcases mem_put hp with rfl | h | h
    · exact ha
    · exact ho p h.1
    · exact ho p h
  obtain ⟨l, hl, ⟨f1, f2, f3⟩ | ⟨j, e, v, f1, f2, f3, f4, f5⟩⟩ := found he ho a ha w
  · refine ⟨setBlock w b (.map (es.push ⟨M.kv a, M.vv c, clock⟩) (clock + 1)), ?_, ⟨_, _, heap_setBlock_same hb _, ?_, stamped_push hs f2, hok⟩, upd_setBlock hb _, by simp [setBlock]⟩
    · simp [Instr.mapUpdate, run_underlying M.under, MapKept.run_getObj_map hb, M.K.check w false hl, f1, MapKept.run_setObj_map _ hb, Result.andThen, setBlock]
    · rw [put_new f3, Array.toList_push, List.map_append, List.map_append, he]
      rfl
  · have hj : es[j]? = some e := by simpa using f2
    refine ⟨setBlock w b (.map (es.modify j (fun e' => { e' with key := M.kv a, val := M.vv c })) clock), ?_, ⟨_, _, heap_setBlock_same hb _, ?_, stamped_modify hs _ _ (fun _ _ => rfl) (fun e' _ he' => ?_), hok⟩, upd_setBlock hb _, by simp [setBlock]⟩
    · simp [Instr.mapUpdate, run_underlying M.under, MapKept.run_getObj_map hb, M.K.check w false hl, f1, hj, f3, M.K.stays w hl, MapKept.run_setObj_map _ hb, Result.andThen, setBlock]
    · rw [(at_there hd f5).2.1, Array.toList_modify, Go.ChangeMaps.modify_eq_set _ _ _ _ f2, List.map_set, he, List.map_set]
    · rw [hj] at he'
      cases he'
      exact f3.symm
theorem Mp.drop (h : Mp M w b L) (a : α) (ha : M.ok a) (ty : TypeId) :
    ∃ w', (Builtin.delete_ #[M.tT, k] ty #[.map (some b), M.kv a]).run P w = .ok (.tuple #[]) w' ∧ Mp M w' b (del a L) ∧ Upd w w' (· = b) ∧ w'.heap.size = w.heap.size := by
  have hd := h.apart
  obtain ⟨es, clock, hb, he, hs, ho⟩ := h.out
  have hok : ∀ p ∈ del a L, M.ok p.1 := fun p hp => ho p (List.mem_filter.1 hp).1
  obtain ⟨l, hl, ⟨f1, f2, f3⟩ | ⟨j, e, v, f1, f2, f3, f4, f5⟩⟩ := found he ho a ha w
  · refine ⟨setBlock w b (.map es clock), ?_, ⟨_, _, heap_setBlock_same hb _, by rw [del_new f3]; exact he, hs, hok⟩, upd_setBlock hb _, by simp [setBlock]⟩
    simp [Builtin.delete_, run_underlying M.under, MapKept.run_getObj_map hb, M.K.check w _ hl, f1, MapKept.run_setObj_map _ hb, Result.andThen, setBlock]
  · have hjl : j < es.toList.length := (List.getElem?_eq_some_iff.1 f2).1
    have hjs : j < es.size := by simpa using hjl
    have hsub : (es.eraseIdxIfInBounds j).toList = es.toList.eraseIdx j := by
      unfold Array.eraseIdxIfInBounds
      rw [dif_pos hjs]
      simp
    refine ⟨setBlock w b (.map (es.eraseIdxIfInBounds j) clock), ?_, ⟨_, _, heap_setBlock_same hb _, ?_, stamped_erase hs j, hok⟩, upd_setBlock hb _, by simp [setBlock]⟩
    · simp [Builtin.delete_, run_underlying M.under, MapKept.run_getObj_map hb, M.K.check w _ hl, f1, MapKept.run_setObj_map _ hb, Result.andThen, setBlock]
    · rw [(at_there hd f5).2.2, hsub, Go.ChangeMaps.map_eraseIdx, he, Go.ChangeMaps.map_eraseIdx]
theorem Mp.len (h : Mp M w b L) (ty : TypeId) : (Builtin.len_ #[M.tT] ty #[.map (some b)]).run P w = .ok (.int .i64 (L.length : Int)) w := by
  obtain ⟨es, clock, hb, he, hs, ho⟩ := h.out
  have : es.size = L.length := by simpa using congrArg List.length he
  rw [← this]
  simp [Builtin.len_, run_underlying M.under, MapKept.run_getObj_map hb, goInt, Result.andThen]

/-- A range over the map under way: what is still to come. -/
structure Rng (M : MK P k α β) (w : World) (b r : Nat) (L rest : List (α × β)) : Prop where mk ::
  (out : ∃ es clock since seen c0, w.heap[b]? = some (.map es clock) ∧ es.toList.map (fun x => (x.key, x.val)) = L.map (fun p => (M.kv p.1, M.vv p.2)) ∧ Stamped es clock ∧ (∀ p ∈ L, M.ok p.1) ∧
    w.heap[r]? = some (.mapIter (some b) since seen c0) ∧ (∀ x ∈ es.toList, x.born < since) ∧ (leftOf es seen).toList.map (fun x => (x.key, x.val)) = rest.map (fun p => (M.kv p.1, M.vv p.2)) ∧ since ≤ c0 ∧ since ≤ clock)
theorem Rng.mp (h : Rng M w b r L rest) : Mp M w b L := by
  obtain ⟨es, clock, since, seen, c0, hb, he, hs, ho, _⟩ := h.out
  exact ⟨es, clock, hb, he, hs, ho⟩
theorem Rng.lt (h : Rng M w b r L rest) : r < w.heap.size := by
  obtain ⟨es, clock, since, seen, c0, hb, he, hs, ho, hr, _⟩ := h.out
  exact (Array.getElem?_eq_some_iff.1 hr).1
theorem Rng.ne (h : Rng M w b r L rest) : r ≠ b := by
  obtain ⟨es, clock, since, seen, c0, hb, he, hs, ho, hr, _⟩ := h.out
  rintro rfl
  rw [hb] at hr
  cases hr
theorem Rng.upd {F : Nat → Prop} (h : Rng M w b r L rest) (u : Upd w w' F) (hb : ¬ F b) (hr : ¬ F r) : Rng M w' b r L rest := by
  obtain ⟨es, clock, since, seen, c0, h1, he, hs, ho, h2, rest⟩ := h.out
  exact ⟨es, clock, since, seen, c0, u.blk h1 hb, he, hs, ho, u.blk h2 hr, rest⟩
theorem Rng.left_eq (h : Rng M w b r L rest) : w.rangeLeft b r = rest.length := by
  obtain ⟨es, clock, since, seen, c0, hb, he, hs, ho, hr, _, hl, _⟩ := h.out
  have := congrArg List.length hl
  simp only [World.rangeLeft, hb, hr]
  simpa using this
theorem Mp.range (h : Mp M w b L) : ∃ w', (Instr.range M.tT (.map (some b))).run P w = .ok (.pointer (some ⟨w.heap.size, 0, none⟩)) w' ∧ Rng M w' b w.heap.size L L ∧ Upd w w' Nope ∧ w'.heap.size = w.heap.size + 1 := by
  have hlt := h.lt
  obtain ⟨es, clock, hb, he, hs, ho⟩ := h.out
  refine ⟨_, run_range_map w M.tT k M.eT b es clock M.under hb, ⟨es, clock, clock, #[], clock, ((MapKept.heap_alloc w _).2 b hlt).trans hb, he, hs, ho, (MapKept.heap_alloc w _).1, hs.1, ?_, Nat.le_refl _, Nat.le_refl _⟩, (Upd.refl w Nope).alloc _, by simp⟩
  have e1 : (leftOf es #[]) = es := by unfold leftOf; exact Array.filter_eq_self.2 (fun x _ => by simp)
  rw [e1]
  exact he
theorem left_push {es : Array MapEntry} {seen : Array Nat} {e : MapEntry} {A B : List MapEntry} (hn : (es.toList.map (·.born)).Nodup) (hl : (leftOf es seen).toList = A ++ e :: B) : (leftOf es (seen.push e.born)).toList = A ++ B := by
  have h1 : (leftOf es (seen.push e.born)).toList = (leftOf es seen).toList.filter (fun x => x.born != e.born) := by
    unfold leftOf
    rw [Array.toList_filter, Array.toList_filter, List.filter_filter]
    refine List.filter_congr (fun x _ => ?_)
    rw [contains_push]
    cases seen.contains x.born <;> cases hx : (x.born == e.born) <;> simp [bne, hx]
  have hn' : ((leftOf es seen).toList.map (·.born)).Nodup := by
    unfold leftOf
    rw [Array.toList_filter]
    exact hn.sublist (List.Sublist.map _ List.filter_sublist)
  rw [h1, hl, List.filter_append, List.filter_cons]
  rw [hl, List.map_append, List.map_cons, List.nodup_append] at hn'
  obtain ⟨n1, n2, n3⟩ := hn'
  rw [List.nodup_cons] at n2
  have hA : A.filter (fun x => x.born != e.born) = A := List.filter_eq_self.2 (fun x hx => by
    have := n3 x.born (List.mem_map_of_mem hx) e.born (by simp)
    simpa using this)
  have hB : B.filter (fun x => x.born != e.born) = B := List.filter_eq_self.2 (fun x hx => by
    have : x.born ≠ e.born := fun e1 => n2.1 (e1 ▸ List.mem_map_of_mem hx)
    simpa using this)
  rw [hA, hB]
  simp
theorem Rng.next (h : Rng M w b r L rest) (ty : TypeId) :
    (rest = [] ∧ (Instr.next (.pointer (some ⟨r, 0, none⟩)) false ty).run P w = .ok (.tuple #[.bool false]) w) ∨
    ∃ l1 p l2 w', rest = l1 ++ p :: l2 ∧ (Instr.next (.pointer (some ⟨r, 0, none⟩)) false ty).run P w = .ok (.tuple #[.bool true, M.kv p.1, M.vv p.2]) w' ∧ Rng M w' b r L (l1 ++ l2) ∧ p ∈ L ∧ (∀ q ∈ l1 ++ l2, q.1 ≠ p.1) ∧ Upd w w' (· = r) ∧ w'.heap.size = w.heap.size ∧
      (Instr.entry (.pointer (some ⟨r, 0, none⟩))).run P w' = .ok (.tuple #[M.kv p.1, M.vv p.2]) w' := by
  have hne := h.ne
  have hd := h.mp.apart
  obtain ⟨es, clock, since, seen, c0, hb, he, hs, ho, hr, hold, hl, hsc, hsk⟩ := h.out
  have hn := ((stamped_iff es clock).1 hs).2.1
  rcases run_next_at (P := P) w ty r b since c0 seen es clock hr hb hold hsc with ⟨h0, hrun⟩ | ⟨e, hem, w1, hal, hrun⟩
  · refine .inl ⟨?_, hrun⟩
    have := congrArg List.length hl
    simp [h0] at this
    exact List.eq_nil_of_length_eq_zero this.symm
  · obtain ⟨A, B, hAB⟩ := List.append_of_mem hem
    obtain ⟨hee, hes⟩ := mem_left hem
    have hr1 : w1.heap[r]? = some (.mapIter (some b) since seen c0) := by rcases hal with rfl | rfl <;> exact hr
    have hb1 : w1.heap[b]? = some (.map es clock) := by rcases hal with rfl | rfl <;> exact hb
    have hset := heap_set (o' := .mapIter (some b) since (seen.push e.born) clock) hr1
    have hb' : (setBlock w1 r (.mapIter (some b) since (seen.push e.born) clock)).heap[b]? = some (.map es clock) := (hset.2 b (fun e1 => hne e1.symm)).trans hb1
    rw [hAB, List.map_append, List.map_cons] at hl
    have hl0 := hl
    obtain ⟨l1, l2', hr2, ha1, ha2⟩ := List.map_eq_append_iff.1 hl.symm
    obtain ⟨p, l2, rfl, hp, hp2⟩ := List.map_eq_cons_iff.1 ha2
    have hk : e.key = M.kv p.1 := by simpa using (congrArg Prod.fst hp).symm
    have hv : e.val = M.vv p.2 := by simpa using (congrArg Prod.snd hp).symm
    have hlp := left_push hn hAB
    have hpl : p ∈ L := by
      obtain ⟨j, hj⟩ := List.getElem?_of_mem hee
      obtain ⟨q, hq, k1, k2⟩ := nth_of he hj
      have e1 := M.inj _ _ (k1.symm.trans hk)
      have e2 := M.vinj _ _ (k2.symm.trans hv)
      have e3 : q = p := by cases q; cases p; simp_all
      exact e3 ▸ List.mem_of_getElem? hq
    have hrp : rest.Pairwise (fun p q => p.1 ≠ q.1) := pair_of (M := M) (es := (leftOf es seen).toList) (by rw [hAB, List.map_append, List.map_cons]; exact hl0) (by
      unfold leftOf
      rw [Array.toList_filter]
      exact ((stamped_iff es clock).1 hs).2.2.sublist List.filter_sublist)
    refine .inr ⟨l1, p, l2, _, hr2, by rw [← hk, ← hv]; exact hrun, ⟨es, clock, since, seen.push e.born, clock, hb', he, hs, ho, hset.1, hold, ?_, hsk, hsk⟩, hpl, ?_, ?_, ?_, ?_⟩
    · rw [hlp, List.map_append, List.map_append, ha1, hp2]
    · rw [hr2, List.pairwise_append] at hrp
      obtain ⟨q1, q2, q3⟩ := hrp
      obtain ⟨q4, _⟩ := List.pairwise_cons.1 q2
      intro q hq
      rcases List.mem_append.1 hq with hq | hq
      · exact q3 q hq p (by simp)
      · exact (q4 q hq).symm
    · rcases hal with rfl | rfl <;> exact ⟨rfl, rfl, rfl, by simp [setBlock], fun i _ hi => hset.2 i hi⟩
    · rcases hal with rfl | rfl <;> simp [setBlock]
    · rw [← hk, ← hv]
      exact run_entry_at _ r b since seen es clock e hset.1 hb' hee hn
/-- A store at a key that is there and will not come any more. -/
theorem Rng.store (h : Rng M w b r L rest) (a : α) (c : β) (ha : look a L ≠ none) (hr' : ∀ q ∈ rest, q.1 ≠ a) :
    ∃ w', (Instr.mapUpdate M.tT (.map (some b)) (M.kv a) (M.vv c)).run P w = .ok () w' ∧ Rng M w' b r (put a c L) rest ∧ Upd w w' (· = b) ∧ w'.heap.size = w.heap.size := by
  have hne := h.ne
  have hd := h.mp.apart
  obtain ⟨es, clock, since, seen, c0, hb, he, hs, ho, hr, hold, hl, hsc, hsk⟩ := h.out
  cases hla : look a L with
  | none => exact absurd hla ha
  | some c1 =>
  have hoka : M.ok a := ho _ (look_mem hla)
  have hok : ∀ p ∈ put a c L, M.ok p.1 := fun p hp => by
    rcases mem_put hp with rfl | h | h
    · exact hoka
    · exact ho p h.1
    · exact ho p h
  obtain ⟨l, hl', ⟨f1, f2, f3⟩ | ⟨j, e, v, f1, f2, f3, f4, f5⟩⟩ := found he ho a hoka w
  · exact absurd (look_none.2 f3) ha
  · have hj : es[j]? = some e := by simpa using f2
    have hem : e ∈ es.toList := List.mem_of_getElem? f2
    have hseen : seen.contains e.born = true := by
      cases hc : seen.contains e.born with
      | true => rfl
      | false =>
        exfalso
        have hml : e ∈ (leftOf es seen).toList := by
          unfold leftOf
          rw [Array.toList_filter]
          exact List.mem_filter.2 ⟨hem, by rw [hc]; rfl⟩
        obtain ⟨i, hi⟩ := List.getElem?_of_mem hml
        obtain ⟨q, hq, k1, _⟩ := nth_of hl hi
        exact hr' q (List.mem_of_getElem? hq) (M.inj _ _ (k1.symm.trans f3))
    have hlist : (es.modify j (fun e' => { e' with key := M.kv a, val := M.vv c })).toList = es.toList.set j { e with key := M.kv a, val := M.vv c } := by rw [Array.toList_modify, Go.ChangeMaps.modify_eq_set _ _ _ _ f2]
    have hjl : j < es.toList.length := (List.getElem?_eq_some_iff.1 f2).1
    have hef : es.toList[j] = e := by
      have := List.getElem?_eq_getElem hjl
      rw [f2] at this
      exact (Option.some.inj this).symm
    have hleft : (leftOf (es.modify j (fun e' => { e' with key := M.kv a, val := M.vv c })) seen).toList = (leftOf es seen).toList := by
      unfold leftOf
      rw [Array.toList_filter, Array.toList_filter, hlist, List.set_eq_take_append_cons_drop, if_pos hjl, List.filter_append, List.filter_cons]
      conv => rhs; rw [← List.take_append_drop j es.toList, List.filter_append, List.drop_eq_getElem_cons hjl, List.filter_cons]
      have hs' : (!seen.contains e.born) = false := by rw [hseen]; rfl
      rw [hef]
      simp only [hs', Bool.false_eq_true, if_false]
    refine ⟨setBlock w b (.map (es.modify j (fun e' => { e' with key := M.kv a, val := M.vv c })) clock), ?_, ⟨_, _, since, seen, c0, heap_setBlock_same hb _, ?_, stamped_modify hs _ _ (fun _ _ => rfl) (fun e' _ he' => ?_), hok, (heap_setBlock_other hb _ hne).trans hr, ?_, by rw [hleft]; exact hl, hsc, hsk⟩, upd_setBlock hb _, by simp [setBlock]⟩
    · simp [Instr.mapUpdate, run_underlying M.under, MapKept.run_getObj_map hb, M.K.check w false hl', f1, hj, f3, M.K.stays w hl', MapKept.run_setObj_map _ hb, Result.andThen, setBlock]
    · rw [(at_there hd f5).2.1, hlist, List.map_set, he, List.map_set]
    · rw [hj] at he'
      cases he'
      exact f3.symm
    · rw [hlist]
      intro x hx
      rcases List.mem_or_eq_of_mem_set hx with hx | rfl
      · exact hold x hx
      · exact hold e hem

/-! ### at the operation -/
variable {ops : Array Oper} {tail : List Oper} {o : Oper} {a : Act} {Q : Exit → Act → World → Prop}
theorem wp_lookM2 (h : Mp M w b L) (hg : o.guard = none) (m x : Operand) (hop : o.op = Op.lookup M.tT m x true) (hm : a.eval m = .map (some b)) (key : α) (hx : a.eval x = M.kv key) (ha : M.ok key)
    (hK : wpList P ops Q tail (a.put o.dst (.tuple #[M.vv ((look key L).getD M.zero), .bool (look key L).isSome])) w) : wpList P ops Q (o :: tail) a w := by
  refine wpList_plain hg fun K' hK' => ?_
  unfold Oper.wp
  simp [execOp, hop, hm, hx, h.lookup true key ha, Result.andThen]
  exact hK' _ _ hK
theorem wp_lookM1 (h : Mp M w b L) (hg : o.guard = none) (m x : Operand) (hop : o.op = Op.lookup M.tT m x false) (hm : a.eval m = .map (some b)) (key : α) (hx : a.eval x = M.kv key) (ha : M.ok key)
    (hK : wpList P ops Q tail (a.put o.dst (M.vv ((look key L).getD M.zero))) w) : wpList P ops Q (o :: tail) a w := by
  refine wpList_plain hg fun K' hK' => ?_
  unfold Oper.wp
  simp [execOp, hop, hm, hx, h.lookup false key ha, Result.andThen]
  exact hK' _ _ hK
theorem wp_putM (h : Mp M w b L) (hg : o.guard = none) (m x v : Operand) (hop : o.op = Op.mapUpdate M.tT m x v) (hm : a.eval m = .map (some b)) (key : α) (c : β) (hx : a.eval x = M.kv key) (hv : a.eval v = M.vv c) (ha : M.ok key)
    (hK : ∀ w', Mp M w' b (put key c L) → Upd w w' (· = b) → w'.heap.size = w.heap.size → wpList P ops Q tail (a.put o.dst undef) w') : wpList P ops Q (o :: tail) a w := by
  refine wpList_plain hg fun K' hK' => ?_
  obtain ⟨w', hrun, r1, r2, r3⟩ := h.update key c ha
  unfold Oper.wp
  simp [execOp, hop, hm, hx, hv, hrun, Result.andThen]
  exact hK' _ _ (hK w' r1 r2 r3)
theorem wp_delM (h : Mp M w b L) (hg : o.guard = none) (m x : Operand) (hop : o.op = Op.call { callee := Callee.builtin Builtin.delete, args := #[m, x], argTypes := #[M.tT, k] }) (hm : a.eval m = .map (some b)) (key : α) (hx : a.eval x = M.kv key) (ha : M.ok key)
    (hK : ∀ w', Mp M w' b (del key L) → Upd w w' (· = b) → w'.heap.size = w.heap.size → wpList P ops Q tail (a.put o.dst (.tuple #[])) w') : wpList P ops Q (o :: tail) a w := by
  refine wpList_plain hg fun K' hK' => ?_
  obtain ⟨w', hrun, r1, r2, r3⟩ := h.drop key ha o.type
  unfold Oper.wp
  simp [execOp, hop, resolve, invoke, builtin, hm, hx, hrun, Result.andThen]
  exact hK' _ _ (hK w' r1 r2 r3)
theorem wp_lenM (h : Mp M w b L) (hg : o.guard = none) (m : Operand) (hop : o.op = Op.call { callee := Callee.builtin Builtin.len, args := #[m], argTypes := #[M.tT] }) (hm : a.eval m = .map (some b))
    (hK : wpList P ops Q tail (a.put o.dst (.int .i64 (L.length : Int))) w) : wpList P ops Q (o :: tail) a w := by
  refine wpList_plain hg fun K' hK' => ?_
  unfold Oper.wp
  simp [execOp, hop, resolve, invoke, builtin, hm, h.len o.type, Result.andThen]
  exact hK' _ _ hK
theorem wp_rangeM (h : Mp M w b L) (hg : o.guard = none) (m : Operand) (hop : o.op = Op.range M.tT m) (hm : a.eval m = .map (some b))
    (hK : ∀ w', Rng M w' b w.heap.size L L → Upd w w' Nope → w'.heap.size = w.heap.size + 1 → wpList P ops Q tail (a.put o.dst (.pointer (some ⟨w.heap.size, 0, none⟩))) w') : wpList P ops Q (o :: tail) a w := by
  refine wpList_plain hg fun K' hK' => ?_
  obtain ⟨w', hrun, r1, r2, r3⟩ := h.range
  unfold Oper.wp
  simp [execOp, hop, hm, hrun, Result.andThen]
  exact hK' _ _ (hK w' r1 r2 r3)
theorem wp_nextM (h : Rng M w b r L rest) (hg : o.guard = none) (it : Operand) (hop : o.op = Op.next it false) (hit : a.eval it = .pointer (some ⟨r, 0, none⟩))
    (hDone : rest = [] → wpList P ops Q tail (a.put o.dst (.tuple #[.bool false])) w)
    (hMore : ∀ l1 p l2 w', rest = l1 ++ p :: l2 → Rng M w' b r L (l1 ++ l2) → p ∈ L → (∀ q ∈ l1 ++ l2, q.1 ≠ p.1) → Upd w w' (· = r) → w'.heap.size = w.heap.size →
      (Instr.entry (.pointer (some ⟨r, 0, none⟩))).run P w' = .ok (.tuple #[M.kv p.1, M.vv p.2]) w' → wpList P ops Q tail (a.put o.dst (.tuple #[.bool true, M.kv p.1, M.vv p.2])) w') : wpList P ops Q (o :: tail) a w := by
  refine wpList_plain hg fun K' hK' => ?_
  unfold Oper.wp
  rcases h.next o.type with ⟨h0, hrun⟩ | ⟨l1, p, l2, w', hr, hrun, hrg, hpl, hq, hu, hsz, hen⟩
  · simp [execOp, hop, hit, hrun, Result.andThen]
    exact hK' _ _ (hDone h0)
  · simp [execOp, hop, hit, hrun, Result.andThen]
    exact hK' _ _ (hMore l1 p l2 w' hr hrg hpl hq hu hsz hen)
theorem wp_storeM (h : Rng M w b r L rest) (hg : o.guard = none) (m x v : Operand) (hop : o.op = Op.mapUpdate M.tT m x v) (hm : a.eval m = .map (some b)) (key : α) (c : β) (hx : a.eval x = M.kv key) (hv : a.eval v = M.vv c) (ha : look key L ≠ none) (hr : ∀ q ∈ rest, q.1 ≠ key)
    (hK : ∀ w', Rng M w' b r (put key c L) rest → Upd w w' (· = b) → w'.heap.size = w.heap.size → wpList P ops Q tail (a.put o.dst undef) w') : wpList P ops Q (o :: tail) a w := by
  refine wpList_plain hg fun K' hK' => ?_
  obtain ⟨w', hrun, r1, r2, r3⟩ := h.store key c ha hr
  unfold Oper.wp
  simp [execOp, hop, hm, hx, hv, hrun, Result.andThen]
  exact hK' _ _ (hK w' r1 r2 r3)
end
end Go.Proofs.Ythpilbooolgkiaa
