/- Rows of structs that a call owns: append, copies, pieces. -/
import Derived.Test.YthfmjiafdfoajaaDoorRows5
set_option linter.unusedVariables false
set_option linter.unusedSimpArgs false
namespace Go.Proofs.YthfmjiafdfoajaaDoor
open Go.RowKit

section
variable {α : Type} {k : Nat} {f : α → List Value}
theorem flat_len (hk : ∀ x, (f x).length = k) (l : List α) : (l.flatMap f).length = l.length * k := by
  induction l with
  | nil => simp
  | cons a T ih => rw [List.flatMap_cons, List.length_append, ih, hk, List.length_cons, Nat.add_mul]; omega
theorem flat_get (hk : ∀ x, (f x).length = k) (l : List α) : ∀ (i : Nat) (hi : i < l.length) (j : Nat), j < k → (l.flatMap f)[i * k + j]? = (f (l[i]'hi))[j]? := by
  induction l with
  | nil => intro i hi; simp at hi
  | cons a T ih =>
    intro i hi j hj
    rw [List.flatMap_cons]
    cases i with
    | zero => rw [Nat.zero_mul, Nat.zero_add, List.getElem?_append_left (by rw [hk]; exact hj)]; rfl
    | succ i =>
      rw [List.getElem?_append_right (by rw [hk, Nat.add_mul]; omega), hk, show (i + 1) * k + j - k = i * k + j by rw [Nat.add_mul]; omega]
      exact ih i (by simpa using hi) j hj
theorem RdS.news (hk : ∀ x, (f x).length = k) (hk0 : 0 < k) {w : World} {ad : Addr} {l : List α} (h : RdS k f w (some ad) l) : ∀ j u, (l.flatMap f)[j]? = some u → w.cell? (ad.add j) = some u := by
  intro j u hj
  have hlt : j < l.length * k := by
    rw [← flat_len hk l]
    exact (List.getElem?_eq_some_iff.1 hj).1
  have hi : j / k < l.length := by rw [Nat.div_lt_iff_lt_mul hk0]; exact hlt
  have hm : j % k < k := Nat.mod_lt _ hk0
  have e : j / k * k + j % k = j := Nat.div_add_mod' j k
  have := flat_get hk l (j / k) hi (j % k) hm
  rw [e, hj] at this
  have := h.at_ (j / k) hi (j % k) u this.symm
  rw [e] at this
  exact this
/-- 'append(v, l...)', v the call's own, l's row read as it lies (nil or not, empty or not): for elements of k cells. -/
theorem append_rowS (hk : ∀ x, (f x).length = k) (hk0 : 0 < k) {P : Program} (base : Nat) {t e : TypeId} (ty : TypeId) {i : TypeInfo} {z : Value} {bytes : Nat} (ht : P.underlying t = some (.slice e)) (hi : P.info? e = some i) (hz : i.zero = some z)
    (hsize : i.size = k) (hby : i.bytes = bytes) (hzs : z.cells.size = k) (hf : ∀ x, ∀ u ∈ f x, u.oneCell' = true) {w : World}
    {v : Value} {n : Nat} {xs : List α} (hown : w.ownsRow base e k v n (xs.flatMap f)) {A : Option Addr} {c : Nat} {l : List α} (hr : RdS k f w A l) (hn : A = none → c = 0)
    (h63 : n + l.length ≤ maxLen) (hbytes : (n + l.length) * bytes ≤ 140737488355328) (hbase : base ≤ w.heap.size) :
    ∃ v' w', (Builtin.append_ #[t, t] ty #[v, .slice A l.length c]).run P w = .ok v' w' ∧ w'.ownsRow base e k v' (n + l.length) ((xs ++ l).flatMap f) ∧ w.grownBy w' v.ownBlock ∧ (v'.ownBlock = v.ownBlock ∨ v'.ownBlock = some w.heap.size) := by
  cases A with
  | none =>
    have hl : l = [] := by
      cases l with
      | nil => rfl
      | cons x l => obtain ⟨ad, h, _⟩ := hr 0 (by simp); cases h
    subst hl
    obtain rfl := hn rfl
    exact ⟨v, w, run_append_owned_none (P := P) (w := w) base t ty e i k ht hi v n _ hown, by simpa using hown, ⟨rfl, rfl, rfl, Nat.le_refl _, fun _ _ _ => rfl⟩, .inl rfl⟩
  | some ad =>
    obtain ⟨v', w', h1, h2, h3, _, h5⟩ := run_append_own_at (P := P) w base t ty e i z k bytes ht hi hz hsize hby hzs hk0 v n (xs.flatMap f) hown ad l.length c (l.flatMap f) (flat_len hk l) (hr.news hk hk0)
      (fun u hu => by obtain ⟨x, _, hx⟩ := List.mem_flatMap.1 hu; exact hf x u hx) h63 hbytes hbase
    exact ⟨v', w', h1, by rw [List.flatMap_append]; exact h2, h3, h5⟩
theorem rdS_of_owns (hk : ∀ x, (f x).length = k) {w : World} {base : Nat} {T : TypeId} {v : Value} {n : Nat} {l : List α} (hk0 : 0 < k) (h : w.ownsRow base T k v n (l.flatMap f)) :
    ∃ A cap, v = .slice A n cap ∧ n = l.length ∧ RdS k f w A l ∧ (A = none → cap = 0) ∧ n ≤ cap ∧ cap ≤ maxLen ∧ ∀ ad, A = some ad → base ≤ ad.block := by
  obtain ⟨hlen, h2⟩ := h
  rw [flat_len hk] at hlen
  have hn : n = l.length := (Nat.eq_of_mul_eq_mul_right hk0 hlen).symm
  rcases h2 with ⟨rfl, h0⟩ | ⟨g, cap, cur, rfl, hb, hg, hnc, hcm, hcs, htk⟩
  · exact ⟨none, 0, by rw [h0], hn, fun i hi => absurd hi (by omega), fun _ => rfl, by omega, by simp [maxLen], fun _ e => by cases e⟩
  · refine ⟨_, cap, rfl, hn, fun i hi => ⟨_, rfl, fun j u hu => ?_⟩, (fun h => nomatch h), hnc, hcm, fun ad e => by cases e; exact hb⟩
    have hj : j < k := by rw [← hk (l[i]'hi)]; exact (List.getElem?_eq_some_iff.1 hu).1
    have hb2 : i * k + j < n * k := by
      have : (i + 1) * k ≤ n * k := Nat.mul_le_mul_right k (by omega)
      rw [Nat.add_mul] at this
      omega
    have e : (cur.toList.take (n * k))[i * k + j]? = some u := by rw [htk, flat_get hk l i hi j hj, hu]
    rw [List.getElem?_take_of_lt hb2] at e
    rw [show (⟨g, 0, none⟩ : Addr).add (i * k + j) = ⟨g, i * k + j, none⟩ by simp only [Addr.add]; split <;> simp_all, cell_of_row w g (i * k + j) cur T (0, 0) hg, ← e]
    simp
/-- Pieces. -/
theorem RdS.take {w : World} {A : Option Addr} {l : List α} (h : RdS k f w A l) (n : Nat) : RdS k f w A (l.take n) := by
  intro i hi
  have hi' : i < l.length := by rw [List.length_take] at hi; omega
  obtain ⟨ad, e, hc⟩ := h i hi'
  exact ⟨ad, e, fun j v hv => hc j v (by rw [List.getElem_take] at hv; exact hv)⟩
theorem RdS.drop {w : World} {ad : Addr} {l : List α} (h : RdS k f w (some ad) l) (n : Nat) : RdS k f w (some (ad.add (n * k))) (l.drop n) := by
  intro i hi
  have hi' : n + i < l.length := by rw [List.length_drop] at hi; omega
  refine ⟨_, rfl, fun j v hv => ?_⟩
  rw [List.getElem_drop] at hv
  have := h.at_ (n + i) hi' j v hv
  rw [Go.Deep.add_add, show n * k + (i * k + j) = (n + i) * k + j by rw [Nat.add_mul]; omega]
  exact this
end
end Go.Proofs.YthfmjiafdfoajaaDoor
