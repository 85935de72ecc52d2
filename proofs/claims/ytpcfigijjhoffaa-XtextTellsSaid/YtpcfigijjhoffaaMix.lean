/- A region that draws its order: operations that yield one value in every world (a call that leaves the world alone among them) are taken first; what makes or writes memory stands behind them, in one forced order. -/
import Derived.Test.YtpcfigijjhoffaaBase
import Derived.StillTail
set_option linter.unusedVariables false
set_option linter.unusedSimpArgs false
namespace Go.Proofs.Ytpcfigijjhoffaa
open Go.RowKit

section
variable {P : Program} {ops : Array Oper} {md : Region.Mode}

/-- What is asked of an operation that came to this in the world W. -/
def fxUpon (P : Program) (W : World) (v : Value) : Result Next → Prop
  | .ok (.value u) w' => w' = W ∧ v = u
  | .ok .skip w' => w' = W ∧ v = undef
  | .ok (.enter f args) w' => w' = W ∧ Calls P f args W (fun e w'' => e = .returned v ∧ w'' = W)
  | _ => False

/-- Wherever it comes up, it puts v and leaves the world alone. -/
def Fix (P : Program) (ops : Array Oper) (o : Oper) (v : Value) (a : Act) : Prop :=
  ∀ a' : Act, execOp a'.eval o = execOp a.eval o → Region.wanted o (yielded ops a'.tmps) = Region.wanted o (yielded ops a.tmps) →
    ∀ (K : Act → World → Prop) (Q : Exit → Act → World → Prop) (w : World), K (a'.put o.dst v) w → if Region.wanted o (yielded ops a'.tmps) = true then o.wp P a' w K Q else K (a'.put o.dst undef) w

theorem Fix.of_same {o : Oper} {v : Value} {a a' : Act} (h : Fix P ops o v a) (he : execOp a'.eval o = execOp a.eval o) (hw : Region.wanted o (yielded ops a'.tmps) = Region.wanted o (yielded ops a.tmps)) : Fix P ops o v a' :=
  fun b e1 e2 => h b (e1.trans he) (e2.trans hw)
theorem Fix.wpOp {i : Nat} {o : Oper} {v : Value} {a : Act} {w : World} {K : Act → World → Prop} {Q : Exit → Act → World → Prop} (hi : ops[i]? = some o) (h : Fix P ops o v a) (hk : K (a.put o.dst v) w) : Go.wpOp P ops Q i K a w := by
  have h1 := h a rfl rfl K Q w hk
  unfold Go.wpOp
  simp only [hi]
  split
  · rename_i hw
    rw [if_pos hw] at h1
    exact .inl h1
  · rename_i hw
    rw [if_neg hw] at h1
    exact h1
theorem fix_wanted {o : Oper} {v : Value} {a : Act} (hw : Region.wanted o (yielded ops a.tmps) = true) (h : ∀ W, fxUpon P W v ((execOp a.eval o).run P W)) : Fix P ops o v a := by
  intro a' e1 e2 K Q w hk
  rw [if_pos (e2.trans hw)]
  have h1 := h w
  unfold Oper.wp
  rw [e1]
  generalize (execOp a.eval o).run P w = r at h1 ⊢
  cases r with
  | ok n w' =>
    cases n <;> simp only [fxUpon] at h1
    case value u =>
      obtain ⟨rfl, rfl⟩ := h1
      exact hk
    case skip =>
      obtain ⟨rfl, rfl⟩ := h1
      exact hk
    case enter f args =>
      obtain ⟨rfl, hc⟩ := h1
      refine Calls.mono hc fun e w'' ⟨he, hw''⟩ => ?_
      subst he
      subst hw''
      exact hk
  | halt x w' => simp only [fxUpon] at h1
theorem fix_skipped {o : Oper} {a : Act} (hw : Region.wanted o (yielded ops a.tmps) = false) : Fix P ops o undef a := by
  intro a' e1 e2 K Q w hk
  rw [if_neg (by rw [e2, hw]; decide)]
  exact hk

/-- Only the normal end, and nothing of any other. -/
def Norm (R : Act → World → Prop) : Exit → Act → World → Prop := fun e a w => e = .normal ∧ R a w

/-- An operation apart from one that is fixed does the same whether that one's value lies there or not. -/
theorem fix_past {j : Nat} {oi oj : Oper} {v : Value} (hj : ops[j]? = some oj) (hap : oi.apart ops oj = true)
    (hsi : ∀ cs b, oi.op ≠ .select cs b) (hsj : ∀ cs b, oj.op ≠ .select cs b) {R : Act → World → Prop} {K : Act → World → Prop} {a : Act} {w : World}
    (hy : Fix P ops oi v a) (h : wpOp P ops (Norm R) j K (a.put oi.dst v) w) :
    wpOp P ops (Norm R) j (fun a' w' => Fix P ops oi v a' ∧ K (a'.put oi.dst v) w') a w := by
  obtain ⟨h1, h2, h3⟩ := Oper.apart_spec hap
  have keep : ∀ b : Act, Fix P ops oi v b → ∀ u, Fix P ops oi v (b.put oj.dst u) := fun b hb u =>
    hb.of_same (execOp_put oi hsi b oj.dst u h3) (wanted_put oi b oj.dst u h3)
  have both : ∀ u w', K ((a.put oi.dst v).put oj.dst u) w' → Fix P ops oi v (a.put oj.dst u) ∧ K ((a.put oj.dst u).put oi.dst v) w' := fun u w' hk =>
    ⟨keep a hy u, by rw [← Act.put_comm a v u h2]; exact hk⟩
  unfold wpOp at *
  simp only [hj] at *
  rw [wanted_put oj a oi.dst v h1] at h
  by_cases hw : Region.wanted oj (yielded ops a.tmps) = true
  · simp only [hw, if_true] at h ⊢
    rcases h with h | ⟨_, b, w', hb, _⟩
    · left
      unfold Oper.wp at *
      rw [execOp_put oj hsj a oi.dst v h1] at h
      generalize (execOp a.eval oj).run P w = r at h ⊢
      cases r with
      | ok n w' =>
        cases n <;> simp only [Oper.upon] at h ⊢
        case value u => exact both u w' h
        case skip => exact both _ w' h
        case defer d =>
          have hd : Fix P ops oi v { a with defers := d :: a.defers } := hy.of_same rfl rfl
          refine ⟨keep _ hd _, ?_⟩
          rw [← Act.put_comm _ v undef h2, ← Act.put_defers]
          exact h
        case enter f args =>
          refine Calls.mono h fun e w'' he => ?_
          cases e with
          | returned u => exact both u w'' he
          | panicked c => exact absurd he.1 (by simp)
          | outgrown =>
            obtain ⟨b, w3, hb, _⟩ := he
            cases hb
        case row row args => exact Rows.mono h fun u w'' he => both u w'' he
      | halt x w' =>
        cases x <;> simp only [Oper.upon] at h ⊢
        case panic u => exact absurd h.1 (by simp)
    · cases hb
  · simp only [hw] at h ⊢
    exact both _ w h

/-- One that may come up now may be taken first. -/
theorem mix_first {i : Nat} {oi : Oper} {v : Value} {R : Act → World → Prop} (hi : ops[i]? = some oi) (hsel : ∀ (j : Nat) (o : Oper) cs b, ops[j]? = some o → o.op ≠ .select cs b) :
    ∀ (fuel : Nat) (listed : Array Bool) (a : Act) (w : World),
      (∀ j oj, ops[j]? = some oj → j ≠ i → listed.getD j true = false → (∀ e ∈ oj.after, Region.binds md e = true → e.on ≠ i) → oi.apart ops oj = true) →
      i ∈ Region.ready md ops listed → Fix P ops oi v a →
      wpAny P md ops (Norm R) fuel (listed.setIfInBounds i true) (a.put oi.dst v) w → wpAny P md ops (Norm R) (fuel + 1) listed a w
  | 0, listed, a, w, _, hr, hy, H => by
    refine ⟨fun h => absurd hr (by rw [h]; simp), fun j hj => ?_⟩
    by_cases hji : j = i
    · subst hji
      exact hy.wpOp hi H
    · exact absurd (ready_mono hj hji) (by rw [H.1]; simp)
  | fuel + 1, listed, a, w, hfree, hr, hy, H => by
    refine ⟨fun h => absurd hr (by rw [h]; simp), fun j hj => ?_⟩
    by_cases hji : j = i
    · subst hji
      exact hy.wpOp hi H
    · obtain ⟨hjun, oj, hoj, hall⟩ := mem_ready.1 hj
      have hun := (mem_ready.1 hr).1
      have hno : ∀ e ∈ oj.after, Region.binds md e = true → e.on ≠ i := by
        intro e he hb heq
        have h1 := hall e he hb
        rw [heq] at h1
        by_cases hlt : i < listed.size
        · simp [hlt] at hun h1
          rw [hun] at h1
          cases h1
        · simp [Array.getElem?_eq_none (by omega : listed.size ≤ i)] at h1
      have h2 := fix_past hoj (hfree j oj hoj hji hjun hno) (fun cs b => hsel i oi cs b hi) (fun cs b => hsel j oj cs b hoj) hy (H.2 j (ready_mono hj hji))
      refine wpOp_mono (fun a' w' h3 => mix_first hi hsel fuel (listed.setIfInBounds j true) a' w' (fun k ok hk hki hku hkn => hfree k ok hk hki ?_ hkn) (ready_mono hr (Ne.symm hji)) h3.1 ?_) h2
      · by_cases hjk : j = k
        · subst hjk; exact hjun
        · rw [getD_set_ne true hjk] at hku; exact hku
      · rw [Array.setIfInBounds_comm _ _ hji]
        exact h3.2

/-- The head, as it stands in the text. -/
def wpMix (P : Program) (ops : Array Oper) (T : Act → Prop) : List Oper → Act → Prop
  | [], a => T a
  | o :: r, a => ∃ v, Fix P ops o v a ∧ wpMix P ops T r (a.put o.dst v)
def headB (md : Region.Mode) (ops : Array Oper) (g : Nat) : Nat → Nat → Array Bool → Bool
  | 0, k, listed => Region.seqB md ops g k listed
  | n + 1, k, listed => (Region.ready md ops listed).contains k && Region.free md ops listed k && headB md ops g n (k + 1) (listed.setIfInBounds k true)
def mixB (ops : Array Oper) (n : Nat) : Bool := Region.noSelect ops && decide (n ≤ ops.size) && headB .any ops (ops.size - n) n 0 (Array.replicate ops.size false)

theorem mix_lex {R : Act → World → Prop} {w : World} {g : Nat} (hs : Region.noSelect ops = true) : ∀ (l : List Oper) (k : Nat) (listed : Array Bool) (a : Act), (∀ j, j < l.length → l[j]? = ops[k + j]?) →
    headB md ops g l.length k listed = true → wpMix P ops (fun a' => ∀ listed', Region.seqB md ops g (k + l.length) listed' = true → wpAny P md ops (Norm R) g listed' a' w) l a → wpAny P md ops (Norm R) (l.length + g) listed a w
  | [], k, listed, a, _, hB, h => by
    have h1 := h listed (by simpa [headB] using hB)
    simpa using h1
  | o :: l, k, listed, a, hl, hB, h => by
    have h0 : ops[k]? = some o := by simpa using (hl 0 (by simp)).symm
    simp only [List.length_cons, headB, Bool.and_eq_true] at hB
    obtain ⟨⟨hr, hf⟩, hB'⟩ := hB
    obtain ⟨v, hy, hK⟩ := h
    have e : (o :: l).length + g = l.length + g + 1 := by simp; omega
    rw [e]
    refine mix_first h0 (Region.noSelect_spec hs) (l.length + g) listed a w (Region.free_spec h0 hf) (by simpa using hr) hy
      (mix_lex hs l (k + 1) _ _ (fun j hj => by have := hl (j + 1) (by simp; omega); simpa [Nat.add_assoc, Nat.add_comm 1 j] using this) hB' ?_)
    have e2 : k + (o :: l).length = k + 1 + l.length := by simp; omega
    rw [e2] at hK
    exact hK

theorem norm_wp {o : Oper} {a : Act} {w : World} {R : Act → World → Prop} {Q : Exit → Act → World → Prop} {K K' : Act → World → Prop} (hK : ∀ a w, K a w → K' a w) (h : o.wp P a w K (Norm R)) : o.wp P a w K' Q := by
  unfold Oper.wp at *
  generalize (execOp a.eval o).run P w = r at h ⊢
  cases r with
  | ok n w' =>
    cases n <;> simp only [Oper.upon] at h ⊢
    case value u => exact hK _ _ h
    case skip => exact hK _ _ h
    case defer d => exact hK _ _ h
    case enter f args =>
      refine Calls.mono h fun e w'' he => ?_
      cases e with
      | returned u => exact hK _ _ he
      | panicked c => exact absurd he.1 (by simp)
      | outgrown =>
        obtain ⟨b, w3, hb, _⟩ := he
        cases hb
    case row row args => exact Rows.mono h fun u w'' he => hK _ _ he
  | halt x w' =>
    cases x <;> simp only [Oper.upon] at h ⊢
    case panic u => exact absurd h.1 (by simp)
theorem norm_wpOp {i : Nat} {a : Act} {w : World} {R : Act → World → Prop} {Q : Exit → Act → World → Prop} {K K' : Act → World → Prop} (hK : ∀ a w, K a w → K' a w) (h : wpOp P ops (Norm R) i K a w) : wpOp P ops Q i K' a w := by
  unfold wpOp at *
  split at h
  · exact hK _ _ h
  · split at h
    · rename_i hw
      rw [if_pos hw]
      rcases h with h | ⟨_, b, w', hb, _⟩
      · exact .inl (norm_wp hK h)
      · cases hb
    · rename_i hw
      rw [if_neg hw]
      exact hK _ _ h
theorem norm_wpAny {R : Act → World → Prop} {Q : Exit → Act → World → Prop} (hQ : ∀ a w, R a w → Q .normal a w) : ∀ (fuel : Nat) (listed : Array Bool) (a : Act) (w : World), wpAny P md ops (Norm R) fuel listed a w → wpAny P md ops Q fuel listed a w
  | 0, _, _, _, h => ⟨h.1, hQ _ _ h.2.2⟩
  | fuel + 1, _, _, _, h => ⟨fun h0 => hQ _ _ (h.1 h0).2, fun i hi => norm_wpOp (fun a' w' => norm_wpAny hQ fuel _ a' w') (h.2 i hi)⟩

/-- THE LAW: n operations that are fixed, in the order of the text; then the rest, in the order of the text, in the world behind the draw. -/
theorem region_mix {id : Nat} {Q : Exit → Act → World → Prop} {a : Act} {w : World} {l : List Oper} (n : Nat) (hm : P.follows .mixedOrders = true) (hB : mixB l.toArray n = true)
    (h : ∀ Qn : Exit → Act → World → Prop, (∀ a w, Q .normal a w → Qn .normal a w) → wpMix P l.toArray (fun a' => wpList P l.toArray Qn (l.drop n) a' w.drew) (l.take n) a) : (Code.region id l.toArray true).wp P Q a w := by
  simp only [mixB, Bool.and_eq_true, decide_eq_true_eq] at hB
  obtain ⟨⟨hs, hn⟩, hB⟩ := hB
  have hn' : n ≤ l.length := by simpa using hn
  have htl : (l.take n).length = n := by simp; omega
  have hdl : (l.drop n).length = l.toArray.size - n := by simp
  refine wp_region_any hm (norm_wpAny (R := fun a w => Q .normal a w) (fun _ _ h => h) _ _ _ _ ?_)
  have h1 := h (Norm fun a w => Q .normal a w) (fun a w h => ⟨rfl, h⟩)
  have mono : ∀ (T T' : Act → Prop), (∀ a, T a → T' a) → ∀ (m : List Oper) (a : Act), wpMix P l.toArray T m a → wpMix P l.toArray T' m a := by
    intro T T' hT m
    induction m with
    | nil => exact fun a h => hT a h
    | cons o r ih => exact fun a ⟨v, h1, h2⟩ => ⟨v, h1, ih _ h2⟩
  have h2 := mix_lex (P := P) (md := .any) (g := l.toArray.size - n) (w := w.drew) hs (l.take n) 0 (Array.replicate l.toArray.size false) a
    (fun j hj => by rw [htl] at hj; simp [hj]) (by rw [htl]; exact hB) (mono _ _ (fun a' ht listed' hsq => by
      rw [htl, Nat.zero_add] at hsq
      have := wpAny_of_seq (md := .any) (l.drop n) n listed' a' w.drew (fun j => by simp [List.getElem?_drop]) (by rw [hdl]; exact hsq) ht
      rwa [hdl] at this) _ _ h1)
  rw [htl, show n + (l.toArray.size - n) = l.toArray.size by omega] at h2
  exact h2

def fxOp (P : Program) (o : Oper) (a : Act) (K : Act → Prop) : Prop := ∃ v, (∀ W, fxUpon P W v ((execOp a.eval o).run P W)) ∧ K (a.put o.dst v)
theorem wpMix_nil {T : Act → Prop} {a : Act} (h : T a) : wpMix P ops T [] a := h
theorem wpMix_step {T : Act → Prop} {a : Act} {o : Oper} {rest : List Oper}
    (h : ∀ K : Act → Prop, (∀ a, wpMix P ops T rest a → K a) → if Region.wanted o (yielded ops a.tmps) = true then fxOp P o a K else K (a.put o.dst undef)) : wpMix P ops T (o :: rest) a := by
  have h1 := h _ (fun _ h => h)
  by_cases hw : Region.wanted o (yielded ops a.tmps) = true
  · rw [if_pos hw] at h1
    obtain ⟨v, h2, h3⟩ := h1
    exact ⟨v, fix_wanted hw h2, h3⟩
  · rw [if_neg hw] at h1
    exact ⟨undef, fix_skipped (by simpa using hw), h1⟩
end
attribute [go_sem] fxUpon fxOp
end Go.Proofs.Ytpcfigijjhoffaa
