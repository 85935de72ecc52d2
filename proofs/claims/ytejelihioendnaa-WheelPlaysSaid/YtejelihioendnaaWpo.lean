/- An advance, told by ticks. Plain lists. The map of those that fired. -/
import Derived.Test.YtejelihioendnaaWls
set_option linter.unusedVariables false
set_option linter.unusedSimpArgs false
namespace Go.Proofs.Ytejelihioendnaa
open Go.RowKit
open Go.Maps (int_keyed keyOf_int_mk)

def upTo (t : Int) (L : List (Int × Int)) : List (Int × Int) := L.filter fun p => decide (p.1 ≤ t)
def past (t : Int) (L : List (Int × Int)) : List (Int × Int) := L.filter fun p => decide (t < p.1)
theorem mem_upTo {t : Int} {L : List (Int × Int)} {p : Int × Int} : p ∈ upTo t L ↔ p ∈ L ∧ p.1 ≤ t := by simp [upTo]
theorem mem_past {t : Int} {L : List (Int × Int)} {p : Int × Int} : p ∈ past t L ↔ p ∈ L ∧ t < p.1 := by simp [past]
theorem past_all {t : Int} {L : List (Int × Int)} (h : ∀ p ∈ L, t < p.1) : past t L = L ∧ upTo t L = [] := by
  refine ⟨List.filter_eq_self.2 fun p hp => by simpa using h p hp, List.filter_eq_nil_iff.2 fun p hp => ?_⟩
  have := h p hp
  simp
  omega
theorem past_past {t t' : Int} {L : List (Int × Int)} (h : t ≤ t') : past t' (past t L) = past t' L := by
  unfold past
  rw [List.filter_filter]
  refine List.filter_congr fun p hp => ?_
  by_cases e : t' < p.1
  · simp [e]; omega
  · simp [e]
theorem ids_split {t t' : Int} {L : List (Int × Int)} (hs : Srt L) (h : t ≤ t') : idsOf (upTo t L) ++ idsOf (upTo t' (past t L)) = idsOf (upTo t' L) := by
  induction L with
  | nil => rfl
  | cons a T ih =>
    have hs' := List.pairwise_cons.1 hs
    by_cases e : a.1 ≤ t
    · have e2 : ¬ t < a.1 := by omega
      have e3 : a.1 ≤ t' := by omega
      have := ih hs'.2
      unfold idsOf upTo past at this ⊢
      simp [e, e2, e3] at this ⊢
      exact this
    · have hall : ∀ p ∈ a :: T, t < p.1 := fun p hp => by
        rcases List.mem_cons.1 hp with rfl | hp
        · omega
        · have := hs'.1 p hp
          unfold lt2 at this
          omega
      obtain ⟨h1, h2⟩ := past_all hall
      rw [h1, h2]
      rfl
theorem adv_spec {tt : Int} {most : Nat} (now : Int) (L : List (Int × Int)) (fired : List Int) (hs : Srt L) (hg : ∀ p ∈ L, now < p.1) (hn : now ≤ tt) :
    ∃ t', adv tt most now L fired = (t', past t' L, fired ++ idsOf (upTo t' L)) ∧ t' ≤ tt ∧ now ≤ t' ∧ (t' = tt ∨ most ≤ (fired ++ idsOf (upTo t' L)).length) := by
  induction now, L, fired using adv.induct (tt := tt) (most := most) with
  | case1 now fired h =>
    refine ⟨tt, ?_, Int.le_refl _, hn, .inl rfl⟩
    rw [adv_stop h (fun n x T e => by cases e)]
    simp [past, upTo, idsOf]
  | case2 now fired h n x T hlt =>
    obtain ⟨h1, h2⟩ := past_all (t := tt) (L := (n, x) :: T) (fun p hp => by have := head_le hs p hp; omega)
    refine ⟨tt, ?_, Int.le_refl _, hn, .inl rfl⟩
    rw [adv_stop h (fun n' x' T' e => by cases e; exact hlt), h1, h2]
    simp [idsOf]
  | case3 now fired h n x T hlt ih =>
    have hgn : ∀ p ∈ rest n ((n, x) :: T), n < p.1 := fun p hp => by
      have hm := mem_rest.1 hp
      have := head_le hs _ hm.1
      have := hm.2
      omega
    obtain ⟨t', e, h1, h2, h3⟩ := ih (srt_rest hs) hgn (by omega)
    have ep : past t' (rest n ((n, x) :: T)) = past t' ((n, x) :: T) := by
      unfold past rest
      rw [List.filter_filter]
      refine List.filter_congr fun p hp => ?_
      by_cases hp1 : t' < p.1
      · have : p.1 ≠ n := by omega
        simp [hp1, this]
      · simp [hp1]
    have ei : grp n ((n, x) :: T) ++ idsOf (upTo t' (rest n ((n, x) :: T))) = idsOf (upTo t' ((n, x) :: T)) := by
      have hsu : Srt (upTo t' ((n, x) :: T)) := hs.sublist List.filter_sublist
      have := grp_idsOf (n := n) hsu (fun p hp => head_le hs p (mem_upTo.1 hp).1)
      rw [← this]
      congr 1
      · unfold grp upTo
        rw [List.filter_filter]
        congr 1
        refine List.filter_congr fun p hp => ?_
        by_cases hp1 : p.1 = n
        · have : p.1 ≤ t' := by omega
          simp [hp1, h2]
        · simp [hp1]
      · unfold rest upTo
        rw [List.filter_filter, List.filter_filter]
        congr 1
        refine List.filter_congr fun p hp => ?_
        exact Bool.and_comm _ _
    have hgn0 := hg (n, x) List.mem_cons_self
    refine ⟨t', ?_, h1, by simp only at hgn0; omega, ?_⟩
    · rw [adv_go h (by omega), e, ep, List.append_assoc, ei]
    · rw [List.append_assoc, ei] at h3
      exact h3
  | case4 now L fired h =>
    obtain ⟨h1, h2⟩ := past_all hg
    refine ⟨now, ?_, hn, Int.le_refl _, .inr ?_⟩
    · rw [adv_full h, h1, h2]
      simp [idsOf]
    · rw [h2]
      simp [idsOf]
      omega
theorem advR_spec {now tt most : Int} {L : List (Int × Int)} (h : advOk now tt most = true) (hs : Srt L) (hg : ∀ p ∈ L, now < p.1) :
    ∃ t', advR now L tt most = ⟨idsOf (upTo t' L), t', 0, t', past t' L⟩ ∧ t' ≤ tt ∧ now ≤ t' ∧ (t' = tt ∨ most ≤ ((idsOf (upTo t' L)).length : Int)) := by
  have hb : now ≤ tt ∧ tt ≤ 1099511627776 ∧ 1 ≤ most ∧ most ≤ 1048576 := by
    simp only [advOk, Bool.and_eq_true, decide_eq_true_eq] at h
    omega
  obtain ⟨t', e, h1, h2, h3⟩ := adv_spec (tt := tt) (most := most.toNat) now L [] hs hg hb.1
  refine ⟨t', ?_, h1, h2, ?_⟩
  · unfold advR
    rw [h, e]
    rfl
  · rw [List.nil_append] at h3
    omega
theorem upTo_len (t : Int) (L : List (Int × Int)) : (upTo t L).length + (past t L).length = L.length := by
  unfold upTo past
  induction L with
  | nil => rfl
  | cons a T ih =>
    by_cases e : a.1 ≤ t
    · have : ¬ t < a.1 := by omega
      simp [e, this] at ih ⊢; omega
    · have : t < a.1 := by omega
      simp [e, this] at ih ⊢; omega

/-- The map of those that fired. -/
def MF : MK Try.prog 3 Int Int where
  kv := .int .i64
  ok := okI
  vv := .int .i64
  K := int_keyed Try.underlying3
  key a h := ⟨_, keyOf_int_mk Try.underlying3 h⟩
  inj a b h := by injection h
  vinj a b h := by injection h
  tT := 53
  eT := 3
  under := Try.underlying53
  zero := 0
  zrun w := by kernel_rfl
section
variable {ops : Array Oper} {Q : Exit → Act → World → Prop} {tail : List Oper} {o : Oper} {a : Act} {w : World} {b : Nat} {L : List (Int × Int)}
theorem lookF1 (h : Mp MF w b L) (hg : o.guard = none) (m x : Operand) (hop : o.op = Op.lookup 53 m x false) (hm : a.eval m = .map (some b)) (key : Int) (hx : a.eval x = .int .i64 key) (ha : okI key)
    (hK : wpList Try.prog ops Q tail (a.put o.dst (.int .i64 ((look key L).getD 0))) w) : wpList Try.prog ops Q (o :: tail) a w :=
  wp_lookM1 h hg m x hop hm key hx ha hK
theorem putF (h : Mp MF w b L) (hg : o.guard = none) (m x v : Operand) (hop : o.op = Op.mapUpdate 53 m x v) (hm : a.eval m = .map (some b)) (key c : Int) (hx : a.eval x = .int .i64 key) (hv : a.eval v = .int .i64 c) (ha : okI key)
    (hK : ∀ w', Mp MF w' b (put key c L) → Upd w w' (· = b) → w'.heap.size = w.heap.size → wpList Try.prog ops Q tail (a.put o.dst undef) w') : wpList Try.prog ops Q (o :: tail) a w :=
  wp_putM h hg m x v hop hm key c hx hv ha hK
end
theorem quiet_lookF {C : World → Prop} {K : Act → Prop} {a : Act} {o : Oper} {b : Nat} {L : List (Int × Int)} (hC : ∀ w, C w → Mp MF w b L) (m x : Operand) (hop : o.op = Op.lookup 53 m x false)
    (hm : a.eval m = .map (some b)) (key lv : Int) (hx : a.eval x = .int .i64 key) (ha : okI key) (hlv : (look key L).getD 0 = lv) (hk : K (a.put o.dst (.int .i64 lv))) : o.quiet Try.prog a C K :=
  ⟨_, fun w hw => by
    have e : (Instr.lookup 53 (.map (some b)) (.int .i64 key) false).run Try.prog w = .ok (.int .i64 lv) w := by rw [← hlv]; exact (hC w hw).lookup false key ha
    unfold Oper.quietAt
    simp [execOp, hop, hm, hx, e, Oper.quietUpon, Result.andThen], hk⟩
end Go.Proofs.Ytejelihioendnaa
