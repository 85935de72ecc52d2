/- One piece more: what is fed, and what was told, behind what was told. -/
import Derived.Test.YtomfblnflobonaaGoes
set_option linter.unusedVariables false
set_option linter.unusedSimpArgs false
namespace Go.Proofs.Ytomfblnflobonaa
open Go.RowKit

theorem lcells_append (xs ys : List (List UInt8 × Nat)) : lcells (xs ++ ys) = lcells xs ++ lcells ys := by simp [lcells]
theorem lcells_len (xs : List (List UInt8 × Nat)) : (lcells xs).length = xs.length * 2 := by
  induction xs with
  | nil => rfl
  | cons x xs ih => simp [lcells] at ih ⊢; omega
theorem lcells_one (xs : List (List UInt8 × Nat)) : ∀ u ∈ lcells xs, u.oneCell' = true := by
  intro u hu
  simp only [lcells, List.mem_flatMap] at hu
  obtain ⟨x, _, hx⟩ := hu
  simp at hx
  rcases hx with rfl | rfl <;> rfl

/-- 'append(x, y...)', both rows of lines of the call's own. -/
theorem app_lines {W : World} {B B' n ny : Nat} {v vy : Value} {xs ys : List (List UInt8 × Nat)} (hown : W.ownsRow B 49 2 v n (lcells xs)) (hy : W.ownsRow B' 49 2 vy ny (lcells ys)) (hB : B ≤ W.heap.size) (hn : n + ny ≤ 1000000) :
    ∃ v' w', (Builtin.append_ #[29, 29] 29 #[v, vy]).run Try.prog W = .ok v' w' ∧ w'.ownsRow B 49 2 v' (n + ny) (lcells (xs ++ ys)) ∧ Upd W w' (fun k => v.ownBlock = some k) ∧ ∀ k, v'.ownBlock = some k → v.ownBlock = some k ∨ W.heap.size ≤ k := by
  obtain ⟨i1, hi, hz0, hz1, hz2⟩ := info_parts infoL
  rcases hy.2 with ⟨rfl, rfl⟩ | ⟨q, cap, cur, rfl, -, hq, hnc, -⟩
  · have hys : ys = [] := by
      have := hy.1
      rw [lcells_len] at this
      exact List.length_eq_zero_iff.1 (by omega)
    subst hys
    exact ⟨v, W, run_append_owned_none (P := Try.prog) (w := W) B 29 29 49 i1 2 Try.underlying29 hi v n _ hown, by simpa using hown, Upd.refl _ _, fun k hk => .inl hk⟩
  · obtain ⟨v', w', h1, h2, h3, _, h5⟩ := run_append_own_at (P := Try.prog) W B 29 29 49 i1 (.agg #[.string ByteArray.empty, .int .i64 0]) 2 24 Try.underlying29 hi hz0 hz1 hz2 rfl (by omega) v n (lcells xs) hown ⟨q, 0, none⟩ ny cap (lcells ys) hy.1 (fun j u hj => hy.cells (g := q) rfl j u hj) (lcells_one ys) (by unfold maxLen; omega) (by omega) hB
    refine ⟨v', w', h1, by rw [lcells_append]; exact h2, (Upd.refl W _).grown h3 (fun k e => .inl e), fun k hk => ?_⟩
    rcases h5 with e | e
    · exact .inl (by rw [← e]; exact hk)
    · rw [e] at hk
      injection hk with hk
      right
      omega

/-- What a loop that feeds piece by piece keeps: 'came' came so far; vx is the row of all lines that were told. -/
structure Loop (w0 w : World) (B g most : Nat) (came : List UInt8) (v vx : Value) : Prop where
  ctr : Ctr w B g most (cuts [] came).1.length (cuts [] came).2 v
  own : w.ownsRow B 49 2 vx ((cuts [] came).1.map (lineOf most)).length (lcells ((cuts [] came).1.map (lineOf most)))
  upd : Upd w0 w (· = g)
  loc : ∀ k, v.ownBlock = some k → w0.heap.size ≤ k
  loco : ∀ k, vx.ownBlock = some k → w0.heap.size ≤ k
theorem Loop.start {w : World} {B g most : Nat} (h : Ctr w B g most 0 [] (.slice none 0 0)) : Loop w w B g most [] (.slice none 0 0) (.slice none 0 0) :=
  ⟨h, by simpa [cuts, lcells] using World.ownsRow_nil _ _ _ _, Upd.refl _ _, fun k hk => by simp [Value.ownBlock] at hk, fun k hk => by simp [Value.ownBlock] at hk⟩
theorem Loop.nope {w0 w w' : World} {B g most : Nat} {came : List UInt8} {v vx : Value} (h : Loop w0 w B g most came v vx) (k : Upd w w' Nope) : Loop w0 w' B g most came v vx :=
  ⟨h.ctr.upd k id (fun _ _ => id), own_upd h.own k (fun _ _ => id), h.upd.then_ (k.mono (fun _ _ h => h.elim)), h.loc, h.loco⟩

theorem loop_feed {w0 w : World} {B g most : Nat} {came : List UInt8} {v vx : Value} (h : Loop w0 w B g most came v vx) (hB : B ≤ w0.heap.size) (hg : g < w0.heap.size) (hm2 : 2 ≤ most) (hmm : most ≤ 65536) (r : ByteArray) (hr : came.length + r.size ≤ 200000) :
    Calls Try.prog 11 #[.pointer (some ⟨g, 0, none⟩), .slice (some ⟨w.heap.size, 0, none⟩) 1 1] (w.alloc (.cells #[.string r] 9)) fun e w' => ∃ vo, e = .returned vo ∧ ∃ v2 w3, (Builtin.append_ #[29, 29] 29 #[vx, vo]).run Try.prog w' = .ok v2 w3 ∧ ∃ v', Loop w0 w3 B g most (came ++ r.data.toList) v' v2 := by
  have hw0 := h.upd.size
  have ua : Upd w (w.alloc (.cells #[.string r] 9)) Nope := (Upd.refl w Nope).alloc _
  have hL := h.nope ua
  have hbo : bytesOf [r] = r.data.toList := by simp [bytesOf]
  have hrs : r.data.toList.length = r.size := by simp
  have n1 := cuts_len came []
  have n2 := cuts_count came []
  simp at n1
  have hvne : ∀ k, v.ownBlock = some k → k ≠ w.heap.size := fun k hk => by have := (h.ctr.own.lt k hk).2; omega
  refine (feed_any (cap := 1) (l := [r]) hL.ctr (by have := ua.size; omega) hm2 hmm (by omega) (by omega) (fun W k => rd1_blk ((Blk.new w #[.string r] 9).upd k (fun hk => by
    rcases hk with hk | hk
    · omega
    · exact hvne _ hk rfl)) rfl) (by simp) (by rw [hbo]; omega)).mono ?_
  rintro e w' ⟨v', vo, rfl, hc, ho, hu, hlv, hlo⟩
  rw [hbo] at hc ho
  have hF2 : ∀ i, vx.ownBlock = some i → ¬ (i = g ∨ v.ownBlock = some i) := fun i hi hk => by
    rcases hk with hk | hk
    · exact own_ne hL.own hL.ctr.blk (by decide) i hi hk
    · exact own_own_ne hL.own hL.ctr.own (by decide) i hi hk
  have hx := own_upd hL.own hu hF2
  have z1 := ua.size
  have z2 := hu.size
  have n3 := cuts_count r.data.toList (cuts [] came).2
  obtain ⟨v2, w3, hap, hown, hu3, hl3⟩ := app_lines hx ho (by omega) (by rw [List.length_map, List.length_map]; omega)
  have e := cuts_append came r.data.toList []
  refine ⟨vo, rfl, v2, w3, hap, v', ?_, ?_, ?_, ?_, ?_⟩
  · rw [e]
    simp only [List.length_append]
    exact hc.upd hu3 (fun hk => own_ne hx hc.blk (by decide) _ hk rfl) (fun i hi hk => own_own_ne hx hc.own (by decide) i hk hi)
  · rw [e]
    simp only [List.map_append, List.length_append]
    rw [← List.map_append] 
    simpa [List.map_append] using hown
  · refine (hL.upd.trans hu (fun _ _ h => h) (fun i hi hk => ?_)).trans hu3 (fun _ _ h => h) (fun i hi hk => ?_)
    · rcases hk with hk | hk
      · exact hk
      · have := h.loc i hk; omega
    · have := h.loco i hk; omega
  · intro k hk
    rcases hlv k hk with hk | hk
    · exact h.loc k hk
    · omega
  · intro k hk
    rcases hl3 k hk with hk | hk
    · exact h.loco k hk
    · omega
end Go.Proofs.Ytomfblnflobonaa
