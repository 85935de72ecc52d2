/- path.shaped. -/
import Derived.Test.YthfmjiafdfoajaaDoorDoa
set_option linter.unusedVariables false
set_option linter.unusedSimpArgs false
namespace Go.Proofs.YthfmjiafdfoajaaDoor
open Go.RowKit Go.Shelf
attribute [local go_sem] Oper.semAt_some

def domOk (x : ByteArray) : Bool := (domR x).2 == 0
def shapedB (s : ByteArray) : Bool := (pcs s).all domOk

set_option maxRecDepth 100000 in
set_option maxHeartbeats 8000000 in
theorem shaped_in (n : Nat) (hn : 12 ≤ n) (s : ByteArray) (w : World) (hs : s.size < 4294967281) : CallsIn Fence.wide n Tryd.prog 30 #[.string s] w fun e w' =>
    e = .returned (.bool (shapedB s)) ∧ Below w.heap.size w w' := by
  refine callsIn_of_wp_marks Tryd.func30 rfl trivial ?_ rfl
  simp only [Tryd.ntmps30, List.size_toArray, List.length_cons, List.length_nil, Nat.reduceAdd, Nat.reduceSub, Array.replicate_succ, Array.replicate_zero, List.push_toArray, List.append_toArray, List.nil_append, List.cons_append]
  gi_wp2
  refine ⟨trivial, fun _ => by omega, ?_⟩
  refine (splitSeq_any (n - 1) (by omega) s _).mono ?_
  rintro e w' ⟨rfl, rfl⟩
  have hbx := bx_new s (w.alloc (.cells #[.bool false] 4))
  have hok := cell_hd (World.alloc_heap_new w (.cells #[.bool false] 4))
  have hk : ∀ (o1 o2 o3 : Obj), Below (w.heap.size + 1) (w.alloc (.cells #[.bool false] 4)) ((((w.alloc (.cells #[.bool false] 4)).alloc o1).alloc o2).alloc o3) := fun o1 o2 o3 =>
    (((Below.refl _ _).alloc (by simp) _).alloc (by simp) _).alloc (by simp) _
  have hbw : Below w.heap.size w (w.alloc (.cells #[.bool false] 4)) := (Below.refl _ w).alloc (Nat.le_refl _) _
  simp only [World.size_alloc] at hbx
  have hk1 := hk (.cells #[.string s] 9) (.cells #[.string ⟨#[46]⟩] 9) (.cells #[.int .i64 0] 3)
  clear hk
  simp only [World.size_alloc]
  generalize hW0 : (((w.alloc (.cells #[.bool false] 4)).alloc (.cells #[.string s] 9)).alloc (.cells #[.string ⟨#[46]⟩] 9)).alloc (.cells #[.int .i64 0] 3) = W0 at hbx hk1
  have hsz : W0.heap.size = w.heap.size + 4 := by rw [← hW0]; simp
  have hok0 : W0.cell? ⟨w.heap.size, 0, none⟩ = some (.bool false) ∧ W0.frozen? ⟨w.heap.size, 0, none⟩ = false :=
    ⟨(World.cell?_of_block (a := ⟨w.heap.size, 0, none⟩) (hk1.block _ (by simp))).trans hok.1, (World.frozen?_of_block (a := ⟨w.heap.size, 0, none⟩) (hk1.block _ (by simp))).trans hok.2⟩
  have hb0 : Below w.heap.size w W0 := hbw.trans (hk1.mono (by omega))
  clear hbw hok hW0 hk1
  gi_wp2
  refine wpIn_rangeSpl (by omega) (w.heap.size + 1) (w.heap.size + 1 + 1) (w.heap.size + 1) (w.heap.size + 1 + 1 + 1) s hs rfl (by omega) (by omega) (by omega) hbx rfl
    (fun pre W => (pre.all domOk = true) ∧ Below w.heap.size w W ∧ W.cell? ⟨w.heap.size, 0, none⟩ = some (.bool false) ∧ W.frozen? ⟨w.heap.size, 0, none⟩ = false)
    (fun pre W => (∃ x ∈ pre, domOk x = false) ∧ Below w.heap.size w W ∧ W.cell? ⟨w.heap.size, 0, none⟩ = some (.bool false))
    (fun pre A B h k => ⟨h.1, h.2.1.trans (k.mono (by omega)), (World.cell?_of_block (a := ⟨w.heap.size, 0, none⟩) (k.block _ (by simp))).trans h.2.2.1, (World.frozen?_of_block (a := ⟨w.heap.size, 0, none⟩) (k.block _ (by simp))).trans h.2.2.2⟩)
    (fun pre A B h k => ⟨h.1, h.2.1.trans (k.mono (by omega)), (World.cell?_of_block (a := ⟨w.heap.size, 0, none⟩) (k.block _ (by simp))).trans h.2.2⟩) ⟨by simp, hb0, hok0.1, hok0.2⟩
    (fun x => { tmps := #[.string s, undef, .pointer (some ⟨w.heap.size, 0, none⟩), .string x, undef, undef, .string s,
      .func (.func 67) #[] #[.pointer (some ⟨w.heap.size + 1 + 1, 0, none⟩), .pointer (some ⟨w.heap.size + 1, 0, none⟩), .pointer (some ⟨w.heap.size + 1 + 1 + 1, 0, none⟩)],
      .string x, undef, undef, undef, undef, undef, undef, undef], defers := [] }) ?assign ?body ?done ?stop
  case assign =>
    intro l x W K hK
    gi_wp2
    exact hK
  case body =>
    rintro l pre x W ⟨hg, hbl, hc, hf⟩ hz hpre
    have hxs : x.size < 4294967281 := Nat.lt_of_le_of_lt (pcs_size hpre) hs
    gi_wp2
    refine ⟨trivial, fun _ => by omega, ?_⟩
    refine ((domain_in (n - 1 - 1 - 1) (by omega) x W hxs).inRound l).mono ?_
    rintro e W2 ⟨rfl, hb2⟩
    have hlt0 := World.block_lt_of_cell? W _ hc
    have kc := (World.cell?_of_block (a := ⟨w.heap.size, 0, none⟩) (hb2.block _ hlt0)).trans hc
    have kf := (World.frozen?_of_block (a := ⟨w.heap.size, 0, none⟩) (hb2.block _ hlt0)).trans hf
    have hbl2 := hbl.trans (hb2.mono (Nat.le_of_lt hlt0))
    have hko : KeepsOthers W W2 := ⟨hb2.size, fun k o hk _ => (hb2.block k (Array.getElem?_eq_some_iff.1 hk).1).trans hk⟩
    have hdk : domOk x = ((domR x).2 == 0) := rfl
    generalize (domR x).1 = dr at *
    generalize (domR x).2 = de at *
    by_cases hde : de = 0
    · subst hde
      gi_wp2
      refine ⟨hko, Kb.of_below hb2 (by omega), by rw [List.all_append, hg]; simp [hdk], hbl2, kc, kf⟩
    · gi_wp2
      refine ⟨hko.trans (KeepsOthers.setCell _ _ _), ⟨x, by simp, by rw [hdk]; simpa using hde⟩, hbl2.setCell (p := ⟨w.heap.size, 0, none⟩) (Nat.le_refl _) _, World.cell?_setCell_same' _ _ _ (by rw [kc]; rfl)⟩
  case done =>
    rintro D W hD0 ⟨hg, hbl, hc, hf⟩ hD
    gi_wp2
    obtain ⟨W3, hW3⟩ : ∃ W3, W.setCell ⟨w.heap.size, 0, none⟩ (.bool true) = W3 := ⟨_, rfl⟩
    have m0 : W3.cell? ⟨w.heap.size, 0, none⟩ = some (.bool true) := by
      rw [← hW3]; exact World.cell?_setCell_same' _ _ _ (by rw [hc]; rfl)
    have mD : W3.heap[D]? = some (.deferred (some [])) := by
      rw [← hW3]; exact (KeepsOthers.setCell _ _ _).same _ _ hD rfl
    have mb : Below w.heap.size w W3 := by
      rw [← hW3]; exact hbl.setCell (p := ⟨w.heap.size, 0, none⟩) (Nat.le_refl _) _
    rw [hW3]
    refine ⟨by simp, .inl ⟨_, _, rfl, run_takeDeferred mD, ?_⟩⟩
    have hpo : ∀ k, k < w.heap.size + 4 → (W3.putObj D (.deferred none)).heap[k]? = W3.heap[k]? := fun k hk => World.putObj_heap_other (by omega)
    refine ⟨.bool true, ?_, by rw [shapedB, hg], mb.trans ⟨rfl, rfl, rfl, by simp [World.putObj], fun k hk => hpo k (by omega)⟩⟩
    have e0 := (World.cell?_of_block (a := ⟨w.heap.size, 0, none⟩) (hpo _ (by simp))).trans m0
    simp [results, Tryd.results30, go_sem, e0]
  case stop =>
    rintro D pre W hD0 hpre ⟨⟨x, hx, hbad⟩, hbl, hc⟩ hD
    gi_wp2
    refine ⟨by simp, .inl ⟨_, _, rfl, run_takeDeferred hD, ?_⟩⟩
    have hpo : ∀ k, k < w.heap.size + 4 → (W.putObj D (.deferred none)).heap[k]? = W.heap[k]? := fun k hk => World.putObj_heap_other (by omega)
    refine ⟨.bool false, ?_, ?_, hbl.trans ⟨rfl, rfl, rfl, by simp [World.putObj], fun k hk => hpo k (by omega)⟩⟩
    · have e0 := (World.cell?_of_block (a := ⟨w.heap.size, 0, none⟩) (hpo _ (by simp))).trans hc
      simp [results, Tryd.results30, go_sem, e0]
    · have : shapedB s = false := by
        rw [shapedB, List.all_eq_false]
        exact ⟨x, hpre.subset hx, by rw [hbad]; decide⟩
      rw [this]

theorem atoms_any (s : ByteArray) (w : World) (hs : s.size < 4294967281) : Calls Tryd.prog 20 #[.string s] w fun e w' => e = .returned (.bool (atomsB s)) ∧ Below w.heap.size w w' := callsIn_wide.1 (atoms_in 20 (by omega) s w hs)
theorem domain_any (s : ByteArray) (w : World) (hs : s.size < 4294967281) : Calls Tryd.prog 13 #[.string s] w fun e w' => e = .returned (.tuple #[.string (domR s).1, .int .i64 (domR s).2]) ∧ Below w.heap.size w w' := callsIn_wide.1 (domain_in 20 (by omega) s w hs)
theorem shaped_any (s : ByteArray) (w : World) (hs : s.size < 4294967281) : Calls Tryd.prog 30 #[.string s] w fun e w' => e = .returned (.bool (shapedB s)) ∧ Below w.heap.size w w' := callsIn_wide.1 (shaped_in 20 (by omega) s w hs)
end Go.Proofs.YthfmjiafdfoajaaDoor
