/- The queue and the document's: what is the same of both. -/
import Derived.Test.YthpilbooolgkiaaRft
import Derived.Test.YthpilbooolgkiaaAct
set_option linter.unusedVariables false
set_option linter.unusedSimpArgs false
namespace Go.Proofs.Ythpilbooolgkiaa
open Go.RowKit

def fpair (e : En) : Int × ByteArray := (e.id, e.dest)
/-- Who flies, here and there; no number stands twice. -/
structure PI (L : List En) (fly : List (Int × ByteArray)) (N : List En) : Prop where
  nd : ((L ++ N).map (·.id)).Nodup
  fp : fly.Perm (N.map fpair)
section
variable {L N : List En} {fly : List (Int × ByteArray)} (h : PI L fly N)
include h
theorem PI.ndL : (L.map (·.id)).Nodup := by have := h.nd; rw [List.map_append, List.nodup_append] at this; exact this.1
theorem PI.ndN : (N.map (·.id)).Nodup := by have := h.nd; rw [List.map_append, List.nodup_append] at this; exact this.2.1
theorem PI.len : fly.length = N.length := by rw [h.fp.length_eq, List.length_map]
theorem PI.look_ (id : Int) : (look id fly).isSome = N.any fun e => e.id == id := by
  rw [Bool.eq_iff_iff, List.any_eq_true]
  constructor
  · intro hs
    obtain ⟨d, hd⟩ := Option.isSome_iff_exists.1 hs
    have := h.fp.mem_iff.1 (look_mem hd)
    obtain ⟨e, he, e2⟩ := List.mem_map.1 this
    simp only [fpair, Prod.mk.injEq] at e2
    exact ⟨e, he, by simpa using e2.1⟩
  · rintro ⟨e, he, e2⟩
    rw [← Bool.not_eq_false, Option.isSome_eq_false_iff, Option.isNone_iff_eq_none]
    intro hn
    have := look_none.1 hn (fpair e) (h.fp.mem_iff.2 (List.mem_map_of_mem he))
    exact this (by simpa [fpair] using e2)
theorem PI.cnt (d : ByteArray) : cntD d fly = cntF d N := by
  unfold cntD cntF
  rw [(h.fp.filter _).length_eq, List.filter_map, List.length_map]
  rfl
theorem PI.free (limit : Int) : freeB limit fly = freeF limit N := by
  funext e
  unfold freeB freeF
  rw [h.cnt]
theorem PI.put_ (room : Int) (x : En) : putC room L fly x = putFC room L N x := by
  unfold putC putFC
  rw [h.look_ x.id]
  by_cases h1 : okP x = false
  · rw [if_pos h1, if_pos h1]
  · rw [if_neg h1, if_neg h1]
    by_cases h2 : (N.any fun e => e.id == x.id) = true ∨ (L.any fun e => e.id == x.id) = true
    · rw [if_pos h2, if_pos h2.symm]
    · have h3 : ¬ ((L.any fun e => e.id == x.id) = true ∨ (N.any fun e => e.id == x.id) = true) := fun h => h2 (Or.symm h)
      rw [if_neg h2, if_neg h3]
theorem PI.putL_ (room : Int) (x : En) : putL room L fly x = putFL room L N x := by
  unfold putL putFL
  rw [h.put_]
theorem PI.take_ (now age limit : Int) : takeR now age limit L fly = takeRF now age limit L N := by
  rw [take_eq, h.free]
  rfl
/-- Behind Put. -/
theorem PI.putS (room : Int) (x : En) : PI (putL room L fly x) fly N := by
  unfold putL
  by_cases h0 : putC room L fly x = 0
  · rw [if_pos h0]
    obtain ⟨_, h1, h2, _⟩ := putC_ok h0
    rw [h.look_] at h1
    refine ⟨?_, h.fp⟩
    have hL : ∀ e ∈ L, e.id ≠ x.id := fun e he => by rw [List.any_eq_false] at h2; simpa using h2 e he
    have hN : ∀ e ∈ N, e.id ≠ x.id := fun e he => by rw [List.any_eq_false] at h1; simpa using h1 e he
    have hp : ((L ++ [x] ++ N).map (·.id)).Perm (x.id :: (L ++ N).map (·.id)) := by
      rw [List.append_assoc, List.map_append, List.map_append, List.map_append, List.map_cons, List.map_nil, List.singleton_append]
      exact List.perm_middle
    rw [hp.nodup_iff, List.nodup_cons]
    refine ⟨fun hm => ?_, h.nd⟩
    obtain ⟨e, he, e2⟩ := List.mem_map.1 hm
    rcases List.mem_append.1 he with he | he
    · exact hL e he e2
    · exact hN e he e2
  · rw [if_neg h0]; exact h
omit h in
theorem eraseP_filter {L : List En} (hn : (L.map (·.id)).Nodup) (id : Int) : remL (fun e => e.id == id) L = L.filter fun e => !(e.id == id) := by
  unfold remL
  induction L with
  | nil => rfl
  | cons a L ih =>
    rw [List.map_cons, List.nodup_cons] at hn
    by_cases e : a.id == id
    · rw [List.eraseP_cons_of_pos (by simpa using e), List.filter_cons_of_neg (by simp [e])]
      refine (List.filter_eq_self.2 fun b hb => ?_).symm
      have e' : a.id = id := by simpa using e
      have : b.id ≠ id := fun h => hn.1 (by rw [e', ← h]; exact List.mem_map_of_mem hb)
      simpa using this
    · rw [List.eraseP_cons_of_neg (by simpa using e), List.filter_cons_of_pos (by simpa using e), ih hn.2]
/-- Behind Done. -/
theorem PI.doneS (id : Int) : PI L (del id fly) (remL (fun e => e.id == id) N) := by
  refine ⟨h.nd.sublist ((List.Sublist.append (List.Sublist.refl L) List.eraseP_sublist).map _), ?_⟩
  rw [eraseP_filter h.ndN]
  have h1 := h.fp.filter (fun p => decide (p.1 ≠ id))
  unfold del
  refine h1.trans ?_
  rw [List.filter_map]
  refine List.Perm.of_eq ?_
  congr 1
  refine List.filter_congr fun e _ => ?_
  simp only [fpair, Function.comp_def]
  by_cases hh : e.id = id <;> simp [hh]
/-- Behind Remove. -/
theorem PI.remS (id : Int) : PI (remL (fun e => e.id == id) L) fly N := ⟨h.nd.sublist ((List.Sublist.append List.eraseP_sublist (List.Sublist.refl N)).map _), h.fp⟩
/-- Behind Take. -/
theorem PI.takeS {x : En} (hx : x ∈ L) : PI (remL (fun e => e.id == x.id) L) (put x.id x.dest fly) (N ++ [x]) := by
  have hnN : (look x.id fly).isSome = false := by
    rw [h.look_, List.any_eq_false]
    intro e he
    have := h.nd
    rw [List.map_append, List.nodup_append] at this
    simpa using fun e2 : e.id = x.id => this.2.2 x.id (List.mem_map_of_mem hx) e.id (List.mem_map_of_mem he) e2.symm
  obtain ⟨P, S, rfl⟩ := List.append_of_mem hx
  have hrm : remL (fun e => e.id == x.id) (P ++ x :: S) = P ++ S := by rw [rem_take h.ndL]; simp
  rw [hrm]
  refine ⟨?_, ?_⟩
  · have hp : ((P ++ S ++ (N ++ [x])).map (·.id)).Perm ((P ++ x :: S ++ N).map (·.id)) := by
      refine List.Perm.map _ ?_
      have h1 : (P ++ S ++ (N ++ [x])).Perm (x :: (P ++ S ++ N)) := by
        rw [← List.append_assoc]
        exact List.perm_append_singleton x _
      refine h1.trans ?_
      rw [List.append_assoc, List.append_assoc, List.cons_append]
      exact List.perm_middle.symm
    rw [hp.nodup_iff]
    exact h.nd
  · have hk : ∀ p ∈ fly, p.1 ≠ x.id := by
      refine look_none.1 ?_
      rw [← Option.isNone_iff_eq_none, ← Option.isSome_eq_false_iff]
      exact hnN
    rw [put_new hk, List.map_append]
    exact h.fp.append (List.Perm.refl _)
end
theorem PI.nil : PI [] [] [] := ⟨by simp, by simp⟩
theorem takeR_mem {now age limit : Int} {L : List En} {x : En} {fly : List (Int × ByteArray)} (h : takeR now age limit L fly = some x) : x ∈ L := by
  unfold takeR at h
  exact (same_srtK L).mem (List.mem_of_find?_eq_some h)
end Go.Proofs.Ythpilbooolgkiaa
