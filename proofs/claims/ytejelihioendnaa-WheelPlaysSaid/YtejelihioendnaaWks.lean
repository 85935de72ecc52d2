/- A slot's timers' numbers, sorted. (The contracts ahead are the kit's tool's own print.) -/
import Derived.Test.YtejelihioendnaaShelf
import Derived.Test.YtejelihioendnaaWmv
set_option linter.unusedVariables false
set_option linter.unusedSimpArgs false
namespace Go.Proofs
open Go.RowKit Go.Maps Go.Sort Go.Shelf
theorem Try.sorts25 (m : Nat) : AnyZI.SortsIn Try.prog Try.sorted25_ren Fence.wide m :=
  ⟨fun blk off cap ss W hH hblk hsz => callsIn_wide.2 (AnyM.slices_Sort_int Try.sort31 blk off cap ss W hH hblk hsz),
   fun p cap W => callsIn_wide.2 (AnyM.slices_Sort_int_none Try.sort31 p cap W)⟩

theorem Try.maps_Keys_26 (mb : Option Nat) (W : World) : CallsIn Fence.wide 5 Try.prog 26 #[.map mb] W fun e w' => e = .returned (.func (.func 32) #[] #[.pointer (some ⟨W.heap.size, 0, none⟩)]) ∧ w' = W.alloc (.cells #[.map mb] 59) :=
  AnyZI.keys_in Try.keys26 Fence.wide 5 trivial rfl mb W

set_option maxHeartbeats 1000000 in
theorem Try.slices_Sorted_keys_25_26 {H : Type} (b nn : Nat) (D0 : DataW H) (R : Value → Option (DataW H × List MemPlace)) (w : World) (hown : w.ownsMap Try.prog 3 R b nn D0) (hmax : Maps.size D0 ≤ maxLen) (hbytes : Maps.size D0 * 8 ≤ 140737488355328) :
    CallsIn Fence.wide 5 Try.prog 25 #[.func (.func 32) #[] #[.pointer (some ⟨w.heap.size, 0, none⟩)]] (w.alloc (.cells #[.map (some b)] 59)) fun e w' => ∃ (v : Value) (ss : List Int), e = .returned v ∧ ss.Perm (intKeys D0) ∧
      w'.ownsRow (w.alloc (.cells #[.map (some b)] 59)).heap.size 3 1 v ss.length ((ss.mergeSort (fun x y => decide (x ≤ y))).map encZ) ∧ (v = .slice none 0 0 ↔ ss = []) ∧ Below (w.alloc (.cells #[.map (some b)] 59)).heap.size (w.alloc (.cells #[.map (some b)] 59)) w' := by
  have hbl := hown.lt
  have hseq : SeqGives Fence.wide 2 Try.prog 32 #[.pointer (some ⟨w.heap.size, 0, none⟩)] encZ (fun ss => ss.Perm (intKeys D0)) (Maps.size D0) (w.alloc (.cells #[.map (some b)] 59)) :=
    AnyZI.keys_gives (ρ := Try.keys26_ren) { Try.keys26 with } Fence.wide _ trivial rfl (by omega) w.heap.size b nn D0 _ (by simp) (by simp) (by
      obtain ⟨es, clock, hb, Ft, hs, hD⟩ := hown
      exact ⟨es, clock, (Below.heap_alloc _ _ b hbl).trans hb, Ft, hs, hD⟩)
  exact AnyZI.sorted_in Try.sorted25 Fence.wide 5 trivial trivial trivial trivial rfl (by omega) (Try.sorts25 _) (enters_of Try.func31 (by kernel_rfl) rfl) 32 #[.pointer (some ⟨w.heap.size, 0, none⟩)] trivial (enters_of Try.func32 (by kernel_rfl) rfl) _ _ hmax hbytes _ hseq
end Go.Proofs
namespace Go.Proofs.Ytejelihioendnaa
open Go.RowKit Go.MapKept Go.Sort
open Go.WideElems (Fit rd rg)
open Go.Maps (keyOf_int_mk)

/-- A reader of elements that looks at none. -/
def anyR (_ : Value) : Option (DataW Unit × List MemPlace) := some (.nil, [])
theorem owns_of {w : World} {b : Nat} {L : List (Int × Int)} (h : Mp MI w b L) (hl : L.length ≤ maxLen) :
    ∃ D0 : DataW Unit, w.ownsMap Try.prog 3 anyR b L.length D0 ∧ Maps.size D0 = L.length ∧ (intKeys D0).Perm (L.map fun p => p.1) := by
  obtain ⟨es, clock, hb, he, hs, ho⟩ := h.out
  have hlen : es.size = L.length := by simpa using congrArg List.length he
  have hkey : ∀ x ∈ es.toList, ∃ p ∈ L, x.key = .int .i64 p.1 ∧ okI p.1 := fun x hx => by
    obtain ⟨j, hj⟩ := List.getElem?_of_mem hx
    obtain ⟨p, hp, h1, _⟩ := nth_of he hj
    exact ⟨p, List.mem_of_getElem? hp, h1, ho p (List.mem_of_getElem? hp)⟩
  have hF : Fit Try.prog 3 anyR es clock := ⟨by omega, hs, fun x hx => by
    obtain ⟨p, _, h1, h2⟩ := hkey x hx
    refine ⟨(.int .i64 p.1, .nil), ?_⟩
    unfold Go.WideElems.rd
    rw [h1, keyOf_int_mk Try.underlying3 h2]
    rfl⟩
  refine ⟨_, ⟨es, clock, hb, hF, by omega, rfl⟩, by simp [Maps.size, length_sorted, hlen], ?_⟩
  have e1 : es.toList.map (rg Try.prog 3 anyR) = L.map (fun p => ((.int .i64 p.1, .nil) : Lit × DataW Unit)) := by
    apply List.ext_getElem?
    intro i
    simp only [List.getElem?_map]
    cases hi : es.toList[i]? with
    | none =>
      have : L[i]? = none := by
        rw [List.getElem?_eq_none_iff] at hi ⊢
        simp at hi
        omega
      rw [this]
      rfl
    | some x =>
      obtain ⟨p, hp, h1, _⟩ := nth_of he hi
      rw [hp]
      simp only [Option.map_some, Option.some.injEq]
      unfold Go.WideElems.rg Go.WideElems.rd
      rw [h1]
      show ((keyOf Try.prog 3 (.int .i64 p.1)).bind _).getD _ = _
      rw [keyOf_int_mk Try.underlying3 (ho p (List.mem_of_getElem? hp))]
      rfl
  simp only [intKeys]
  rw [e1]
  refine ((Go.WideShapes.sorted_perm _).map _).trans ?_
  rw [List.map_map]
  exact List.Perm.refl _
/-- 'slices.Sorted(maps.Keys(s))'. -/
theorem sorted_ids {w : World} {b : Nat} {L : List (Int × Int)} (h : Mp MI w b L) (hl : L.length ≤ 1000000) :
    Calls Try.prog 25 #[.func (.func 32) #[] #[.pointer (some ⟨w.heap.size, 0, none⟩)]] (w.alloc (.cells #[.map (some b)] 59)) fun e w' => ∃ (A : Option Addr) (cap : Nat) (l : List Int), e = .returned (.slice A l.length cap) ∧ Rd1 (Value.int .i64) w' A l ∧
      l.Perm (L.map (·.1)) ∧ l.Pairwise (· ≤ ·) ∧ Upd w w' Nope ∧ ∀ ad, A = some ad → w.heap.size ≤ ad.block := by
  obtain ⟨D0, hown, hsz, hperm⟩ := owns_of h (by unfold maxLen; omega)
  refine (callsIn_wide.1 (Try.slices_Sorted_keys_25_26 b _ D0 anyR w hown (by rw [hsz]; unfold maxLen; omega) (by rw [hsz]; omega))).mono ?_
  rintro e w2 ⟨v, ss, rfl, hss, hrow, hnil, hbel⟩
  have hblk := hrow.2
  obtain ⟨A, cap, rfl, hlen, hrd, _, _⟩ := rd1_of_owns (f := encZ) hrow
  refine ⟨A, cap, _, by rw [← hlen], hrd, (List.mergeSort_perm ss _).trans (hss.trans hperm), ?_, ((Upd.refl w _).alloc _).nn (Upd.of_below hbel _), fun ad ha => ?_⟩
  · have hp := List.pairwise_mergeSort (le := fun x y : Int => decide (x ≤ y)) (fun a b c h1 h2 => by simp only [decide_eq_true_eq] at *; omega) (fun a b => by simp only [Bool.or_eq_true, decide_eq_true_eq]; omega) ss
    exact hp.imp (fun h => by simpa using h)
  · rcases hblk with ⟨h0, _⟩ | ⟨q, c, cur, hq, hb, _⟩
    · injection h0 with h0; rw [ha] at h0; cases h0
    · injection hq with hq
      rw [ha] at hq
      cases hq
      simp at hb
      exact Nat.le_of_succ_le hb
end Go.Proofs.Ytejelihioendnaa
