/- List: the names, sorted. (The three contracts ahead are the kit's tool's own print.) -/
import Derived.Test.YtkglcgekpgcdpaaShelf
import Derived.Test.YtkglcgekpgcdpaaDk
set_option linter.unusedVariables false
set_option linter.unusedSimpArgs false
namespace Go.Proofs
open Go.RowKit Go.Maps Go.Sort Go.Shelf
theorem Try.sorts25 (m : Nat) : AnyZ.SortsIn Try.prog Try.sorted25_ren Fence.wide m :=
  ⟨fun blk off cap ss W hH hblk hsz => callsIn_wide.2 (AnyM.slices_Sort_string Try.sort35 blk off cap ss W hH hblk hsz),
   fun p cap W => callsIn_wide.2 (AnyM.slices_Sort_string_none Try.sort35 p cap W)⟩

theorem Try.maps_Keys_26 (mb : Option Nat) (W : World) : CallsIn Fence.wide 5 Try.prog 26 #[.map mb] W fun e w' => e = .returned (.func (.func 36) #[] #[.pointer (some ⟨W.heap.size, 0, none⟩)]) ∧ w' = W.alloc (.cells #[.map mb] 49) :=
  AnyZ.keys_in Try.keys26 Fence.wide 5 trivial rfl mb W

set_option maxHeartbeats 1000000 in
theorem Try.slices_Sorted_keys_25_26 {H : Type} (b nn : Nat) (D0 : DataW H) (R : Value → Option (DataW H × List MemPlace)) (w : World) (hown : w.ownsMap Try.prog 9 R b nn D0) (hmax : Maps.size D0 ≤ maxLen) (hbytes : Maps.size D0 * 16 ≤ 140737488355328) :
    CallsIn Fence.wide 5 Try.prog 25 #[.func (.func 36) #[] #[.pointer (some ⟨w.heap.size, 0, none⟩)]] (w.alloc (.cells #[.map (some b)] 49)) fun e w' => ∃ (v : Value) (ss : List (List UInt8)), e = .returned v ∧ ss.Perm (strKeys D0) ∧
      w'.ownsRow (w.alloc (.cells #[.map (some b)] 49)).heap.size 9 1 v ss.length ((ss.mergeSort (fun x y => decide (x ≤ y))).map encStr) ∧ (v = .slice none 0 0 ↔ ss = []) ∧ Below (w.alloc (.cells #[.map (some b)] 49)).heap.size (w.alloc (.cells #[.map (some b)] 49)) w' := by
  have hbl := hown.lt
  have hseq : SeqGives Fence.wide 2 Try.prog 36 #[.pointer (some ⟨w.heap.size, 0, none⟩)] encStr (fun ss => ss.Perm (strKeys D0)) (Maps.size D0) (w.alloc (.cells #[.map (some b)] 49)) :=
    AnyZ.keys_gives (ρ := Try.keys26_ren) { Try.keys26 with } Fence.wide _ trivial rfl (by omega) w.heap.size b nn D0 _ (by simp) (by simp) (by
      obtain ⟨es, clock, hb, Ft, hs, hD⟩ := hown
      exact ⟨es, clock, (Below.heap_alloc _ _ b hbl).trans hb, Ft, hs, hD⟩)
  exact AnyZ.sorted_in Try.sorted25 Fence.wide 5 trivial trivial trivial trivial rfl (by omega) (Try.sorts25 _) (enters_of Try.func35 (by kernel_rfl) rfl) 36 #[.pointer (some ⟨w.heap.size, 0, none⟩)] trivial (enters_of Try.func36 (by kernel_rfl) rfl) _ _ hmax hbytes _ hseq

end Go.Proofs
namespace Go.Proofs.Ytkglcgekpgcdpaa
open Go.RowKit Go.MapKept Go.Sort
open Go.WideElems (Fit rd rg)

/-- A reader of elements that looks at none. -/
def anyR (_ : Value) : Option (DataW Unit × List MemPlace) := some (.nil, [])
theorem owns_of {w : World} {b : Nat} {L : List (ByteArray × Fl)} (h : Mp MF w b L) (hl : L.length ≤ maxLen) :
    ∃ D0 : DataW Unit, w.ownsMap Try.prog 9 anyR b L.length D0 ∧ Maps.size D0 = L.length ∧ (strKeys D0).Perm (L.map fun p => p.1.data.toList) := by
  obtain ⟨es, clock, hb, he, hs, ho⟩ := h.out
  have hlen : es.size = L.length := by simpa using congrArg List.length he
  have hkey : ∀ x ∈ es.toList, ∃ p ∈ L, x.key = .string p.1 ∧ p.1.size ≤ maxLen := fun x hx => by
    obtain ⟨j, hj⟩ := List.getElem?_of_mem hx
    obtain ⟨p, hp, h1, _⟩ := nth_of he hj
    exact ⟨p, List.mem_of_getElem? hp, h1, ho p (List.mem_of_getElem? hp)⟩
  have hF : Fit Try.prog 9 anyR es clock := ⟨by omega, hs, fun x hx => by
    obtain ⟨p, _, h1, h2⟩ := hkey x hx
    refine ⟨(.string p.1.data.toList, .nil), ?_⟩
    unfold Go.WideElems.rd
    rw [h1, Go.WideMaps.keyOf_string_mk Try.underlying9 h2]
    rfl⟩
  refine ⟨_, ⟨es, clock, hb, hF, by omega, rfl⟩, by simp [Maps.size, length_sorted, hlen], ?_⟩
  have e1 : es.toList.map (rg Try.prog 9 anyR) = L.map (fun p => ((.string p.1.data.toList, .nil) : Lit × DataW Unit)) := by
    apply List.ext_getElem?
    intro i
    simp only [List.getElem?_map]
    cases hi : es.toList[i]? with
    | none =>
      have : L[i]? = none := by
        rw [List.getElem?_eq_none_iff] at hi ⊢
        simp at hi
        omega
      rw [this]
      rfl
    | some x =>
      obtain ⟨p, hp, h1, _⟩ := nth_of he hi
      rw [hp]
      simp only [Option.map_some, Option.some.injEq]
      unfold Go.WideElems.rg Go.WideElems.rd
      rw [h1]
      show ((keyOf Try.prog 9 (.string p.1)).bind _).getD _ = _
      rw [Go.WideMaps.keyOf_string_mk Try.underlying9 (ho p (List.mem_of_getElem? hp))]
      rfl
  simp only [strKeys]
  rw [e1]
  refine ((Go.WideShapes.sorted_perm _).map _).trans ?_
  rw [List.map_map]
  exact List.Perm.refl _

theorem list_any {w : World} {g b : Nat} {d : Dk} (h : DK w g b d) (hl : d.L.length ≤ 100000) :
    Calls Try.prog 15 #[.pointer (some ⟨g, 0, none⟩)] w fun e w' => ∃ (A : Option Addr) (cap : Nat) (l : List ByteArray), e = .returned (.slice A l.length cap) ∧ Rd1 .string w' A l ∧ l.Perm (d.L.map (·.1)) ∧ Upd w w' Nope ∧ ∀ ad, A = some ad → w.heap.size ≤ ad.block := by
  have c1 := h.c1
  obtain ⟨D0, hown, hsz, hperm⟩ := owns_of h.mp (by unfold maxLen; omega)
  have hK := callsIn_wide.1 (Try.maps_Keys_26 (some b) w)
  have hS := callsIn_wide.1 (Try.slices_Sorted_keys_25_26 b _ D0 anyR w hown (by rw [hsz]; unfold maxLen; omega) (by rw [hsz]; omega))
  have HK := Lib.hid hK
  have HS := Lib.hid hS
  clear hK hS hown h
  go_enter Try.func15, Try.ntmps15
  go_wp2_with (first
    | (go_at_call 26; refine HK.out.mono ?_; rintro e w1 ⟨rfl, rfl⟩)
    | (go_at_call 25; refine HS.out.mono ?_; rintro e w2 ⟨v, ss, rfl, hss, hrow, hnil, hbel⟩))
  go_ret
  have hrow' : w2.ownsRow (w.alloc (.cells #[.map (some b)] 49)).heap.size 9 1 v ss.length (((ss.mergeSort (fun x y => decide (x ≤ y))).map fun x => (⟨x.toArray⟩ : ByteArray)).map Value.string) := by
    rw [List.map_map]
    exact hrow
  have hblk := hrow'.2
  obtain ⟨A, cap, rfl, hlen, hrd, _, _⟩ := rd1_of_owns hrow'
  refine ⟨A, cap, _, by rw [← hlen]; rfl, hrd, ?_, ((Upd.refl w _).alloc _).nn (Upd.of_below hbel _), fun ad ha => ?_⟩
  rotate_left
  · rcases hblk with ⟨h0, _⟩ | ⟨q, c, cur, hq, hb, _⟩
    · injection h0 with h0; rw [ha] at h0; cases h0
    · injection hq with hq
      rw [ha] at hq
      cases hq
      simp at hb
      exact Nat.le_of_succ_le hb
  have hp := ((List.mergeSort_perm ss (fun x y => decide (x ≤ y))).trans (hss.trans hperm)).map (fun x => (⟨x.toArray⟩ : ByteArray))
  rw [List.map_map] at hp
  have : (fun x : List UInt8 => (⟨x.toArray⟩ : ByteArray)) ∘ (fun p : ByteArray × Fl => p.1.data.toList) = fun p => p.1 := by
    funext p
    simp
  rw [this] at hp
  exact hp
end Go.Proofs.Ytkglcgekpgcdpaa
