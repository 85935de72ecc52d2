/- The entries, as they would be taken. -/
import Derived.Test.YthpilbooolgkiaaSnl
import Derived.Test.YthpilbooolgkiaaStb
set_option linter.unusedVariables false
set_option linter.unusedSimpArgs false
namespace Go.Proofs.Ythpilbooolgkiaa
open Go.RowKit

def SortedP (w : World) (l : List En) (now age : Int) (e : Ending) (w' : World) : Prop := ∃ A' cap', e = .returned (.slice A' l.length cap') ∧ SL w' A' cap' (srtK (En.key now age) l) ∧ Upd w w' Nope ∧ ∀ ad, A' = some ad → w.heap.size ≤ ad.block
set_option maxHeartbeats 1000000 in
theorem sorted_any (w : World) (g : Nat) (now age : Int) (A : Option Addr) (cap : Nat) (l : List En) (c0 : w.cell? ⟨g, 0, none⟩ = some (.int .i64 age)) (c3 : w.cell? ⟨g, 3, none⟩ = some (.slice A l.length cap)) (h : SL w A cap l) (hl : l.length ≤ 1000) (hok : ∀ e ∈ l, e.ok)
    (h1 : -2199023255552 ≤ now) (h2 : now ≤ 2199023255552) (h3 : 1 ≤ age) (h4 : age ≤ 1048576) : Calls Try.prog 31 #[.pointer (some ⟨g, 0, none⟩), .int .i64 now] w (SortedP w l now age) := by
  have lg := World.block_lt_of_cell? w _ c0
  have lg1 : g < w.heap.size + 1 := by simp at lg; omega
  have HS := Lib.hid h
  have HOK := Lib.hid (And.intro hok (And.intro h1 (And.intro h2 (And.intro h3 h4))))
  have HC0 := Lib.hid c0
  clear h hok h1 h2 h3 h4
  go_enter Try.func31, Try.ntmps31
  go_upto_region 1 with (fail)
  have hB := (Blk.new w #[.pointer (some ⟨g, 0, none⟩)] 25).alloc (.cells #[.int .i64 now] 3)
  have hC := Blk.new (w.alloc (.cells #[.pointer (some ⟨g, 0, none⟩)] 25)) #[.int .i64 now] 3
  have hU : Upd w ((w.alloc (.cells #[.pointer (some ⟨g, 0, none⟩)] 25)).alloc (.cells #[.int .i64 now] 3)) Nope := ((Upd.refl w _).alloc _).alloc _
  have hz : (w.alloc (.cells #[.pointer (some ⟨g, 0, none⟩)] 25)).heap.size = w.heap.size + 1 := by simp
  rw [hz] at hC
  clear hz
  generalize (w.alloc (.cells #[.pointer (some ⟨g, 0, none⟩)] 25)).alloc (.cells #[.int .i64 now] 3) = w2 at *
  have c3' := hU.cell c3 (fun h => h)
  have r0 : w2.cell? ⟨w.heap.size, 0, none⟩ = some (.pointer (some ⟨g, 0, none⟩)) := (hB.cell 0).trans rfl
  have HCL := Lib.hid (clone_any w2 A cap l (by
    rcases HS.out with h | ⟨q, e, hA⟩
    · exact .inl h
    · exact .inr ⟨q, e, hA.upd hU (fun h => h)⟩) hl)
  have HB := Lib.hid hB
  have HC := Lib.hid hC
  have HU := Lib.hid hU
  clear hB hC hU c0 c3
  go_wp2_with fail
  refine HCL.out.mono ?_
  rintro e w3 ⟨A', cap', rfl, hS', hU', hf'⟩
  have hcap : Cap w3 (w.heap.size + 1) w.heap.size g now age := ⟨((HC.out.upd hU' (fun h => h)).cell 0).trans rfl, ((HB.out.upd hU' (fun h => h)).cell 0).trans rfl, (HU.out.nn hU').cell HC0.out (fun h => h)⟩
  have HU3 := Lib.hid (HU.out.nn hU')
  rcases hS' with ⟨rfl, rfl, rfl⟩ | ⟨q, rfl, hA⟩
  · have HN := Lib.hid (sortStable_nil w3 (.func (.func 39) #[] #[.pointer (some ⟨w.heap.size + 1, 0, none⟩), .pointer (some ⟨w.heap.size, 0, none⟩)]))
    clear hU' hf' hcap
    go_wp2_with fail
    refine HN.out.mono ?_
    rintro e w4 ⟨rfl, hw4⟩
    obtain rfl : w3 = w4 := hw4.symm
    go_wp2_with fail
    go_ret
    exact ⟨none, 0, rfl, .inl ⟨rfl, rfl, rfl⟩, HU3.out, fun ad e => by cases e⟩
  · have hq : w2.heap.size ≤ q := hf' _ rfl
    have hsz := HC.out.lt
    have hso : So w3 q cap' l (w.heap.size + 1) w.heap.size g now age l.length := ⟨hA, HOK.out.1, hcap, ⟨by omega, by omega, by have : g < w.heap.size := lg; omega⟩, HOK.out.2.1, HOK.out.2.2.1, HOK.out.2.2.2.1, HOK.out.2.2.2.2, rfl, hl⟩
    have HSO := Lib.hid (sortStable_any w3 q cap' l _ _ g now age l.length hso)
    have HQ := Lib.hid (show w.heap.size ≤ q by omega)
    unfold askF at HSO
    clear hU' hf' hcap hA hso hq hsz
    go_wp2_with fail
    refine HSO.out.mono ?_
    rintro e w4 ⟨rfl, hA4, hU4⟩
    have HF := Lib.hid (And.intro hA4 (HU3.out.on hU4 HQ.out))
    clear hA4 hU4
    go_wp2_with fail
    go_ret
    exact ⟨_, cap', rfl, .inr ⟨q, rfl, HF.out.1⟩, HF.out.2, fun ad e => by cases e; exact HQ.out⟩
end Go.Proofs.Ythpilbooolgkiaa
