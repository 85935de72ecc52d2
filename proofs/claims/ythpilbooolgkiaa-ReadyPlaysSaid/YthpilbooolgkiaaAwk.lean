/- The law's 'awake', by the contracts on states that are written out; Few. -/
import Derived.Test.YthpilbooolgkiaaTak
set_option linter.unusedVariables false
set_option linter.unusedSimpArgs false
namespace Go.Proofs.Ythpilbooolgkiaa
open Go.RowKit

/-- Cells that lie apart from the queue. -/
def Kept (w : World) (F : Nat → Prop) (cs : List (Addr × Value)) : Prop := ∀ p ∈ cs, w.cell? p.1 = some p.2 ∧ ¬ F p.1.block
theorem Kept.upd {w w' : World} {F : Nat → Prop} {cs : List (Addr × Value)} (h : Kept w F cs) (u : Upd w w' F) : Kept w' F cs := fun p hp => ⟨u.cell (h p hp).1 (h p hp).2, (h p hp).2⟩
theorem Kept.nn {w w' : World} {F : Nat → Prop} {cs : List (Addr × Value)} (h : Kept w F cs) (u : Upd w w' Nope) : Kept w' F cs := fun p hp => ⟨u.cell (h p hp).1 (fun h => h), (h p hp).2⟩
theorem Kept.add {w : World} {F : Nat → Prop} {cs ds : List (Addr × Value)} (h : Kept w F cs) (k : Kept w F ds) : Kept w F (ds ++ cs) := fun p hp => by
  rcases List.mem_append.1 hp with hp | hp
  · exact k p hp
  · exact h p hp
theorem Kept.blk {w : World} {F : Nat → Prop} {q : Nat} {a b c d : Value} (h : Blk w q #[a, b, c, d] 34) (hq : ¬ F q) : Kept w F [(⟨q, 0, none⟩, a), (⟨q, 1, none⟩, b), (⟨q, 2, none⟩, c), (⟨q, 3, none⟩, d)] := fun p hp => by
  simp only [List.mem_cons, List.not_mem_nil, or_false] at hp
  rcases hp with rfl | rfl | rfl | rfl
  · exact ⟨(h.cell 0).trans rfl, hq⟩
  · exact ⟨(h.cell 1).trans rfl, hq⟩
  · exact ⟨(h.cell 2).trans rfl, hq⟩
  · exact ⟨(h.cell 3).trans rfl, hq⟩
theorem Kept.row {w : World} {F : Nat → Prop} {ad : Addr} {a b c : Int} (h : Rd1 (Value.int .i64) w (some ad) [a, b, c]) (hq : ¬ F ad.block) : Kept w F [(ad, .int .i64 a), (⟨ad.block, ad.off + 1, none⟩, .int .i64 b), (⟨ad.block, ad.off + 2, none⟩, .int .i64 c)] := fun p hp => by
  simp only [List.mem_cons, List.not_mem_nil, or_false] at hp
  have h0 := h.at_ 0 (by simp)
  have h1 := h.at_ 1 (by simp)
  have h2 := h.at_ 2 (by simp)
  simp [Addr.add] at h0 h1 h2
  rcases hp with rfl | rfl | rfl
  · exact ⟨h0, hq⟩
  · exact ⟨h1, hq⟩
  · exact ⟨h2, hq⟩
def e1 : En := ⟨1, ⟨#[120]⟩, 0, 0⟩
def e2 : En := ⟨2, ⟨#[120]⟩, 1, 20⟩
def e3 : En := ⟨3, ⟨#[121]⟩, -9, 20⟩
def e4 : En := ⟨1, ⟨#[122]⟩, 0, 0⟩
def e5 : En := ⟨4, ⟨#[]⟩, 0, 0⟩
def f0 : List (Int × ByteArray) := []
def f1 : List (Int × ByteArray) := [(1, ⟨#[120]⟩)]
def f2 : List (Int × ByteArray) := [(1, ⟨#[120]⟩), (3, ⟨#[121]⟩)]
def f3 : List (Int × ByteArray) := [(3, ⟨#[121]⟩)]
def f4 : List (Int × ByteArray) := [(3, ⟨#[121]⟩), (2, ⟨#[120]⟩)]
def l0 : List En := []
def l1 : List En := [e1]
def l2 : List En := [e1, e2]
def l3 : List En := [e1, e2, e3]
def l4 : List En := [e2, e3]
def l5 : List En := [e2]
theorem p1 : putC 9 l0 f0 e1 = 0 ∧ putL 9 l0 f0 e1 = l1 := ⟨by kernel_rfl, by kernel_rfl⟩
theorem p2 : putC 9 l1 f0 e2 = 0 ∧ putL 9 l1 f0 e2 = l2 := ⟨by kernel_rfl, by kernel_rfl⟩
theorem p3 : putC 9 l2 f0 e3 = 0 ∧ putL 9 l2 f0 e3 = l3 := ⟨by kernel_rfl, by kernel_rfl⟩
theorem p4 : putC 9 l3 f0 e4 = 11 ∧ putL 9 l3 f0 e4 = l3 := ⟨by kernel_rfl, by kernel_rfl⟩
theorem p5 : putC 9 l3 f0 e5 = 1 ∧ putL 9 l3 f0 e5 = l3 := ⟨by kernel_rfl, by kernel_rfl⟩
theorem or1 : (srtK (En.key 20 10) l3).map (·.id) = [1, 2, 3] := by kernel_rfl
theorem t1 : takeR 20 10 1 l3 f0 = some e1 ∧ remL (fun e => e.id == e1.id) l3 = l4 ∧ put e1.id e1.dest f0 = f1 := ⟨by kernel_rfl, by kernel_rfl, by kernel_rfl⟩
theorem t2 : takeR 20 10 1 l4 f1 = some e3 ∧ remL (fun e => e.id == e3.id) l4 = l5 ∧ put e3.id e3.dest f1 = f2 := ⟨by kernel_rfl, by kernel_rfl, by kernel_rfl⟩
theorem t3 : takeR 20 10 1 l5 f2 = none := by kernel_rfl
theorem c1 : cntD ⟨#[120]⟩ f2 = 1 := by kernel_rfl
theorem d1 : (look 1 f2).isSome = true ∧ del 1 f2 = f3 := ⟨by kernel_rfl, by kernel_rfl⟩
theorem d2 : (look 1 f3).isSome = false ∧ del 1 f3 = f3 := ⟨by kernel_rfl, by kernel_rfl⟩
theorem t4 : takeR 20 10 1 l5 f3 = some e2 ∧ remL (fun e => e.id == e2.id) l5 = l0 ∧ put e2.id e2.dest f3 = f4 := ⟨by kernel_rfl, by kernel_rfl, by kernel_rfl⟩
theorem r1 : (l0.any fun e => e.id == 2) = false ∧ remL (fun e => e.id == 2) l0 = l0 := ⟨by kernel_rfl, by kernel_rfl⟩
theorem k1 : e1.rank 95 10 = 9 := by kernel_rfl
theorem okS {x : Int} (h : decide (0 ≤ x ∧ x ≤ 100) = true) : okI x := okI_of (by simp at h; omega) (by simp at h; omega)
set_option maxRecDepth 100000 in
set_option maxHeartbeats 8000000 in
theorem awake_any (w : World) : Calls Try.prog 8 #[] w fun e w' => e = .returned (.bool true) ∧ Upd w w' Nope := by
  go_enter Try.func8, Try.ntmps8
  go_wp2_with fail
  refine (new_any 10 1 9 w).mono ?_
  rintro e w1 ⟨_, hn, u1⟩
  obtain ⟨g, F0, rfl, h1, hf⟩ := hn (by decide)
  clear hn
  have H := Lib.hid (show RO w1 g F0 10 1 9 l0 f0 from h1)
  have HF := Lib.hid hf
  clear h1 hf
  go_wp2_with fail
  refine (new_any 0 1 1 w1).mono ?_
  rintro e w2 ⟨hn, _, u2⟩
  obtain rfl := hn (by decide)
  clear hn
  replace H := Lib.hid (H.out.nn u2)
  have V := Lib.hid (u1.nn u2)
  clear u1 u2
  have HFO := HF
  have HP := Lib.hid (H.out.put_ e1 (okS (by decide)) (by decide) (by decide))
  go_wp2_with fail
  refine HP.out.mono ?_
  rintro e w3 ⟨he, F1, hro, hg⟩
  rw [p1.1] at he
  subst he
  rw [p1.2] at hro
  replace HF := Lib.hid (show ∀ i, F1 i → w.heap.size ≤ i from fun i hi => (hg.new i hi).elim (HF.out i) (fun h => Nat.le_trans V.out.size h))
  replace V := Lib.hid (V.out.trans hg.upd (fun _ _ h => h) (fun i hi h => by
    have := H.out.lt h; exact absurd hi (by have := HFO.out i h; omega)))
  replace H := Lib.hid hro
  clear HP hro hg
  clear HFO
  have HFO := HF
  have HP := Lib.hid (H.out.put_ e2 (okS (by decide)) (by decide) (by decide))
  go_wp2_with fail
  refine HP.out.mono ?_
  rintro e w4 ⟨he, F2, hro, hg⟩
  rw [p2.1] at he
  subst he
  rw [p2.2] at hro
  replace HF := Lib.hid (show ∀ i, F2 i → w.heap.size ≤ i from fun i hi => (hg.new i hi).elim (HF.out i) (fun h => Nat.le_trans V.out.size h))
  replace V := Lib.hid (V.out.trans hg.upd (fun _ _ h => h) (fun i hi h => by
    have := H.out.lt h; exact absurd hi (by have := HFO.out i h; omega)))
  replace H := Lib.hid hro
  clear HP hro hg
  clear HFO
  have HFO := HF
  have HP := Lib.hid (H.out.put_ e3 (okS (by decide)) (by decide) (by decide))
  go_wp2_with fail
  refine HP.out.mono ?_
  rintro e w5 ⟨he, F3, hro, hg⟩
  rw [p3.1] at he
  subst he
  rw [p3.2] at hro
  replace HF := Lib.hid (show ∀ i, F3 i → w.heap.size ≤ i from fun i hi => (hg.new i hi).elim (HF.out i) (fun h => Nat.le_trans V.out.size h))
  replace V := Lib.hid (V.out.trans hg.upd (fun _ _ h => h) (fun i hi h => by
    have := H.out.lt h; exact absurd hi (by have := HFO.out i h; omega)))
  replace H := Lib.hid hro
  clear HP hro hg
  clear HFO
  have HFO := HF
  have HP := Lib.hid (H.out.put_ e4 (okS (by decide)) (by decide) (by decide))
  go_wp2_with fail
  refine HP.out.mono ?_
  rintro e w6 ⟨he, F4, hro, hg⟩
  rw [p4.1] at he
  subst he
  rw [p4.2] at hro
  replace HF := Lib.hid (show ∀ i, F4 i → w.heap.size ≤ i from fun i hi => (hg.new i hi).elim (HF.out i) (fun h => Nat.le_trans V.out.size h))
  replace V := Lib.hid (V.out.trans hg.upd (fun _ _ h => h) (fun i hi h => by
    have := H.out.lt h; exact absurd hi (by have := HFO.out i h; omega)))
  replace H := Lib.hid hro
  clear HP hro hg
  clear HFO
  have HFO := HF
  have HP := Lib.hid (H.out.put_ e5 (okS (by decide)) (by decide) (by decide))
  go_wp2_with fail
  refine HP.out.mono ?_
  rintro e w7 ⟨he, F5, hro, hg⟩
  rw [p5.1] at he
  subst he
  rw [p5.2] at hro
  replace HF := Lib.hid (show ∀ i, F5 i → w.heap.size ≤ i from fun i hi => (hg.new i hi).elim (HF.out i) (fun h => Nat.le_trans V.out.size h))
  replace V := Lib.hid (V.out.trans hg.upd (fun _ _ h => h) (fun i hi h => by
    have := H.out.lt h; exact absurd hi (by have := HFO.out i h; omega)))
  replace H := Lib.hid hro
  clear HP hro hg
  clear HFO
  have HO := Lib.hid (H.out.order_ 20 (by decide) (by decide) (by decide) (by decide) (by decide))
  rw [or1] at HO
  go_wp2_with fail
  refine HO.out.mono ?_
  rintro e w8 ⟨Ao, co, rfl, hrd, u, hAo⟩
  obtain ⟨ado, rfl, _⟩ := hrd 0 (by simp)
  have hK := Kept.row (F := F5) hrd (fun h => by have := H.out.lt h; have := hAo _ rfl; omega)
  have K := Lib.hid hK
  replace V := Lib.hid (V.out.nn u)
  replace H := Lib.hid (H.out.nn u)
  clear HO hrd u hAo hK
  have HT := Lib.hid (H.out.take_ 20 (by decide) (by decide) (by decide) (by decide) (by decide) (by decide))
  go_wp2_with fail
  refine HT.out.mono ?_
  rintro e w9 ⟨hnone, hsome⟩
  obtain ⟨rfl, hro, u⟩ := hsome e1 t1.1
  rw [t1.2.1, t1.2.2] at hro
  clear hnone hsome HT
  replace V := Lib.hid (V.out.trans u (fun _ _ h => h) (fun i hi h => by have := HF.out i h; omega))
  replace K := Lib.hid (K.out.upd u)
  replace H := Lib.hid hro
  clear hro u
  go_upto_region 12 with (fail)
  have hb := Blk.new w9 #[.int .i64 e1.id, .string e1.dest, .int .i64 e1.pri, .int .i64 e1.at_] 34
  have hu := (Upd.refl w9 Nope).alloc (.cells #[.int .i64 e1.id, .string e1.dest, .int .i64 e1.pri, .int .i64 e1.at_] 34)
  have hq : ¬ F5 w9.heap.size := fun h => Nat.lt_irrefl _ (H.out.lt h)
  generalize w9.alloc (.cells #[.int .i64 e1.id, .string e1.dest, .int .i64 e1.pri, .int .i64 e1.at_] 34) = w10 at *
  generalize w9.heap.size = qx at *
  replace V := Lib.hid (V.out.nn hu)
  replace K := Lib.hid ((K.out.nn hu).add (Kept.blk hb hq))
  replace H := Lib.hid (H.out.nn hu)
  clear hb hu hq
  have HT := Lib.hid (H.out.take_ 20 (by decide) (by decide) (by decide) (by decide) (by decide) (by decide))
  go_wp2_with fail
  refine HT.out.mono ?_
  rintro e w11 ⟨hnone, hsome⟩
  obtain ⟨rfl, hro, u⟩ := hsome e3 t2.1
  rw [t2.2.1, t2.2.2] at hro
  clear hnone hsome HT
  replace V := Lib.hid (V.out.trans u (fun _ _ h => h) (fun i hi h => by have := HF.out i h; omega))
  replace K := Lib.hid (K.out.upd u)
  replace H := Lib.hid hro
  clear hro u
  go_upto_region 13 with (fail)
  have hb := Blk.new w11 #[.int .i64 e3.id, .string e3.dest, .int .i64 e3.pri, .int .i64 e3.at_] 34
  have hu := (Upd.refl w11 Nope).alloc (.cells #[.int .i64 e3.id, .string e3.dest, .int .i64 e3.pri, .int .i64 e3.at_] 34)
  have hq : ¬ F5 w11.heap.size := fun h => Nat.lt_irrefl _ (H.out.lt h)
  generalize w11.alloc (.cells #[.int .i64 e3.id, .string e3.dest, .int .i64 e3.pri, .int .i64 e3.at_] 34) = w12 at *
  generalize w11.heap.size = qy at *
  replace V := Lib.hid (V.out.nn hu)
  replace K := Lib.hid ((K.out.nn hu).add (Kept.blk hb hq))
  replace H := Lib.hid (H.out.nn hu)
  clear hb hu hq
  have HT := Lib.hid (H.out.take_ 20 (by decide) (by decide) (by decide) (by decide) (by decide) (by decide))
  go_wp2_with fail
  refine HT.out.mono ?_
  rintro e w13 ⟨hnone, hsome⟩
  obtain ⟨rfl, u⟩ := hnone t3
  clear hnone hsome HT
  replace V := Lib.hid (V.out.nn u)
  replace K := Lib.hid (K.out.nn u)
  replace H := Lib.hid (H.out.nn u)
  clear u
  go_upto_region 14 with (fail)
  have hb := Blk.new w13 #[.int .i64 0, .string ⟨#[]⟩, .int .i64 0, .int .i64 0] 34
  have hu := (Upd.refl w13 Nope).alloc (.cells #[.int .i64 0, .string ⟨#[]⟩, .int .i64 0, .int .i64 0] 34)
  have hq : ¬ F5 w13.heap.size := fun h => Nat.lt_irrefl _ (H.out.lt h)
  generalize w13.alloc (.cells #[.int .i64 0, .string ⟨#[]⟩, .int .i64 0, .int .i64 0] 34) = w14 at *
  generalize w13.heap.size = qn at *
  replace V := Lib.hid (V.out.nn hu)
  replace K := Lib.hid ((K.out.nn hu).add (Kept.blk hb hq))
  replace H := Lib.hid (H.out.nn hu)
  clear hb hu hq
  have HY := Lib.hid (H.out.flying_ ⟨#[120]⟩ (by decide))
  rw [c1] at HY
  go_wp2_with fail
  refine HY.out.mono ?_
  rintro e w15 ⟨rfl, u⟩
  replace V := Lib.hid (V.out.nn u)
  replace K := Lib.hid (K.out.nn u)
  replace H := Lib.hid (H.out.nn u)
  clear HY u
  have HD := Lib.hid (H.out.done_ 1 (okS (by decide)))
  rw [d1.1, d1.2] at HD
  go_wp2_with fail
  refine HD.out.mono ?_
  rintro e w16 ⟨rfl, hro, u⟩
  replace V := Lib.hid (V.out.trans u (fun _ _ h => h) (fun i hi h => by have := HF.out i h; omega))
  replace K := Lib.hid (K.out.upd u)
  replace H := Lib.hid hro
  clear HD hro u
  have HD := Lib.hid (H.out.done_ 1 (okS (by decide)))
  rw [d2.1, d2.2] at HD
  go_wp2_with fail
  refine HD.out.mono ?_
  rintro e w17 ⟨rfl, hro, u⟩
  replace V := Lib.hid (V.out.trans u (fun _ _ h => h) (fun i hi h => by have := HF.out i h; omega))
  replace K := Lib.hid (K.out.upd u)
  replace H := Lib.hid hro
  clear HD hro u
  have HT := Lib.hid (H.out.take_ 20 (by decide) (by decide) (by decide) (by decide) (by decide) (by decide))
  go_wp2_with fail
  refine HT.out.mono ?_
  rintro e w18 ⟨hnone, hsome⟩
  obtain ⟨rfl, hro, u⟩ := hsome e2 t4.1
  rw [t4.2.1, t4.2.2] at hro
  clear hnone hsome HT
  replace V := Lib.hid (V.out.trans u (fun _ _ h => h) (fun i hi h => by have := HF.out i h; omega))
  replace K := Lib.hid (K.out.upd u)
  replace H := Lib.hid hro
  clear hro u
  go_upto_region 17 with (fail)
  have hb := Blk.new w18 #[.int .i64 e2.id, .string e2.dest, .int .i64 e2.pri, .int .i64 e2.at_] 34
  have hu := (Upd.refl w18 Nope).alloc (.cells #[.int .i64 e2.id, .string e2.dest, .int .i64 e2.pri, .int .i64 e2.at_] 34)
  have hq : ¬ F5 w18.heap.size := fun h => Nat.lt_irrefl _ (H.out.lt h)
  generalize w18.alloc (.cells #[.int .i64 e2.id, .string e2.dest, .int .i64 e2.pri, .int .i64 e2.at_] 34) = w19 at *
  generalize w18.heap.size = qz at *
  replace V := Lib.hid (V.out.nn hu)
  replace K := Lib.hid ((K.out.nn hu).add (Kept.blk hb hq))
  replace H := Lib.hid (H.out.nn hu)
  clear hb hu hq
  have x1 := (K.out (⟨qz, 0, none⟩, .int .i64 e2.id) (by simp)).1
  have x2 := (K.out (⟨qy, 0, none⟩, .int .i64 e3.id) (by simp)).1
  have x3 := (K.out (⟨qx, 0, none⟩, .int .i64 e1.id) (by simp)).1
  have x4 := (K.out (ado, .int .i64 1) (by simp)).1
  have x5 := (K.out (⟨ado.block, ado.off + 1, none⟩, .int .i64 2) (by simp)).1
  have x6 := (K.out (⟨ado.block, ado.off + 2, none⟩, .int .i64 3) (by simp)).1
  simp only [] at x1 x2 x3 x4 x5 x6
  have HL := Lib.hid (H.out.len_ (by decide))
  have y1 : e1.id = 1 := rfl
  have y2 : e2.id = 2 := rfl
  have y3 : e3.id = 3 := rfl
  go_wp2_with fail
  refine HL.out.mono ?_
  rintro e w20 ⟨rfl, hw⟩
  obtain rfl : w19 = w20 := hw.symm
  have y4 : (l0.length : Int) = 0 := rfl
  have HM := Lib.hid (H.out.remove_ 2 (by decide))
  rw [r1.1, r1.2] at HM
  clear x1 x2 x3 x4 x5 x6
  go_wp2_with fail
  refine HM.out.mono ?_
  rintro e w21 ⟨rfl, hro, u⟩
  replace V := Lib.hid (V.out.trans u (fun _ _ h => h) (fun i hi h => by have := HF.out i h; omega))
  replace K := Lib.hid (K.out.upd u)
  have x1 := (K.out (⟨qx, 0, none⟩, .int .i64 e1.id) (by simp)).1
  have x2 := (K.out (⟨qx, 1, none⟩, .string e1.dest) (by simp)).1
  have x3 := (K.out (⟨qx, 2, none⟩, .int .i64 e1.pri) (by simp)).1
  have x4 := (K.out (⟨qx, 3, none⟩, .int .i64 e1.at_) (by simp)).1
  simp only [] at x1 x2 x3 x4
  have HK := Lib.hid (rank_ok e1 ⟨by decide, by decide, by decide, by decide, by decide, by decide, by decide⟩ 95 10 (by decide) (by decide) (by decide) (by decide) w21)
  rw [k1] at HK
  clear hro u y1
  go_wp2_with fail
  refine HK.out.mono ?_
  rintro e w22 ⟨rfl, u⟩
  go_wp2_with fail
  go_ret
  exact ⟨rfl, V.out.nn u⟩
end Go.Proofs.Ythpilbooolgkiaa
