/- awake answers true. -/
import Derived.Test.YthfmjiafdfoajaaDoorPar
import Derived.Test.YthfmjiafdfoajaaDoorJoi
set_option linter.unusedVariables false
set_option linter.unusedSimpArgs false
namespace Go.Proofs.YthfmjiafdfoajaaDoor
open Go.RowKit Go.Shelf

theorem pa0 : parseL [60, 34, 97, 32, 98, 34, 64, 67, 46, 100, 62, 32, 120] = ⟨[97, 32, 98], [99, 46, 100], [32, 120], 0⟩ := by kernel_rfl
theorem pa0_any (w : World) : Calls Tryd.prog 11 #[.string ⟨#[60, 34, 97, 32, 98, 34, 64, 67, 46, 100, 62, 32, 120]⟩] w fun e w' => e = .returned (.tuple #[.agg #[.string ⟨#[97, 32, 98]⟩, .string ⟨#[99, 46, 100]⟩], .string ⟨#[32, 120]⟩, .int .i64 0]) ∧ Below w.heap.size w w' := by
  have h := parse_any ⟨#[60, 34, 97, 32, 98, 34, 64, 67, 46, 100, 62, 32, 120]⟩ w (by decide)
  rw [show (⟨#[60, 34, 97, 32, 98, 34, 64, 67, 46, 100, 62, 32, 120]⟩ : ByteArray).data.toList = [60, 34, 97, 32, 98, 34, 64, 67, 46, 100, 62, 32, 120] from rfl, pa0] at h
  exact h
theorem pa1 : parseL [60, 97, 46, 34, 98, 64, 99, 62] = ⟨[], [], [], 2⟩ := by kernel_rfl
theorem pa1_any (w : World) : Calls Tryd.prog 11 #[.string ⟨#[60, 97, 46, 34, 98, 64, 99, 62]⟩] w fun e w' => e = .returned (.tuple #[.agg #[.string ⟨#[]⟩, .string ⟨#[]⟩], .string ⟨#[]⟩, .int .i64 2]) ∧ Below w.heap.size w w' := by
  have h := parse_any ⟨#[60, 97, 46, 34, 98, 64, 99, 62]⟩ w (by decide)
  rw [show (⟨#[60, 97, 46, 34, 98, 64, 99, 62]⟩ : ByteArray).data.toList = [60, 97, 46, 34, 98, 64, 99, 62] from rfl, pa1] at h
  exact h
theorem pa2 : parseL [60, 62] = ⟨[], [], [], 0⟩ := by kernel_rfl
theorem pa2_any (w : World) : Calls Tryd.prog 11 #[.string ⟨#[60, 62]⟩] w fun e w' => e = .returned (.tuple #[.agg #[.string ⟨#[]⟩, .string ⟨#[]⟩], .string ⟨#[]⟩, .int .i64 0]) ∧ Below w.heap.size w w' := by
  have h := parse_any ⟨#[60, 62]⟩ w (by decide)
  rw [show (⟨#[60, 62]⟩ : ByteArray).data.toList = [60, 62] from rfl, pa2] at h
  exact h
theorem pa3 : parseL [60, 80, 111, 115, 116, 77, 97, 115, 116, 101, 114, 62] = ⟨[112, 111, 115, 116, 109, 97, 115, 116, 101, 114], [], [], 0⟩ := by kernel_rfl
theorem pa3_any (w : World) : Calls Tryd.prog 11 #[.string ⟨#[60, 80, 111, 115, 116, 77, 97, 115, 116, 101, 114, 62]⟩] w fun e w' => e = .returned (.tuple #[.agg #[.string ⟨#[112, 111, 115, 116, 109, 97, 115, 116, 101, 114]⟩, .string ⟨#[]⟩], .string ⟨#[]⟩, .int .i64 0]) ∧ Below w.heap.size w w' := by
  have h := parse_any ⟨#[60, 80, 111, 115, 116, 77, 97, 115, 116, 101, 114, 62]⟩ w (by decide)
  rw [show (⟨#[60, 80, 111, 115, 116, 77, 97, 115, 116, 101, 114, 62]⟩ : ByteArray).data.toList = [60, 80, 111, 115, 116, 77, 97, 115, 116, 101, 114, 62] from rfl, pa3] at h
  exact h
theorem pr0 : printL ⟨#[97, 32, 98]⟩ ⟨#[99, 46, 100]⟩ = [60, 34, 97, 32, 98, 34, 64, 99, 46, 100, 62] := by rw [printL_eq]; kernel_rfl
theorem ri0 : rightN ⟨#[97, 32, 98]⟩ ⟨#[99, 46, 100]⟩ = 0 := by rw [rightN_eq]; kernel_rfl
theorem ri1 : rightN ⟨#[97]⟩ ⟨#[]⟩ = 2 := by rw [rightN_eq]; kernel_rfl
theorem pr0_any (w : World) : Calls Tryd.prog 9 #[.agg #[.string ⟨#[97, 32, 98]⟩, .string ⟨#[99, 46, 100]⟩]] w fun e w' => e = .returned (.tuple #[.string ⟨#[60, 34, 97, 32, 98, 34, 64, 99, 46, 100, 62]⟩, .int .i64 0]) ∧ Below w.heap.size w w' := by
  have h := print_any ⟨#[97, 32, 98]⟩ ⟨#[99, 46, 100]⟩ w (by decide) (by decide)
  unfold printR at h
  rw [ri0, pr0] at h
  exact h
theorem ri1_any (w : World) : Calls Tryd.prog 15 #[.agg #[.string ⟨#[97]⟩, .string ⟨#[]⟩]] w fun e w' => e = .returned (.int .i64 2) ∧ Below w.heap.size w w' := by
  have h := right_any ⟨#[97]⟩ ⟨#[]⟩ w (by decide) (by decide)
  rw [ri1] at h
  exact h
theorem do0 : domL [88, 45, 49, 46, 121] = ([120, 45, 49, 46, 121], 0) := by kernel_rfl
theorem do0_any (w : World) : Calls Tryd.prog 13 #[.string ⟨#[88, 45, 49, 46, 121]⟩] w fun e w' => e = .returned (.tuple #[.string ⟨#[120, 45, 49, 46, 121]⟩, .int .i64 0]) ∧ Below w.heap.size w w' := by
  have h := dom_any ⟨#[88, 45, 49, 46, 121]⟩ w (by decide)
  rw [show (⟨#[88, 45, 49, 46, 121]⟩ : ByteArray).data.toList = [88, 45, 49, 46, 121] from rfl, do0] at h
  exact h
theorem ri2 : rightN ⟨#[97]⟩ ⟨#[98]⟩ = 0 := by rw [rightN_eq]; kernel_rfl
theorem ri3 : rightN ⟨#[]⟩ ⟨#[]⟩ = 0 := by rw [rightN_eq]; kernel_rfl
theorem pr2 : printL ⟨#[97]⟩ ⟨#[98]⟩ = [60, 97, 64, 98, 62] := by rw [printL_eq]; kernel_rfl
theorem pr3 : printL ⟨#[]⟩ ⟨#[]⟩ = [60, 62] := by rw [printL_eq]; kernel_rfl
theorem jo0_any (w : World) (g : Nat) (hb : Blk w g #[.string ⟨#[97]⟩, .string ⟨#[98]⟩, .string ⟨#[]⟩, .string ⟨#[]⟩] 23) : Calls Tryd.prog 18 #[.slice (some ⟨g, 0, none⟩) 2 2] w fun e w' => e = .returned (.tuple #[.string ⟨#[60, 97, 64, 98, 62, 32, 60, 62]⟩, .int .i64 0]) ∧ Below w.heap.size w w' := by
  have hr : RdS 2 Pc w (some ⟨g, 0, none⟩) [(⟨#[97]⟩, ⟨#[98]⟩), (⟨#[]⟩, ⟨#[]⟩)] := by
    intro i hi
    refine ⟨_, rfl, ?_⟩
    have hi2 : i = 0 ∨ i = 1 := by simp at hi; omega
    intro j v hv
    have hj : j < 2 := by
      have := (List.getElem?_eq_some_iff.1 hv).1
      rcases hi2 with rfl | rfl <;> simpa [Pc] using this
    have hj2 : j = 0 ∨ j = 1 := by omega
    rw [show (⟨g, 0, none⟩ : Addr).add (i * 2 + j) = ⟨g, i * 2 + j, none⟩ by simp [Addr.add]; omega, hb.cell]
    rcases hi2 with rfl | rfl <;> rcases hj2 with rfl | rfl <;> exact hv
  have h := join_any w (some ⟨g, 0, none⟩) 2 [(⟨#[97]⟩, ⟨#[98]⟩), (⟨#[]⟩, ⟨#[]⟩)] hr (by decide) (by decide)
  have e1 : joinE [((⟨#[97]⟩ : ByteArray), (⟨#[98]⟩ : ByteArray)), (⟨#[]⟩, ⟨#[]⟩)] = 0 := joinE_ok (by
    intro q hq
    rcases List.mem_cons.1 hq with rfl | hq
    · exact ri2
    · rw [List.mem_singleton.1 hq]; exact ri3)
  have e2 : joinT [((⟨#[97]⟩ : ByteArray), (⟨#[98]⟩ : ByteArray)), (⟨#[]⟩, ⟨#[]⟩)] = [60, 97, 64, 98, 62, 32, 60, 62] := by
    unfold joinT
    rw [List.map_cons, List.map_cons, List.map_nil, show prT ((⟨#[97]⟩ : ByteArray), (⟨#[98]⟩ : ByteArray)) = _ from pr2, show prT ((⟨#[]⟩ : ByteArray), (⟨#[]⟩ : ByteArray)) = _ from pr3]
    decide +kernel
  unfold joinV at h
  rw [e1, e2, if_pos rfl] at h
  exact h
theorem nu0_any (w : World) : Calls Tryd.prog 17 #[.agg #[.string ⟨#[]⟩, .string ⟨#[]⟩]] w fun e w' => e = .returned (.bool true) ∧ Below w.heap.size w w' := by
  have h := null_any ⟨#[]⟩ ⟨#[]⟩ w
  rw [show ((⟨#[]⟩ : ByteArray).toList.isEmpty && (⟨#[]⟩ : ByteArray).toList.isEmpty) = true by decide +kernel] at h
  exact h
set_option maxRecDepth 100000 in
set_option maxHeartbeats 8000000 in
theorem awake_any (w : World) : Calls Tryd.prog 8 #[] w fun e w' => e = .returned (.bool true) ∧ Below w.heap.size w w' := by
  go_enter Tryd.func8, Tryd.ntmps8
  go_wp2_with fail
  have hu : Upd w w Nope := Upd.refl _ _
  refine (pa0_any w).mono ?_
  rintro e wN ⟨rfl, hbN⟩
  have hlw := hu.size
  replace hu := hu.nn (Upd.of_below hbN Nope)
  clear hbN hlw
  go_wp2_with fail
  have k1 := Blk.new wN #[.string ⟨#[97, 32, 98]⟩, .string ⟨#[99, 46, 100]⟩] 23
  replace hu := hu.alloc (.cells #[.string ⟨#[97, 32, 98]⟩, .string ⟨#[99, 46, 100]⟩] 23)
  obtain ⟨gk1, hgk1⟩ : ∃ g, wN.heap.size = g := ⟨_, rfl⟩
  rw [hgk1] at k1
  try rw [hgk1]
  generalize wN.alloc (.cells #[.string ⟨#[97, 32, 98]⟩, .string ⟨#[99, 46, 100]⟩] 23) = wC at hu k1 ⊢
  clear hgk1
  refine (pr0_any wC).mono ?_
  rintro e wN ⟨rfl, hbN⟩
  have hlw := hu.size
  replace hu := hu.nn (Upd.of_below hbN Nope)
  replace k1 := k1.upd (Upd.of_below hbN Nope) id
  clear hbN hlw
  go_wp2_with fail
  refine (pa1_any wN).mono ?_
  rintro e wN ⟨rfl, hbN⟩
  have hlw := hu.size
  replace hu := hu.nn (Upd.of_below hbN Nope)
  replace k1 := k1.upd (Upd.of_below hbN Nope) id
  clear hbN hlw
  go_wp2_with fail
  have k2 := Blk.new wN #[.string ⟨#[]⟩, .string ⟨#[]⟩] 23
  replace hu := hu.alloc (.cells #[.string ⟨#[]⟩, .string ⟨#[]⟩] 23)
  replace k1 := k1.alloc (.cells #[.string ⟨#[]⟩, .string ⟨#[]⟩] 23)
  obtain ⟨gk2, hgk2⟩ : ∃ g, wN.heap.size = g := ⟨_, rfl⟩
  rw [hgk2] at k2
  try rw [hgk2]
  generalize wN.alloc (.cells #[.string ⟨#[]⟩, .string ⟨#[]⟩] 23) = wC at hu k1 k2 ⊢
  clear hgk2
  refine (pa2_any wC).mono ?_
  rintro e wN ⟨rfl, hbN⟩
  have hlw := hu.size
  replace hu := hu.nn (Upd.of_below hbN Nope)
  replace k1 := k1.upd (Upd.of_below hbN Nope) id
  replace k2 := k2.upd (Upd.of_below hbN Nope) id
  clear hbN hlw
  go_wp2_with fail
  have k3 := Blk.new wN #[.string ⟨#[]⟩, .string ⟨#[]⟩] 23
  replace hu := hu.alloc (.cells #[.string ⟨#[]⟩, .string ⟨#[]⟩] 23)
  replace k1 := k1.alloc (.cells #[.string ⟨#[]⟩, .string ⟨#[]⟩] 23)
  replace k2 := k2.alloc (.cells #[.string ⟨#[]⟩, .string ⟨#[]⟩] 23)
  obtain ⟨gk3, hgk3⟩ : ∃ g, wN.heap.size = g := ⟨_, rfl⟩
  rw [hgk3] at k3
  try rw [hgk3]
  generalize wN.alloc (.cells #[.string ⟨#[]⟩, .string ⟨#[]⟩] 23) = wC at hu k1 k2 k3 ⊢
  clear hgk3
  refine (pa3_any wC).mono ?_
  rintro e wN ⟨rfl, hbN⟩
  have hlw := hu.size
  replace hu := hu.nn (Upd.of_below hbN Nope)
  replace k1 := k1.upd (Upd.of_below hbN Nope) id
  replace k2 := k2.upd (Upd.of_below hbN Nope) id
  replace k3 := k3.upd (Upd.of_below hbN Nope) id
  clear hbN hlw
  go_wp2_with fail
  have k4 := Blk.new wN #[.string ⟨#[112, 111, 115, 116, 109, 97, 115, 116, 101, 114]⟩, .string ⟨#[]⟩] 23
  replace hu := hu.alloc (.cells #[.string ⟨#[112, 111, 115, 116, 109, 97, 115, 116, 101, 114]⟩, .string ⟨#[]⟩] 23)
  replace k1 := k1.alloc (.cells #[.string ⟨#[112, 111, 115, 116, 109, 97, 115, 116, 101, 114]⟩, .string ⟨#[]⟩] 23)
  replace k2 := k2.alloc (.cells #[.string ⟨#[112, 111, 115, 116, 109, 97, 115, 116, 101, 114]⟩, .string ⟨#[]⟩] 23)
  replace k3 := k3.alloc (.cells #[.string ⟨#[112, 111, 115, 116, 109, 97, 115, 116, 101, 114]⟩, .string ⟨#[]⟩] 23)
  obtain ⟨gk4, hgk4⟩ : ∃ g, wN.heap.size = g := ⟨_, rfl⟩
  rw [hgk4] at k4
  try rw [hgk4]
  generalize wN.alloc (.cells #[.string ⟨#[112, 111, 115, 116, 109, 97, 115, 116, 101, 114]⟩, .string ⟨#[]⟩] 23) = wC at hu k1 k2 k3 k4 ⊢
  clear hgk4
  refine (do0_any wC).mono ?_
  rintro e wN ⟨rfl, hbN⟩
  have hlw := hu.size
  replace hu := hu.nn (Upd.of_below hbN Nope)
  replace k1 := k1.upd (Upd.of_below hbN Nope) id
  replace k2 := k2.upd (Upd.of_below hbN Nope) id
  replace k3 := k3.upd (Upd.of_below hbN Nope) id
  replace k4 := k4.upd (Upd.of_below hbN Nope) id
  clear hbN hlw
  go_wp2_with fail
  have k5 := Blk.new wN #[.string ⟨#[97]⟩, .string ⟨#[98]⟩, .string ⟨#[]⟩, .string ⟨#[]⟩] 23
  replace hu := hu.alloc (.cells #[.string ⟨#[97]⟩, .string ⟨#[98]⟩, .string ⟨#[]⟩, .string ⟨#[]⟩] 23)
  replace k1 := k1.alloc (.cells #[.string ⟨#[97]⟩, .string ⟨#[98]⟩, .string ⟨#[]⟩, .string ⟨#[]⟩] 23)
  replace k2 := k2.alloc (.cells #[.string ⟨#[97]⟩, .string ⟨#[98]⟩, .string ⟨#[]⟩, .string ⟨#[]⟩] 23)
  replace k3 := k3.alloc (.cells #[.string ⟨#[97]⟩, .string ⟨#[98]⟩, .string ⟨#[]⟩, .string ⟨#[]⟩] 23)
  replace k4 := k4.alloc (.cells #[.string ⟨#[97]⟩, .string ⟨#[98]⟩, .string ⟨#[]⟩, .string ⟨#[]⟩] 23)
  obtain ⟨gk5, hgk5⟩ : ∃ g, wN.heap.size = g := ⟨_, rfl⟩
  rw [hgk5] at k5
  try rw [hgk5]
  generalize wN.alloc (.cells #[.string ⟨#[97]⟩, .string ⟨#[98]⟩, .string ⟨#[]⟩, .string ⟨#[]⟩] 23) = wC at hu k1 k2 k3 k4 k5 ⊢
  clear hgk5
  refine (jo0_any wC gk5 k5).mono ?_
  rintro e wN ⟨rfl, hbN⟩
  have hlw := hu.size
  replace hu := hu.nn (Upd.of_below hbN Nope)
  replace k1 := k1.upd (Upd.of_below hbN Nope) id
  replace k2 := k2.upd (Upd.of_below hbN Nope) id
  replace k3 := k3.upd (Upd.of_below hbN Nope) id
  replace k4 := k4.upd (Upd.of_below hbN Nope) id
  replace k5 := k5.upd (Upd.of_below hbN Nope) id
  clear hbN hlw
  have a0 := k1.cell 0
  have a1 := k1.cell 1
  have b0 := k3.cell 0
  have b1 := k3.cell 1
  have d0 := k4.cell 0
  have d1 := k4.cell 1
  simp only [List.getElem?_toArray, List.getElem?_cons_zero, List.getElem?_cons_succ] at a0 a1 b0 b1 d0 d1
  clear k1 k2 k3 k4 k5
  go_wp2_with fail
  refine (nu0_any _).mono ?_
  rintro e wM ⟨rfl, hbM⟩
  replace d0 := (Upd.of_below hbM Nope).cell d0 id
  replace d1 := (Upd.of_below hbM Nope).cell d1 id
  replace hu := hu.nn (Upd.of_below hbM Nope)
  clear a0 a1 b0 b1 hbM
  go_wp2_with fail
  refine (ri1_any _).mono ?_
  rintro e wL ⟨rfl, hbL⟩
  replace hu := hu.nn (Upd.of_below hbL Nope)
  go_wp2_with fail
  go_ret
  exact ⟨rfl, hu.below (fun _ h => h.elim)⟩
end Go.Proofs.YthfmjiafdfoajaaDoor
