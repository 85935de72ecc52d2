/- PathTells: its walk. -/
import Derived.Test.YthfmjiafdfoajaaDoorRf9
import Derived.Test.YthfmjiafdfoajaaDoorOpn
set_option linter.unusedVariables false
set_option linter.unusedSimpArgs false
namespace Go.Proofs.YthfmjiafdfoajaaDoor
open Go.RowKit Go.Shelf

theorem below_upd {P : Program} {f : FuncId} {args : Array Value} {w : World} {v : Value} (h : Calls P f args w fun e w' => e = .returned v ∧ Below w.heap.size w w') : Calls P f args w fun e w' => e = .returned v ∧ Upd w w' Nope :=
  h.mono fun _ _ ⟨a, b⟩ => ⟨a, Upd.of_below b _⟩
set_option maxRecDepth 100000 in
set_option maxHeartbeats 16000000 in
theorem tells_big (w : World) (p1 p2 s d : ByteArray) (hbig : 500 < p1.size ∨ 500 < p2.size ∨ 1500 < s.size ∨ 600 < d.size) :
    Calls Tryd.prog 3 #[.agg #[.string p1, .string p2], .string s, .string d] w fun e w' => e = .returned (.bool true) ∧ Below w.heap.size w w' := by
  have kp : Blk (w.alloc (.cells #[.string p1, .string p2] 23)) w.heap.size #[.string p1, .string p2] 23 := Blk.new _ _ _
  have hu : Upd w (w.alloc (.cells #[.string p1, .string p2] 23)) Nope := (Upd.refl w _).alloc _
  go_enter Tryd.func3, Tryd.ntmps3
  go_wp2_with fail
  generalize w.alloc (.cells #[.string p1, .string p2] 23) = wC at kp hu ⊢
  refine (awake_any _).mono ?_
  rintro e wN ⟨rfl, hbN⟩
  replace kp := kp.upd (Upd.of_below hbN Nope) id
  replace hu := hu.nn (Upd.of_below hbN Nope)
  clear hbN
  have kp0 := kp.cell 0
  have kp1 := kp.cell 1
  simp only [List.getElem?_toArray, List.getElem?_cons_zero, List.getElem?_cons_succ] at kp0 kp1
  have hbf := hu.below (fun _ h => h.elim)
  rcases (show 500 < p1.size ∨ (p1.size ≤ 500 ∧ 500 < p2.size) ∨ (p1.size ≤ 500 ∧ p2.size ≤ 500 ∧ 1500 < s.size) ∨ (p1.size ≤ 500 ∧ p2.size ≤ 500 ∧ s.size ≤ 1500 ∧ 600 < d.size) by omega) with x | ⟨x1, x⟩ | ⟨x1, x2, x⟩ | ⟨x1, x2, x3, x⟩
  all_goals
    clear hbig
    go_wp2_with fail
    go_ret
    exact ⟨rfl, hbf⟩

set_option maxRecDepth 100000 in
set_option maxHeartbeats 16000000 in
theorem tells_small (w : World) (p1 p2 s d : ByteArray) (h1 : p1.size ≤ 500) (h2 : p2.size ≤ 500) (h3 : s.size ≤ 1500) (h4 : d.size ≤ 600) :
    Calls Tryd.prog 3 #[.agg #[.string p1, .string p2], .string s, .string d] w fun e w' => e = .returned (.bool true) ∧ Below w.heap.size w w' := by
  have kp : Blk (w.alloc (.cells #[.string p1, .string p2] 23)) w.heap.size #[.string p1, .string p2] 23 := Blk.new _ _ _
  have hu : Upd w (w.alloc (.cells #[.string p1, .string p2] 23)) Nope := (Upd.refl w _).alloc _
  obtain ⟨A, E, HP⟩ := print_c p1 p2 (by omega) (by omega)
  have hRP := fun W => rprint_any p1 p2 (by omega) (by omega) W
  rw [← HP.eq] at hRP
  have hRP2 : ∀ W, Calls Tryd.prog 10 #[.agg #[.string p1, .string p2]] W fun e w' => e = .returned (.tuple #[.string A, .int .i64 E]) ∧ Upd W w' Nope := by
    intro W
    refine (hRP W).mono ?_
    rintro e w' ⟨rfl, hu⟩
    refine ⟨?_, hu⟩
    split
    · rename_i hE
      have hA : bs (printT p1.data.toList p2.data.toList) = A := bytes_eq (HP.ok hE).symm
      rw [hA, hE]
      rfl
    · rename_i hE
      rw [HP.no hE]
  have HRP := Lib.hid hRP2
  have hRR := fun W => rright_any p1 p2 (by omega) (by omega) W
  rw [← HP.eq] at hRR
  have HRR := Lib.hid hRR
  have HPC := Lib.hid HP.call
  have HPR := Lib.hid HP.right
  obtain ⟨x1, x2, rest, ee, HX⟩ := parse_c s (by omega)
  have hRX := fun W => rparse_any s (by omega) W
  rw [HX.eq] at hRX
  unfold prV at hRX
  simp only [bs_of] at hRX
  have HRX := Lib.hid hRX
  have HXC := Lib.hid HX.call
  have hDC := fun W => dom_any d W (by omega)
  have hRD := fun W => rdomain_any d (by omega) W
  obtain ⟨dd, hdd⟩ : ∃ x, bs (domL d.data.toList).1 = x := ⟨_, rfl⟩
  rw [hdd] at hDC hRD
  generalize (domL d.data.toList).2 = de at hDC hRD
  have HDC := Lib.hid hDC
  have HRD := Lib.hid hRD
  have HN := Lib.hid (fun W => null_any p1 p2 W)
  clear hRP hRP2 hRR hRX hDC hRD hdd HP HX
  go_enter Tryd.func3, Tryd.ntmps3
  go_wp2_with fail
  generalize w.alloc (.cells #[.string p1, .string p2] 23) = wC at kp hu ⊢
  refine (awake_any _).mono ?_
  rintro e wN ⟨rfl, hbN⟩
  replace kp := kp.upd (Upd.of_below hbN Nope) id
  replace hu := hu.nn (Upd.of_below hbN Nope)
  clear hbN
  have kp0 := kp.cell 0
  have kp1 := kp.cell 1
  have kpl := kp.lt
  simp only [List.getElem?_toArray, List.getElem?_cons_zero, List.getElem?_cons_succ] at kp0 kp1

  go_wp2_with fail
  clear kp0 kp1 kpl

  have kx := Blk.new wN #[.string p1, .string p2] 25
  replace hu := hu.alloc (.cells #[.string p1, .string p2] 25)
  replace kp := kp.alloc (.cells #[.string p1, .string p2] 25)
  obtain ⟨gkx, hgkx⟩ : ∃ g, wN.heap.size = g := ⟨_, rfl⟩
  rw [hgkx] at kx
  try rw [hgkx]
  generalize wN.alloc (.cells #[.string p1, .string p2] 25) = wN at hu kp kx ⊢
  clear hgkx

  refine (HPC.out _).mono ?_
  rintro e wN ⟨rfl, hbN⟩
  replace kp := kp.upd (Upd.of_below hbN Nope) id
  replace kx := kx.upd (Upd.of_below hbN Nope) id
  replace hu := hu.nn (Upd.of_below hbN Nope)
  clear hbN
  have kp0 := kp.cell 0
  have kp1 := kp.cell 1
  have kpl := kp.lt
  have kx0 := kx.cell 0
  have kx1 := kx.cell 1
  have kxl := kx.lt
  simp only [List.getElem?_toArray, List.getElem?_cons_zero, List.getElem?_cons_succ] at kp0 kp1 kx0 kx1

  go_wp2_with fail
  clear kp0 kp1 kpl kx0 kx1 kxl

  refine (HRP.out _).mono ?_
  rintro e wN ⟨rfl, hbN⟩
  replace kp := kp.upd hbN id
  replace kx := kx.upd hbN id
  replace hu := hu.nn hbN
  clear hbN
  go_wp2_with fail
  refine (HXC.out _).mono ?_
  rintro e wN ⟨rfl, hbN⟩
  replace kp := kp.upd (Upd.of_below hbN Nope) id
  replace kx := kx.upd (Upd.of_below hbN Nope) id
  replace hu := hu.nn (Upd.of_below hbN Nope)
  clear hbN
  go_wp2_with fail
  have kq := Blk.new wN #[.string x1, .string x2] 23
  replace hu := hu.alloc (.cells #[.string x1, .string x2] 23)
  replace kp := kp.alloc (.cells #[.string x1, .string x2] 23)
  replace kx := kx.alloc (.cells #[.string x1, .string x2] 23)
  obtain ⟨gkq, hgkq⟩ : ∃ g, wN.heap.size = g := ⟨_, rfl⟩
  rw [hgkq] at kq
  try rw [hgkq]
  generalize wN.alloc (.cells #[.string x1, .string x2] 23) = wN at hu kp kx kq ⊢
  clear hgkq

  refine (HRX.out _).mono ?_
  rintro e wN ⟨rfl, hbN⟩
  replace kp := kp.upd hbN id
  replace kx := kx.upd hbN id
  replace kq := kq.upd hbN id
  replace hu := hu.nn hbN
  clear hbN
  go_wp2_with fail
  have ky := Blk.new wN #[.string x1, .string x2] 25
  replace hu := hu.alloc (.cells #[.string x1, .string x2] 25)
  replace kp := kp.alloc (.cells #[.string x1, .string x2] 25)
  replace kx := kx.alloc (.cells #[.string x1, .string x2] 25)
  replace kq := kq.alloc (.cells #[.string x1, .string x2] 25)
  obtain ⟨gky, hgky⟩ : ∃ g, wN.heap.size = g := ⟨_, rfl⟩
  rw [hgky] at ky
  try rw [hgky]
  generalize wN.alloc (.cells #[.string x1, .string x2] 25) = wN at hu kp kx kq ky ⊢
  clear hgky

  refine (HDC.out _).mono ?_
  rintro e wN ⟨rfl, hbN⟩
  replace kp := kp.upd (Upd.of_below hbN Nope) id
  replace kx := kx.upd (Upd.of_below hbN Nope) id
  replace kq := kq.upd (Upd.of_below hbN Nope) id
  replace ky := ky.upd (Upd.of_below hbN Nope) id
  replace hu := hu.nn (Upd.of_below hbN Nope)
  clear hbN
  go_wp2_with fail
  refine (HRD.out _).mono ?_
  rintro e wN ⟨rfl, hbN⟩
  replace kp := kp.upd hbN id
  replace kx := kx.upd hbN id
  replace kq := kq.upd hbN id
  replace ky := ky.upd hbN id
  replace hu := hu.nn hbN
  clear hbN
  go_wp2_with fail
  have hbf := hu
  have a0 : ∀ x : UW wN, x.val.cell? ⟨w.heap.size, 0, none⟩ = some (.string p1) := fun x => x.cell ((kp.cell 0).trans rfl)
  have a1 : ∀ x : UW wN, x.val.cell? ⟨w.heap.size, 1, none⟩ = some (.string p2) := fun x => x.cell ((kp.cell 1).trans rfl)
  have b0 : ∀ x : UW wN, x.val.cell? ⟨gkx, 0, none⟩ = some (.string p1) := fun x => x.cell ((kx.cell 0).trans rfl)
  have b1 : ∀ x : UW wN, x.val.cell? ⟨gkx, 1, none⟩ = some (.string p2) := fun x => x.cell ((kx.cell 1).trans rfl)
  have q0 : ∀ x : UW wN, x.val.cell? ⟨gkq, 0, none⟩ = some (.string x1) := fun x => x.cell ((kq.cell 0).trans rfl)
  have q1 : ∀ x : UW wN, x.val.cell? ⟨gkq, 1, none⟩ = some (.string x2) := fun x => x.cell ((kq.cell 1).trans rfl)
  have y0 : ∀ x : UW wN, x.val.cell? ⟨gky, 0, none⟩ = some (.string x1) := fun x => x.cell ((ky.cell 0).trans rfl)
  have y1 : ∀ x : UW wN, x.val.cell? ⟨gky, 1, none⟩ = some (.string x2) := fun x => x.cell ((ky.cell 1).trans rfl)
  clear kp kx kq ky
  by_cases hp1 : p1.toList = []
  · have e1 : p1.toList.isEmpty = true := by rw [hp1]; rfl
    cases e2 : p2.toList.isEmpty with
    | true =>
      refine region_uw (by kernel_rfl) (by kernel_rfl) ?_
      repeat (go_big_quiet_step (first | (go_at_call 15; exact UW.call (below_upd (HPR.out _))) | (go_at_call 16; exact UW.call (HRR.out _)) | (go_at_call 17; exact UW.call (below_upd (HN.out _)))))
      refine wpQuiet_nil ?_
      rintro _ ⟨x, rfl⟩
      clear a0 a1 b0 b1 q0 q1 y0 y1
      go_wp2_with fail
      go_ret
      exact ⟨by first | rfl | simp [*], (hu.nn x.ok).below (fun _ h => h.elim)⟩
    | false =>
      refine region_uw (by kernel_rfl) (by kernel_rfl) ?_
      repeat (go_big_quiet_step (first | (go_at_call 15; exact UW.call (below_upd (HPR.out _))) | (go_at_call 16; exact UW.call (HRR.out _)) | (go_at_call 17; exact UW.call (below_upd (HN.out _)))))
      refine wpQuiet_nil ?_
      rintro _ ⟨x, rfl⟩
      clear a0 a1 b0 b1 q0 q1 y0 y1
      go_wp2_with fail
      go_ret
      exact ⟨by first | rfl | simp [*], (hu.nn x.ok).below (fun _ h => h.elim)⟩
  · have e1 : p1.toList.isEmpty = false := by simpa using hp1
    refine region_uw (by kernel_rfl) (by kernel_rfl) ?_
    repeat (go_big_quiet_step (first | (go_at_call 15; exact UW.call (below_upd (HPR.out _))) | (go_at_call 16; exact UW.call (HRR.out _)) | (go_at_call 17; exact UW.call (below_upd (HN.out _)))))
    refine wpQuiet_nil ?_
    rintro _ ⟨x, rfl⟩
    clear a0 a1 b0 b1 q0 q1 y0 y1
    go_wp2_with fail
    go_ret
    exact ⟨by first | rfl | simp [*], (hu.nn x.ok).below (fun _ h => h.elim)⟩
theorem tells_walk (w : World) (p : Pt) (okp : okP p) (s : ByteArray) (hs : s.size ≤ 140737488351232) (d : ByteArray) (hd : d.size ≤ 140737488351232) :
    Calls Tryd.prog 3 #[.agg #[.string p.1, .string p.2], .string s, .string d] w fun e w' => e = .returned (.bool true) ∧ Below w.heap.size w w' := by
  by_cases h : 500 < p.1.size ∨ 500 < p.2.size ∨ 1500 < s.size ∨ 600 < d.size
  · exact tells_big w p.1 p.2 s d h
  · exact tells_small w p.1 p.2 s d (by omega) (by omega) (by omega) (by omega)
end Go.Proofs.YthfmjiafdfoajaaDoor
