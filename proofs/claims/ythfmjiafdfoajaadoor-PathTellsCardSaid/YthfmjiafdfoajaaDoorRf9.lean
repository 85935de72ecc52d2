/- The reference: Parse. -/
import Derived.Test.YthfmjiafdfoajaaDoorRf8
import Derived.Deep.RegionWith
import Derived.IntWalk
set_option linter.unusedVariables false
set_option linter.unusedSimpArgs false
namespace Go.Proofs.YthfmjiafdfoajaaDoor
open Go.RowKit Go.Shelf


set_option maxRecDepth 100000 in
set_option maxHeartbeats 32000000 in
theorem rparse_any (s : ByteArray) (hs : s.size ≤ 5000) (w : World) : Calls Tryd.prog 12 #[.string s] w fun e w' => e = .returned (prV (parseL s.data.toList)) ∧ Upd w w' Nope := by
  have hu : Upd w (w.alloc (.cells #[.string ⟨#[]⟩, .string ⟨#[]⟩] 25)) Nope := (Upd.refl _ _).alloc _
  have kb : Blk (w.alloc (.cells #[.string ⟨#[]⟩, .string ⟨#[]⟩] 25)) w.heap.size #[.string ⟨#[]⟩, .string ⟨#[]⟩] 25 := Blk.new _ _ _
  obtain ⟨R, hR⟩ : ∃ R, parseL s.data.toList = R := ⟨_, rfl⟩
  rw [hR]
  by_cases hsm : s.size < 2
  · have HRn : Hid (R = .no) := Lib.hid (by rw [← hR, parse_short hsm])
    clear hR
    have c0 : (w.alloc (.cells #[.string ⟨#[]⟩, .string ⟨#[]⟩] 25)).cell? ⟨w.heap.size, 0, none⟩ = some (.string ⟨#[]⟩) := (kb.cell 0).trans rfl
    go_enter Tryd.func12, Tryd.ntmps12
    go_upto_region 1 with (fail)
    obtain ⟨g, hgz⟩ : ∃ g, w.heap.size = g := ⟨_, rfl⟩
    rw [hgz] at kb
    try rw [hgz]
    clear c0
    generalize w.alloc (.cells #[.string ⟨#[]⟩, .string ⟨#[]⟩] 25) = W0 at kb hu ⊢
    have hg0 : w.heap.size ≤ g := Nat.le_of_eq hgz
    clear hgz
    have c0 := kb.cell 0
    have c1 := kb.cell 1
    have f0 := kb.frozen 0
    have f1 := kb.frozen 1
    simp only [List.getElem?_toArray, List.getElem?_cons_zero, List.getElem?_cons_succ] at c0 c1
    go_wp2_with fail
    obtain ⟨W4, hW4, d0, d1, hd4⟩ := fin25 kb hg0 hu (.string ⟨#[]⟩) (.string ⟨#[]⟩)
    rw [hW4]
    exact bodyPost_ret (v := .tuple #[.agg #[.string ⟨#[]⟩, .string ⟨#[]⟩], .string ⟨#[]⟩, .int .i64 2]) (by simp [results, Tryd.results12, go_sem, d0, d1]) rfl ⟨by rw [HRn.out]; rfl, hd4⟩
  · have h2 : 2 ≤ s.size := by omega
    have hp0 : 0 < s.size := by omega
    have hp1 : 1 < s.size := by omega
    by_cases h60 : s[0] = 60
    · have hx0 : ((s[0].toNat : Int) != 60) = false := by rw [h60]; decide
      by_cases h62 : s[1] = 62
      · have hx1 : ((s[1].toNat : Int) == 62) = true := by rw [h62]; decide
        obtain ⟨E, hE⟩ : ∃ E, s.extract 2 s.size = E := ⟨_, rfl⟩
        have hEd : bs (s.data.toList.drop 2) = E := by rw [← hE, ext_drop]; rfl
        have HRn : Hid (R = ⟨[], [], s.data.toList.drop 2, 0⟩) := Lib.hid (by rw [← hR, parse_null h2 h60 h62])
        have HEd := Lib.hid hEd
        have h2i : (2 : Int) ≤ (s.size : Int) := by omega
        clear hR h60 h62 hEd hsm
        have c0 : (w.alloc (.cells #[.string ⟨#[]⟩, .string ⟨#[]⟩] 25)).cell? ⟨w.heap.size, 0, none⟩ = some (.string ⟨#[]⟩) := (kb.cell 0).trans rfl
        go_enter Tryd.func12, Tryd.ntmps12
        go_upto_region 1 with (fail)
        obtain ⟨g, hgz⟩ : ∃ g, w.heap.size = g := ⟨_, rfl⟩
        rw [hgz] at kb
        try rw [hgz]
        clear c0
        generalize w.alloc (.cells #[.string ⟨#[]⟩, .string ⟨#[]⟩] 25) = W0 at kb hu ⊢
        have hg0 : w.heap.size ≤ g := Nat.le_of_eq hgz
        clear hgz
        have c0 := kb.cell 0
        have c1 := kb.cell 1
        have f0 := kb.frozen 0
        have f1 := kb.frozen 1
        simp only [List.getElem?_toArray, List.getElem?_cons_zero, List.getElem?_cons_succ] at c0 c1
        go_wp2_with fail
        go_region
        all_goals
          go_wp2_with fail
          try rw [hE]
          obtain ⟨W4, hW4, d0, d1, hd4⟩ := fin25 kb hg0 hu (.string ⟨#[]⟩) (.string ⟨#[]⟩)
          rw [hW4]
          exact bodyPost_ret (v := .tuple #[.agg #[.string ⟨#[]⟩, .string ⟨#[]⟩], .string E, .int .i64 0]) (by simp [results, Tryd.results12, go_sem, d0, d1]) rfl ⟨by rw [HRn.out, ← HEd.out]; rfl, hd4.drew⟩
      · have hx1 : ((s[1].toNat : Int) == 62) = false := by
          rw [beq_eq_false_iff_ne]; exact fun h => h62 (u8_of (n := 62) (by decide) h)
        by_cases h34 : s[1] = 34
        · rw [← hR]; exact rparse_q s hs w h2 h60 h62 h34
        · rw [← hR]; exact rparse_b s hs w h2 h60 h62 h34
    · have hx0 : ((s[0].toNat : Int) != 60) = true := by
        rw [bne_iff_ne]; exact fun h => h60 (u8_of (n := 60) (by decide) h)
      have HRn : Hid (R = .no) := Lib.hid (by rw [← hR, parse_not hp0 h60])
      clear hR h60
      have c0 : (w.alloc (.cells #[.string ⟨#[]⟩, .string ⟨#[]⟩] 25)).cell? ⟨w.heap.size, 0, none⟩ = some (.string ⟨#[]⟩) := (kb.cell 0).trans rfl
      go_enter Tryd.func12, Tryd.ntmps12
      go_upto_region 1 with (fail)
      obtain ⟨g, hgz⟩ : ∃ g, w.heap.size = g := ⟨_, rfl⟩
      rw [hgz] at kb
      try rw [hgz]
      clear c0
      generalize w.alloc (.cells #[.string ⟨#[]⟩, .string ⟨#[]⟩] 25) = W0 at kb hu ⊢
      have hg0 : w.heap.size ≤ g := Nat.le_of_eq hgz
      clear hgz
      have c0 := kb.cell 0
      have c1 := kb.cell 1
      have f0 := kb.frozen 0
      have f1 := kb.frozen 1
      simp only [List.getElem?_toArray, List.getElem?_cons_zero, List.getElem?_cons_succ] at c0 c1
      go_wp2_with fail
      obtain ⟨W4, hW4, d0, d1, hd4⟩ := fin25 kb hg0 hu (.string ⟨#[]⟩) (.string ⟨#[]⟩)
      rw [hW4]
      exact bodyPost_ret (v := .tuple #[.agg #[.string ⟨#[]⟩, .string ⟨#[]⟩], .string ⟨#[]⟩, .int .i64 2]) (by simp [results, Tryd.results12, go_sem, d0, d1]) rfl ⟨by rw [HRn.out]; rfl, hd4⟩
end Go.Proofs.YthfmjiafdfoajaaDoor
