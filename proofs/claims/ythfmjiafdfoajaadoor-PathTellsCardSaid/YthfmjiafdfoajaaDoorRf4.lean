/- The reference: Right. -/
import Derived.Test.YthfmjiafdfoajaaDoorRf3
set_option linter.unusedVariables false
set_option linter.unusedSimpArgs false
namespace Go.Proofs.YthfmjiafdfoajaaDoor
open Go.RowKit Go.Shelf

set_option maxRecDepth 100000 in
set_option maxHeartbeats 8000000 in
theorem rright_any (lo dom : ByteArray) (hlo : lo.size ≤ 5000) (hdm : dom.size ≤ 5000) (w : World) : Calls Tryd.prog 16 #[.agg #[.string lo, .string dom]] w fun e w' => e = .returned (.int .i64 (rightL lo.data.toList dom.data.toList)) ∧ Upd w w' Nope := by
  have hu0 : Upd w (w.alloc (.cells #[.string lo, .string dom] 25)) Nope := (Upd.refl _ _).alloc _
  have kp := Blk.new w #[.string lo, .string dom] 25
  obtain ⟨R, hR⟩ : ∃ R, rightL lo.data.toList dom.data.toList = R := ⟨_, rfl⟩
  rw [hR]
  rcases (show 64 < lo.size ∨ (lo.size ≤ 64 ∧ 255 < dom.size) ∨ (lo.size ≤ 64 ∧ dom.size ≤ 255) by omega) with hz | ⟨hz, hz2⟩ | ⟨hz, hz2⟩
  · have HR : Hid (R = 3) := Lib.hid (by rw [← hR]; unfold rightL; rw [if_pos (by rw [data_len, data_len]; omega)])
    clear hR kp
    go_enter Tryd.func16, Tryd.ntmps16
    go_wp2_with fail
    go_ret
    exact ⟨by rw [HR.out]; rfl, hu0⟩
  · have HR : Hid (R = 3) := Lib.hid (by rw [← hR]; unfold rightL; rw [if_pos (by rw [data_len, data_len]; omega)])
    clear hR kp
    go_enter Tryd.func16, Tryd.ntmps16
    go_wp2_with fail
    go_ret
    exact ⟨by rw [HR.out]; rfl, hu0⟩
  · by_cases hd0 : dom.toList = []
    · have hde : dom.data.toList = [] := (nil_iff dom).1 hd0
      have hd1 : dom.toList.isEmpty = true := by rw [hd0]; rfl
      by_cases hl0 : lo.toList = []
      · have hle : lo.data.toList = [] := (nil_iff lo).1 hl0
        have hl1 : lo.toList.isEmpty = true := by rw [hl0]; rfl
        have HR : Hid (R = 0) := Lib.hid (by rw [← hR, hde, hle]; rfl)
        clear hR kp hde hle
        go_enter Tryd.func16, Tryd.ntmps16
        go_wp2_with fail
        go_ret
        exact ⟨by rw [HR.out]; rfl, hu0⟩
      · have hl1 : lo.toList.isEmpty = false := by simpa using hl0
        by_cases hp : lo.toList = [112, 111, 115, 116, 109, 97, 115, 116, 101, 114]
        · have hpe : lo.data.toList = postL := by rw [← ByteArray.toList_eq]; exact hp
          have hp1 : (lo.toList == [112, 111, 115, 116, 109, 97, 115, 116, 101, 114]) = true := by simpa using hp
          have HR : Hid (R = 0) := Lib.hid (by rw [← hR, hde, hpe]; decide)
          clear hR kp hde hpe
          go_enter Tryd.func16, Tryd.ntmps16
          go_wp2_with fail
          go_ret
          exact ⟨by rw [HR.out]; rfl, hu0⟩
        · have hp1 : (lo.toList == [112, 111, 115, 116, 109, 97, 115, 116, 101, 114]) = false := by simpa using hp
          have hlb : labelsL dom.data.toList = false := by rw [hde]; decide
          have HR : Hid (R = 2) := Lib.hid (by
            rw [← hR, right_ref (by rw [data_len, data_len]; omega) (by
              rintro ⟨_, h | h⟩
              · exact hl0 ((nil_iff lo).2 h)
              · exact hp (by rw [ByteArray.toList_eq]; exact h)), if_pos (.inr (.inl hlb))])
          have HL := Lib.hid (fun W => rlabels_any dom hdm W)
          rw [hlb] at HL
          clear hR hde hlb
          go_enter Tryd.func16, Tryd.ntmps16
          go_wp2_with fail
          obtain ⟨gp, hgp⟩ : ∃ g, w.heap.size = g := ⟨_, rfl⟩
          rw [hgp] at kp
          try rw [hgp]
          generalize w.alloc (.cells #[.string lo, .string dom] 25) = W0 at kp hu0 ⊢
          clear hgp
          have c0 : ∀ x : UW W0, x.val.cell? ⟨gp, 0, none⟩ = some (.string lo) := fun x => x.cell ((kp.cell 0).trans rfl)
          have c1 : ∀ x : UW W0, x.val.cell? ⟨gp, 1, none⟩ = some (.string dom) := fun x => x.cell ((kp.cell 1).trans rfl)
          refine region_uw (by kernel_rfl) (by kernel_rfl) ?_
          repeat (go_big_quiet_step (first | (go_at_call 33; exact UW.call (HL.out _))))
          refine wpQuiet_nil ?_
          rintro _ ⟨x, rfl⟩
          clear c0 c1
          have hux := hu0.nn x.ok
          go_wp2_with fail
          go_ret
          exact ⟨by rw [HR.out]; rfl, hux⟩
    · have hde : dom.data.toList ≠ [] := fun h => hd0 ((nil_iff dom).2 h)
      have hd1 : dom.toList.isEmpty = false := by simpa using hd0
      have hrr := right_ref (lo := lo.data.toList) (d := dom.data.toList) (by rw [data_len, data_len]; omega) (fun h => hde h.1)
      rw [hR] at hrr
      by_cases hl0 : lo.toList = []
      · have hle : lo.data.toList = [] := (nil_iff lo).1 hl0
        have hl1 : lo.toList.isEmpty = true := by rw [hl0]; rfl
        have HR : Hid (R = 2) := Lib.hid (by rw [hrr, if_pos (.inl hle)])
        clear hR hrr hle hde
        go_enter Tryd.func16, Tryd.ntmps16
        go_wp2_with fail
        obtain ⟨gp, hgp⟩ : ∃ g, w.heap.size = g := ⟨_, rfl⟩
        rw [hgp] at kp
        try rw [hgp]
        generalize w.alloc (.cells #[.string lo, .string dom] 25) = W0 at kp hu0 ⊢
        clear hgp
        have c0 : ∀ x : UW W0, x.val.cell? ⟨gp, 0, none⟩ = some (.string lo) := fun x => x.cell ((kp.cell 0).trans rfl)
        have c1 : ∀ x : UW W0, x.val.cell? ⟨gp, 1, none⟩ = some (.string dom) := fun x => x.cell ((kp.cell 1).trans rfl)
        refine region_uw (by kernel_rfl) (by kernel_rfl) ?_
        repeat (go_big_quiet_step (first | fail))
        refine wpQuiet_nil ?_
        rintro _ ⟨x, rfl⟩
        clear c0 c1
        have hux := hu0.nn x.ok
        go_wp2_with fail
        go_ret
        exact ⟨by rw [HR.out]; rfl, hux⟩
      · have hle : lo.data.toList ≠ [] := fun h => hl0 ((nil_iff lo).2 h)
        have hl1 : lo.toList.isEmpty = false := by simpa using hl0
        have hL := fun W => rlabels_any dom hdm W
        cases hlb : labelsL dom.data.toList with
        | false =>
          have HR : Hid (R = 2) := Lib.hid (by rw [hrr, if_pos (.inr (.inl hlb))])
          rw [hlb] at hL
          have HL := Lib.hid hL
          clear hR hrr hle hde hL hlb
          go_enter Tryd.func16, Tryd.ntmps16
          go_wp2_with fail
          obtain ⟨gp, hgp⟩ : ∃ g, w.heap.size = g := ⟨_, rfl⟩
          rw [hgp] at kp
          try rw [hgp]
          generalize w.alloc (.cells #[.string lo, .string dom] 25) = W0 at kp hu0 ⊢
          clear hgp
          have c0 : ∀ x : UW W0, x.val.cell? ⟨gp, 0, none⟩ = some (.string lo) := fun x => x.cell ((kp.cell 0).trans rfl)
          have c1 : ∀ x : UW W0, x.val.cell? ⟨gp, 1, none⟩ = some (.string dom) := fun x => x.cell ((kp.cell 1).trans rfl)
          refine region_uw (by kernel_rfl) (by kernel_rfl) ?_
          repeat (go_big_quiet_step (first | (go_at_call 33; exact UW.call (HL.out _))))
          refine wpQuiet_nil ?_
          rintro _ ⟨x, rfl⟩
          clear c0 c1
          have hux := hu0.nn x.ok
          go_wp2_with fail
          go_ret
          exact ⟨by rw [HR.out]; rfl, hux⟩
        | true =>
          rw [hlb] at hL
          have HL := Lib.hid hL
          have hW := fun W => rlower_any dom hdm W
          obtain ⟨X, hX⟩ : ∃ X, bs (Lib.toLowerA dom.data.toList) = X := ⟨_, rfl⟩
          rw [hX] at hW
          by_cases hlo' : Lib.toLowerA dom.data.toList = dom.data.toList
          · have hXd : X = dom := by rw [← hX, hlo', bs_of]
            rw [hXd] at hW
            have HW := Lib.hid hW
            rw [if_neg (by simp [hle, hlb, hlo'])] at hrr
            have HRR := Lib.hid hrr
            have hlen : lo.data.toList.length = lo.size := rfl
            clear hR hrr hle hde hL hlb hW hX hlo' hXd
            go_enter Tryd.func16, Tryd.ntmps16
            go_wp2_with fail
            obtain ⟨gp, hgp⟩ : ∃ g, w.heap.size = g := ⟨_, rfl⟩
            rw [hgp] at kp
            try rw [hgp]
            generalize w.alloc (.cells #[.string lo, .string dom] 25) = W0 at kp hu0 ⊢
            clear hgp
            have c0 : ∀ x : UW W0, x.val.cell? ⟨gp, 0, none⟩ = some (.string lo) := fun x => x.cell ((kp.cell 0).trans rfl)
            have c1 : ∀ x : UW W0, x.val.cell? ⟨gp, 1, none⟩ = some (.string dom) := fun x => x.cell ((kp.cell 1).trans rfl)
            refine region_uw (by kernel_rfl) (by kernel_rfl) ?_
            repeat (go_big_quiet_step (first | (go_at_call 33; exact UW.call (HL.out _))| (go_at_call 31; exact UW.call (HW.out _))))
            refine wpQuiet_nil ?_
            rintro _ ⟨x, rfl⟩
            clear c0 c1
            have hux := hu0.nn x.ok
            have c0 : x.val.cell? ⟨gp, 0, none⟩ = some (.string lo) := x.cell ((kp.cell 0).trans rfl)
            go_wp2_with fail
            go_loop [3] (fun iv => ∃ k : Nat, k ≤ lo.size ∧ iv = .int .i64 k ∧ (lo.data.toList.take k).any outP = false) (fun iv => lo.size - (intOf iv).toNat)
            case atStart => exact ⟨0, Nat.zero_le _, rfl, by simp⟩
            case round =>
              obtain ⟨k, hk, rfl, hany⟩ := hrel
              by_cases hlt : k < lo.size
              · have hsn := any_snoc (l := lo.data.toList) (show k < lo.data.toList.length from hlt)
                rw [gd_eq lo k hlt, hany, Bool.false_or] at hsn
                by_cases ho : lo[k].toNat < 32 ∨ 126 < lo[k].toNat
                · have hany2 : lo.data.toList.any outP = true := by
                    rw [List.any_eq_true]
                    refine ⟨lo[k], ?_, by simpa [outP] using ho⟩
                    rw [← gd_eq lo k hlt, List.getD, List.getElem?_eq_getElem (show k < lo.data.toList.length from hlt)]
                    exact List.getElem_mem _
                  have HR2 : Hid (R = 2) := Lib.hid (by rw [HRR.out, hany2]; rfl)
                  clear hany hsn hany2
                  rcases (show lo[k].toNat < 32 ∨ (32 ≤ lo[k].toNat ∧ 126 < lo[k].toNat) by omega) with h1 | ⟨h1, h2⟩
                  all_goals
                    clear ho
                    go_wp2_with fail
                    go_ret
                    exact ⟨by rw [HR2.out]; rfl, hux⟩
                · have HS : Hid ((lo.data.toList.take (k + 1)).any outP = false) := Lib.hid (by rw [hsn]; simp [outP]; omega)
                  have h1 : 32 ≤ lo[k].toNat := by omega
                  have h2 : lo[k].toNat ≤ 126 := by omega
                  clear hany hsn ho
                  go_wp2_with fail
                  go_round
                  case rel => exact ⟨k + 1, by omega, by go_num, HS.out⟩
                  case measure => simp [intOf]; omega
              · rw [List.take_of_length_le (show lo.data.toList.length ≤ k by omega)] at hany
                have HR0 : Hid (R = 0) := Lib.hid (by rw [HRR.out, hany]; rfl)
                clear hany
                go_wp2_with fail
                go_ret
                exact ⟨by rw [HR0.out]; rfl, hux⟩
          · have HR : Hid (R = 2) := Lib.hid (by rw [hrr, if_pos (.inr (.inr hlo'))])
            have hXd : X ≠ dom := fun h => hlo' (by
              have e : (bs (Lib.toLowerA dom.data.toList)).data.toList = dom.data.toList := by rw [hX, h]
              exact e)
            have hxe := toList_ne hXd
            have hxb : (X.toList != dom.toList) = true := by rw [bne, hxe]; rfl
            have HW := Lib.hid hW
            clear hR hrr hle hde hL hlb hW hX hlo' hXd
            go_enter Tryd.func16, Tryd.ntmps16
            go_wp2_with fail
            obtain ⟨gp, hgp⟩ : ∃ g, w.heap.size = g := ⟨_, rfl⟩
            rw [hgp] at kp
            try rw [hgp]
            generalize w.alloc (.cells #[.string lo, .string dom] 25) = W0 at kp hu0 ⊢
            clear hgp
            have c0 : ∀ x : UW W0, x.val.cell? ⟨gp, 0, none⟩ = some (.string lo) := fun x => x.cell ((kp.cell 0).trans rfl)
            have c1 : ∀ x : UW W0, x.val.cell? ⟨gp, 1, none⟩ = some (.string dom) := fun x => x.cell ((kp.cell 1).trans rfl)
            refine region_uw (by kernel_rfl) (by kernel_rfl) ?_
            repeat (go_big_quiet_step (first | (go_at_call 33; exact UW.call (HL.out _))| (go_at_call 31; exact UW.call (HW.out _))))
            refine wpQuiet_nil ?_
            rintro _ ⟨x, rfl⟩
            clear c0 c1
            have hux := hu0.nn x.ok
            go_wp2_with fail
            go_ret
            exact ⟨by rw [HR.out]; rfl, hux⟩
end Go.Proofs.YthfmjiafdfoajaaDoor
