/- The contract of the reference's Decode. -/
import Derived.Test.YtpcfigijjhoffaaRfe
import Derived.Test.YtpcfigijjhoffaaAwk
set_option linter.unusedVariables false
set_option linter.unusedSimpArgs false
namespace Go.Proofs.Ytpcfigijjhoffaa
open Go.RowKit

theorem drop_cons (l : List UInt8) (k : Nat) (h : k < l.length) : l.drop k = l.getD k 0 :: l.drop (k + 1) := by
  rw [List.drop_eq_getElem_cons h]
  simp [List.getD, h]

set_option maxHeartbeats 8000000 in
set_option maxRecDepth 20000 in
theorem refdec_any (s : ByteArray) (w : World) (hs : s.size ≤ 1000000) : Calls Try.prog 9 #[.string s] w fun e w' => e = .returned (decRet s.data.toList) ∧ Upd w w' Nope := by
  obtain ⟨ti, hi, hz0, hz1, hz2⟩ := info_parts infoB
  go_enter Try.func9, Try.ntmps9
  go_wp2_with fail
  go_loopw [4, 5] (fun v i wr => ∃ (k : Nat) (out : List UInt8), k ≤ s.size ∧ i = .int .i64 k ∧ wr.ownsRow w.heap.size 5 1 v out.length (Lib.byteCells out) ∧ out.length ≤ k ∧ Hid (decL s.data.toList = (decL (s.data.toList.drop k)).map (out ++ ·)) ∧ Upd w wr Nope) (fun _ i _ => s.size - (intOf i).toNat)
  case atStart => exact ⟨0, [], Nat.zero_le _, rfl, World.ownsRow_nil _ _ _ _, by simp, Lib.hid (by simp), Upd.refl _ _⟩
  case round =>
    obtain ⟨k, out, hk, rfl, hown, hol, HD, hu⟩ := hrel
    have hsz := hu.size
    by_cases hlt : k < s.size
    · have hdr := drop_cons s.data.toList k (by rw [data_len]; exact hlt)
      have hix := index_str (P := Try.prog) Try.underlying9 s (k : Int) k rfl hlt
      have hbb := (s.data.toList.getD k 0).toNat_lt
      have hD := HD.out
      rw [hdr] at hD
      clear hdr HD
      generalize s.data.toList.getD k 0 = c at hix hbb hD
      have HD := Lib.hid hD
      clear hD
      have hpl := fun w => plainRef_any c.toNat w (by omega)
      by_cases hp : plainN c.toNat = true
      · have hD2 : decL s.data.toList = (decL (s.data.toList.drop (k + 1))).map ((out ++ [c]) ++ ·) := by
          rw [HD.out, decL_plain _ (show plainB c = true from hp)]
          cases decL (s.data.toList.drop (k + 1)) <;> simp
        have HD2 := Lib.hid hD2
        rw [hp] at hpl
        clear hD2 HD hp
        have hrow := World.news_of_block (heap_alloc_new wr (.cells #[.int .u8 (c.toNat : Int)] 5))
        have hgrow : ∀ (o : Obj) (w1 : World), (wr.alloc o).grownBy w1 u4.ownBlock → Upd w w1 Nope := fun o w1 hg => (hu.alloc o).grown hg (fun q e => .inr ((hown.lt q e).1))
        go_wp2_with fail
        refine (hpl wr).mono ?_
        rintro e w2 ⟨rfl, hww⟩
        obtain rfl : wr = w2 := hww.symm
        go_wp2_with (first | (at_builtin; refine wpList_append_lies _ rfl _ _ 31 rfl w.heap.size 5 ti (.int .u8 0) 1 1 Try.underlying31 hi hz0 hz1 hz2 rfl (by decide) u4 out.length (Lib.byteCells out) rfl (hown.alloc _) ⟨wr.heap.size, 0, none⟩ 1 1 [.int .u8 (c.toNat : Int)] rfl rfl hrow (by simp [Value.oneCell']) (by decide) (by unfold maxLen; omega) (by omega) (by simp; omega) _ rfl ?_; intro g cap w1 hown' hgrow' hat hltg) | fail)
        refine ⟨⟨k + 1, out ++ [c], by omega, by go_num, ?_, by simp; omega, HD2, hgrow _ _ hgrow'⟩, by simp [intOf]; omega⟩
        simpa [Lib.byteCells] using hown'
      · have hp : plainN c.toNat = false := by simpa using hp
        rw [hp] at hpl
        by_cases h43 : c = 43
        · have h4 : ((c.toNat : Int) != 43) = false := by rw [h43]; rfl
          rw [h43] at HD
          clear hp h43
          by_cases hsh : k + 2 < s.size
          · have hdr1 := drop_cons s.data.toList (k + 1) (by rw [data_len]; omega)
            have hdr2 := drop_cons s.data.toList (k + 1 + 1) (by rw [data_len]; omega)
            have ix1 := index_str (P := Try.prog) Try.underlying9 s ((k : Int) + 1) (k + 1) (by omega) (by omega)
            have ix2 := index_str (P := Try.prog) Try.underlying9 s ((k : Int) + 2) (k + 2) (by omega) (by omega)
            have hD := HD.out
            rw [hdr1, hdr2, decL_plus] at hD
            clear hdr1 hdr2 HD
            have hb1 := (s.data.toList.getD (k + 1) 0).toNat_lt
            have hb2 := (s.data.toList.getD (k + 2) 0).toNat_lt
            generalize s.data.toList.getD (k + 1) 0 = ch at ix1 hD hb1
            generalize s.data.toList.getD (k + 2) 0 = cl at ix2 hD hb2
            have g1 := fun w => digit_any ch.toNat w (by omega)
            have g2 := fun w => digit_any cl.toNat w (by omega)
            have v1 : ∀ x, val ch = some x → x < 16 := fun x h => valN_lt h
            have v2 : ∀ x, val cl = some x → x < 16 := fun x h => valN_lt h
            have e1 : valN ch.toNat = val ch := rfl
            have e2 : valN cl.toNat = val cl := rfl
            rw [e1] at g1
            rw [e2] at g2
            clear e1 e2
            have hge : decide ((s.size : Int) ≤ (k : Int) + 2) = false := by simp; omega
            rcases Option.eq_none_or_eq_some (val ch) with h1 | ⟨x, h1⟩
            · have hD2 : decRet s.data.toList = .tuple #[.string ⟨#[]⟩, .int .i64 2] := decRet_none (by rw [hD, h1]; rfl)
              have HD2 := Lib.hid hD2
              rw [h1] at g1
              have G1 := Lib.hid g1
              clear hD hD2 h1 g1 g2 v1 v2
              go_wp2_with fail
              refine (hpl wr).mono ?_
              rintro e w2 ⟨rfl, hww⟩
              obtain rfl : wr = w2 := hww.symm
              go_wp2_with fail
              refine (G1.out wr).mono ?_
              rintro e w3 ⟨rfl, hw3⟩
              obtain rfl : wr = w3 := hw3.symm
              go_wp2_with fail
              go_ret2
              exact ⟨ret_eq (by rw [HD2.out]; rfl), hu⟩
            · have hx := v1 x h1
              rw [h1] at g1 hD
              simp only [Option.getD_some] at g1
              have G1 := Lib.hid g1
              clear h1 g1 v1
              rcases Option.eq_none_or_eq_some (val cl) with h2 | ⟨y, h2⟩
              · have hD2 : decRet s.data.toList = .tuple #[.string ⟨#[]⟩, .int .i64 2] := decRet_none (by rw [hD, h2]; rfl)
                have HD2 := Lib.hid hD2
                rw [h2] at g2
                have G2 := Lib.hid g2
                clear hD hD2 h2 g2 v2
                go_wp2_with fail
                refine (hpl wr).mono ?_
                rintro e w2 ⟨rfl, hww⟩
                obtain rfl : wr = w2 := hww.symm
                go_wp2_with fail
                refine (G1.out wr).mono ?_
                rintro e w3 ⟨rfl, hw3⟩
                obtain rfl : wr = w3 := hw3.symm
                go_wp2_with fail
                refine (G2.out wr).mono ?_
                rintro e w4 ⟨rfl, hw4⟩
                obtain rfl : wr = w4 := hw4.symm
                go_wp2_with fail
                go_ret2
                exact ⟨ret_eq (by rw [HD2.out]; rfl), hu⟩
              · have hy := v2 y h2
                rw [h2] at g2 hD
                simp only [Option.getD_some] at g2
                have G2 := Lib.hid g2
                have hD2 : decL s.data.toList = (decL (s.data.toList.drop (k + 3))).map ((out ++ [UInt8.ofNat (16 * x + y)]) ++ ·) := by
                  rw [hD]
                  cases decL (s.data.toList.drop (k + 3)) <;> simp
                have HD2 := Lib.hid hD2
                clear hD hD2 h2 g2 v2
                go_wp2_with fail
                refine (hpl wr).mono ?_
                rintro e w2 ⟨rfl, hww⟩
                obtain rfl : wr = w2 := hww.symm
                go_wp2_with fail
                refine (G1.out wr).mono ?_
                rintro e w3 ⟨rfl, hw3⟩
                obtain rfl : wr = w3 := hw3.symm
                go_wp2_with fail
                refine (G2.out wr).mono ?_
                rintro e w4 ⟨rfl, hw4⟩
                obtain rfl : wr = w4 := hw4.symm
                go_wp2_with fail
                have hcv : ((16 * (x : Int) + y) % 256) = ((16 * x + y : Nat) : Int) := by omega
                have w1 : IntKind.i64.wrap ((k : Int) + 1) = (k : Int) + 1 := by rw [IntKind.wrap_i64]; omega
                have w2 : IntKind.i64.wrap ((k : Int) + 2) = (k : Int) + 2 := by rw [IntKind.wrap_i64]; omega
                have w3 : IntKind.i64.wrap (16 * (x : Int)) = 16 * (x : Int) := by rw [IntKind.wrap_i64]; omega
                have w4 : IntKind.i64.wrap (16 * (x : Int) + y) = 16 * (x : Int) + y := by rw [IntKind.wrap_i64]; omega
                have w5 : IntKind.u8.wrap (16 * (x : Int) + y) = 16 * (x : Int) + y := by rw [IntKind.wrap_u8]; omega
                haveI : Nonempty World := ⟨wr⟩
                refine region_mix 14 (by kernel_rfl) (by kernel_rfl) ?_
                intro Qn hQn
                simp only [List.take_succ_cons, List.take_zero, List.drop_succ_cons, List.drop_zero]
                iterate 5 (refine wpMix_step (fun K hK => ?_); go_simp; refine hK _ ?_; clear hK K)
                (refine wpMix_step (fun K hK => ?_); go_simp; refine ⟨_, (fun W => G1.out W), hK _ ?_⟩; clear hK K)
                iterate 5 (refine wpMix_step (fun K hK => ?_); go_simp; refine hK _ ?_; clear hK K)
                (refine wpMix_step (fun K hK => ?_); go_simp; refine ⟨_, (fun W => G2.out W), hK _ ?_⟩; clear hK K)
                iterate 2 (refine wpMix_step (fun K hK => ?_); go_simp; refine hK _ ?_; clear hK K)
                refine wpMix_nil ?_
                have hrow := World.news_of_block (heap_alloc_new wr.drew (.cells #[.int .u8 (16 * (x : Int) + y)] 5))
                have hgr : ∀ (o : Obj) (w1 : World), (wr.drew.alloc o).grownBy w1 u4.ownBlock → Upd w w1 Nope := fun o w1 hg => (hu.drew.alloc o).grown hg (fun q e => .inr ((hown.lt q e).1))
                have howd := hown.drew
                have hszd : w.heap.size ≤ wr.drew.heap.size := hsz
                generalize wr.drew = wd at hrow hgr howd hszd ⊢
                go_wp2_with (first | (at_builtin; refine wpList_append_lies _ rfl _ _ 31 rfl w.heap.size 5 ti (.int .u8 0) 1 1 Try.underlying31 hi hz0 hz1 hz2 rfl (by decide) u4 out.length (Lib.byteCells out) rfl (howd.alloc _) ⟨wd.heap.size, 0, none⟩ 1 1 [.int .u8 (16 * (x : Int) + y)] rfl rfl hrow (by simp [Value.oneCell']) (by decide) (by unfold maxLen; omega) (by omega) (by simp; omega) _ rfl ?_; intro g cap w1 hown' hgrow' hat hltg) | fail)
                refine ⟨⟨k + 3, out ++ [UInt8.ofNat (16 * x + y)], by omega, by go_num, ?_, by simp; omega, HD2, hgr _ _ hgrow'⟩, by simp [intOf]; omega⟩
                have hbv : (((UInt8.ofNat (16 * x + y)).toNat : Nat) : Int) = 16 * (x : Int) + y := by simp; omega
                have hm : (16 * (x : Int) + y) % 256 = 16 * (x : Int) + y := by omega
                simpa [Lib.byteCells, hbv, hm] using hown'
          · have hD2 : decRet s.data.toList = .tuple #[.string ⟨#[]⟩, .int .i64 2] := decRet_none (by rw [HD.out, decL_short _ (by rw [List.length_drop, data_len]; omega)]; rfl)
            have HD2 := Lib.hid hD2
            have hge : decide ((s.size : Int) ≤ (k : Int) + 2) = true := by simp; omega
            clear hD2 HD
            go_wp2_with fail
            refine (hpl wr).mono ?_
            rintro e w2 ⟨rfl, hww⟩
            obtain rfl : wr = w2 := hww.symm
            go_wp2_with fail
            go_ret2
            exact ⟨ret_eq (by rw [HD2.out]; rfl), hu⟩
        · have hD2 : decRet s.data.toList = .tuple #[.string ⟨#[]⟩, .int .i64 2] := decRet_none (by rw [HD.out, decL_bad _ (show plainB c = false from hp) h43]; rfl)
          have HD2 := Lib.hid hD2
          have h4 : ((c.toNat : Int) != 43) = true := by
            have : ((c.toNat : Int) == 43) = false := beq_false_of_ne (fun e => h43 (UInt8.toNat.inj (by simpa using (by omega : c.toNat = 43))))
            simp [bne, this]
          clear hD2 HD hp
          go_wp2_with fail
          refine (hpl wr).mono ?_
          rintro e w2 ⟨rfl, hww⟩
          obtain rfl : wr = w2 := hww.symm
          go_wp2_with fail
          go_ret2
          exact ⟨ret_eq (by rw [HD2.out]; rfl), hu⟩
    · obtain rfl : k = s.size := by omega
      have hD := HD.out
      rw [List.drop_of_length_le (by rw [data_len]; omega)] at hD
      have hD2 : decRet s.data.toList = .tuple #[.string ⟨out.toArray⟩, .int .i64 0] := decRet_some (by rw [hD]; simp [decL])
      have HD2 := Lib.hid hD2
      have hst := own_str hown
      clear hD hD2 HD
      go_wp2
      go_ret2
      exact ⟨ret_eq (by rw [HD2.out]; rfl), hu⟩
end Go.Proofs.Ytpcfigijjhoffaa
