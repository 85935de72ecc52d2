/- The contract of the reference's Encode. -/
import Derived.Test.YtpcfigijjhoffaaEnc
import Derived.Deep.AppendLies
import Derived.Test.YtpcfigijjhoffaaMix
set_option linter.unusedVariables false
set_option linter.unusedSimpArgs false
namespace Go.Proofs.Ytpcfigijjhoffaa
open Go.RowKit

/-- s[i], the index brought to Nat first. -/
theorem index_str {P : Program} {T : TypeId} (hT : P.underlying T = some .string) (s : ByteArray) (i : Int) (a : Nat) (hi : i = a) (h : a < s.size) (W : World) :
    (Instr.index T (.string s) (.int .i64 i)).run P W = .ok (.int .u8 (s.data.toList.getD a 0).toNat) W := by
  subst hi
  rw [run_index_string (P := P) (w := W) T s .i64 a hT, dif_pos (by omega)]
  have h' : a < s.data.size := h
  simp [List.getD]
  rw [Array.getElem?_eq_getElem h']
  rfl
theorem cells_snoc (a : List UInt8) (b : List UInt8) : Lib.byteCells (a ++ b) = Lib.byteCells a ++ Lib.byteCells b := byteCells_append a b

/-- string(v), v the call's own bytes. -/
theorem own_str {w : World} {base : Nat} {v : Value} {l : List UInt8} (h : w.ownsRow base 5 1 v l.length (Lib.byteCells l)) : (convert 31 9 v).run Try.prog w = .ok (.string ⟨l.toArray⟩) w := by
  rcases h.2 with ⟨rfl, h0⟩ | ⟨g, cap, cur, rfl, hb, hg, hnc, hcm, hcs, htk⟩
  · have : l = [] := List.eq_nil_of_length_eq_zero h0
    subst this
    rfl
  · have hB : Byt { w with heap := w.heap } g l := by
      have hlt : g < w.heap.size := (Array.getElem?_eq_some_iff.1 hg).1
      refine ⟨hlt, fun i hi => ?_, fun i hi => by simp [World.frozen?, hg]⟩
      have e : (cur.toList.take (l.length * 1))[i]? = (Lib.byteCells l)[i]? := by rw [htk]
      rw [List.getElem?_take_of_lt (by omega)] at e
      show w.cell? ⟨g, i, none⟩ = _
      rw [cell_of_row w g i cur 5 (0, 0) hg]
      simp [Lib.byteCells, hi] at e
      simp [e, List.getD, hi]
    exact hB.str cap

set_option maxHeartbeats 4000000 in
theorem refenc_any (s : ByteArray) (w : World) (hs : s.size ≤ 1000000) : Calls Try.prog 11 #[.string s] w fun e w' => e = .returned (.string ⟨(encL s.data.toList).toArray⟩) ∧ Upd w w' Nope := by
  obtain ⟨ti, hi, hz0, hz1, hz2⟩ := info_parts infoB
  go_enter Try.func11, Try.ntmps11
  go_wp2_with fail
  go_loopw [3, 4] (fun v i wr => ∃ k : Nat, k ≤ s.size ∧ i = .int .i64 k ∧ wr.ownsRow w.heap.size 5 1 v (encL (s.data.toList.take k)).length (Lib.byteCells (encL (s.data.toList.take k))) ∧ Upd w wr Nope) (fun _ i _ => s.size - (intOf i).toNat)
  case atStart => exact ⟨0, Nat.zero_le _, rfl, World.ownsRow_nil _ _ _ _, Upd.refl _ _⟩
  case round =>
    obtain ⟨k, hk, rfl, hown, hu⟩ := hrel
    have hbd := (encL_len (s.data.toList.take k)).2
    have htl : (s.data.toList.take k).length = k := by rw [List.length_take, data_len]; omega
    rw [htl] at hbd
    clear htl
    have hsz := hu.size
    have hgrow : ∀ (v' : Value) (o : Obj) (w1 : World), (wr.alloc o).grownBy w1 u3.ownBlock → Upd w w1 Nope := fun v' o w1 hg => (hu.alloc o).grown hg (fun q e => .inr ((hown.lt q e).1))
    have hgrowD : ∀ (v' : Value) (o : Obj) (w1 : World), (wr.drew.alloc o).grownBy w1 u3.ownBlock → Upd w w1 Nope := fun v' o w1 hg => (hu.drew.alloc o).grown hg (fun q e => .inr ((hown.lt q e).1))
    by_cases hlt : k < s.size
    · have hsn := take_snoc s.data.toList k (by rw [data_len]; exact hlt)
      have hc := encL_snoc (s.data.toList.take k) (s.data.toList.getD k 0)
      rw [← hsn] at hc
      have hix := index_str (P := Try.prog) Try.underlying9 s (k : Int) k rfl hlt
      have hbb := (s.data.toList.getD k 0).toNat_lt
      clear hsn
      generalize s.data.toList.getD k 0 = c at hix hc hbb
      generalize encL (s.data.toList.take k) = out at hown hc hbd
      have hpl := fun w => plainRef_any c.toNat w (by omega)
      have he : encB c = if plainN c.toNat then [c] else [43, UInt8.ofNat (digN (c.toNat / 16)), UInt8.ofNat (digN (c.toNat % 16))] := rfl
      rw [he] at hc
      clear he
      generalize plainN c.toNat = p at hc hpl
      have HC := Lib.hid hc
      clear hc
      go_wp2_with fail
      refine (hpl wr).mono ?_
      rintro e w2 ⟨rfl, hww⟩
      obtain rfl : wr = w2 := hww.symm
      cases p
      · have hd1 := digits_dig (c.toNat / 16) (by omega)
        have hd2 := digits_dig (c.toNat % 16) (by omega)
        go_wp2_with fail
        have hrow := World.news_of_block (heap_alloc_new wr.drew (.cells #[.int .u8 43, .int .u8 ((digN (c.toNat / 16) : Nat) : Int), .int .u8 ((digN (c.toNat % 16) : Nat) : Int)] 5))
        have hdl1 : c.toNat / 16 < 16 := by omega
        have hdl2 : c.toNat % 16 < 16 := by omega
        have hsg1 := fun w => sign_any (c.toNat / 16) w hdl1
        have hsg2 := fun w => sign_any (c.toNat % 16) w hdl2
        rw [Int.natCast_ediv] at hsg1
        rw [Int.natCast_emod] at hsg2
        haveI : Nonempty World := ⟨wr⟩
        refine region_mix 11 (by kernel_rfl) (by kernel_rfl) ?_
        intro Qn hQn
        simp only [List.take_succ_cons, List.take_zero, List.drop_succ_cons, List.drop_zero]
        have hwr1 : IntKind.u8.wrap ((c.toNat : Int) / 16) = (c.toNat : Int) / 16 := by rw [IntKind.wrap_u8]; omega
        (refine wpMix_step (fun K hK => ?_); go_simp; refine hK _ ?_; clear hK K)
        (refine wpMix_step (fun K hK => ?_); go_simp; refine hK _ ?_; clear hK K)
        (refine wpMix_step (fun K hK => ?_); go_simp; refine hK _ ?_; clear hK K)
        (refine wpMix_step (fun K hK => ?_); go_simp; refine hK _ ?_; clear hK K)
        (refine wpMix_step (fun K hK => ?_); go_simp; refine hK _ ?_; clear hK K)
        (refine wpMix_step (fun K hK => ?_); go_simp; refine ⟨_, (fun W => hsg1 W), hK _ ?_⟩; clear hK K)
        (refine wpMix_step (fun K hK => ?_); go_simp; refine hK _ ?_; clear hK K)
        (refine wpMix_step (fun K hK => ?_); go_simp; refine hK _ ?_; clear hK K)
        (refine wpMix_step (fun K hK => ?_); go_simp; refine hK _ ?_; clear hK K)
        (refine wpMix_step (fun K hK => ?_); go_simp; refine hK _ ?_; clear hK K)
        (refine wpMix_step (fun K hK => ?_); go_simp; refine ⟨_, (fun W => hsg2 W), hK _ ?_⟩; clear hK K)
        refine wpMix_nil ?_
        generalize hW : wr.drew = wd at hrow ⊢
        have howd : wd.ownsRow w.heap.size 5 1 u3 out.length (Lib.byteCells out) := by rw [← hW]; exact hown.drew
        have hszd : w.heap.size ≤ wd.heap.size := by rw [← hW]; exact hsz
        have hgd : ∀ (o : Obj) (w1 : World), (wd.alloc o).grownBy w1 u3.ownBlock → Upd w w1 Nope := fun o w1 hg => hgrowD (.bool true) o w1 (by rw [hW]; exact hg)
        go_wp2_with (first | (at_builtin; refine wpList_append_lies _ rfl _ _ 31 rfl w.heap.size 5 ti (.int .u8 0) 1 1 Try.underlying31 hi hz0 hz1 hz2 rfl (by decide) u3 out.length (Lib.byteCells out) rfl (howd.alloc _) ⟨wd.heap.size, 0, none⟩ 3 3 [.int .u8 43, .int .u8 ((digN (c.toNat / 16) : Nat) : Int), .int .u8 ((digN (c.toNat % 16) : Nat) : Int)] rfl rfl hrow (by simp [Value.oneCell']) (by decide) (by unfold maxLen; omega) (by omega) (by simp; omega) _ rfl ?_; intro g cap w1 hown' hgrow' hat hltg) | fail)
        refine ⟨⟨k + 1, by omega, by go_num, ?_, hgd _ _ hgrow'⟩, by simp [intOf]; omega⟩
        rw [HC.out]
        have e1 : ((43 : UInt8).toNat : Int) = 43 := rfl
        simpa [Lib.byteCells, hd1, hd2] using hown'
      · have hrow := World.news_of_block (heap_alloc_new wr (.cells #[.int .u8 (c.toNat : Int)] 5))
        go_wp2_with (first | (at_builtin; refine wpList_append_lies _ rfl _ _ 31 rfl w.heap.size 5 ti (.int .u8 0) 1 1 Try.underlying31 hi hz0 hz1 hz2 rfl (by decide) u3 out.length (Lib.byteCells out) rfl (hown.alloc _) ⟨wr.heap.size, 0, none⟩ 1 1 [.int .u8 (c.toNat : Int)] rfl rfl hrow (by simp [Value.oneCell']) (by decide) (by unfold maxLen; omega) (by omega) (by simp; omega) _ rfl ?_; intro g cap w1 hown' hgrow' hat hltg) | fail)
        refine ⟨⟨k + 1, by omega, by go_num, ?_, hgrow (.bool true) _ _ hgrow'⟩, by simp [intOf]; omega⟩
        rw [HC.out]
        simpa [Lib.byteCells] using hown'
    · obtain rfl : k = s.size := by omega
      have e : s.data.toList.take s.size = s.data.toList := List.take_of_length_le (by rw [data_len]; omega)
      rw [e] at hown
      have hst := own_str hown
      go_wp2
      go_ret
      exact ⟨rfl, hu⟩
end Go.Proofs.Ytpcfigijjhoffaa
