/- The contract of the reference's Scan. -/
import Derived.Test.YtaipepioomkgpaaRefp
set_option linter.unusedVariables false
set_option linter.unusedSimpArgs false
namespace Go.Proofs.Ytaipepioomkgpaa
open Go.RowKit
attribute [local go_sem] le2_length le4_length le2_size le4_size ByteArray.size_append

/-- s[i], the index brought to Nat first. -/
theorem index_str {P : Program} {T : TypeId} (hT : P.underlying T = some .string) (s : ByteArray) (i : Int) (a : Nat) (hi : i = a) (h : a < s.size) (W : World) :
    (Instr.index T (.string s) (.int .i64 i)).run P W = .ok (.int .u8 (s[a]'h).toNat) W := by
  subst hi
  rw [run_index_string (P := P) (w := W) T s .i64 a hT, dif_pos (by omega)]
  rfl
theorem getD_at (s : ByteArray) (i : Nat) (h : i < s.size) : s.data.toList.getD i 0 = s[i]'h := by
  have h' : i < s.data.size := h
  simp [List.getD]
  rw [Array.getElem?_eq_getElem h']
  rfl
theorem lenOf_at (s : ByteArray) (a : Nat) (h0 : a < s.size) (h1 : a + 1 < s.size) : lenOf (s.data.toList.drop a) = (s[a]'h0).toNat + 256 * (s[a+1]'h1).toNat := by
  unfold lenOf
  rw [← getD_at s a h0, ← getD_at s (a + 1) h1]
  simp [List.getD]

set_option maxHeartbeats 2000000 in
theorem refscan_any (s : ByteArray) (w : World) (hs : s.size ≤ 1000000) : Calls Try.prog 13 #[.string s] w (ScanPost w s) := by
  obtain ⟨ti, hi, hz0, hz1, hz2⟩ := info_parts infoS
  go_enter Try.func13, Try.ntmps13
  go_wp2_with fail
  go_loopw [4, 5] (fun v i wr => ∃ (a : Nat) (xs : List ByteArray), a ≤ s.size ∧ i = .int .i64 a ∧ wr.ownsRow w.heap.size 9 1 v xs.length (xs.map Value.string) ∧
    Hid (strs (scanL s.data.toList).1 = xs ++ strs (scanL (s.data.toList.drop a)).1 ∧ (scanL s.data.toList).2 = a + (scanL (s.data.toList.drop a)).2) ∧ xs.length ≤ a ∧ Upd w wr Nope) (fun _ i _ => s.size - (intOf i).toNat)
  case atStart => exact ⟨0, [], Nat.zero_le _, rfl, World.ownsRow_nil _ _ _ _, Lib.hid ⟨by simp, by simp⟩, by simp, Upd.refl _ _⟩
  case round =>
    obtain ⟨a, xs, ha, rfl, hown, HP, hxa, hu⟩ := hrel
    have hln : (s.data.toList.drop a).length = s.size - a := by simp
    have hout : ∀ (v : Value) (wr : World), Upd w wr Nope → frontOf (s.data.toList.drop a) = none → wr.ownsRow w.heap.size 9 1 v xs.length (xs.map Value.string) → ScanPost w s (.returned (.tuple #[v, .int .i64 (a : Int)])) wr := by
      intro v wr hu hf hown
      have hp := HP.out
      rw [scanL_none hf] at hp
      simp only [strs, List.map_nil, List.append_nil, Nat.add_zero] at hp
      refine ⟨v, by rw [hp.2], ?_, hu⟩
      have hlen : xs.length = (scanL s.data.toList).1.length := by rw [← hp.1]; simp
      rw [← hlen]
      unfold strs
      rw [hp.1]
      exact hown
    have HO := Lib.hid hout
    clear hout
    by_cases h10 : s.size - a < 10
    · have hf : frontOf (s.data.toList.drop a) = none := by unfold frontOf; rw [if_pos (by omega)]
      have HF := Lib.hid hf
      clear hf hln
      go_wp2
      go_ret2
      exact HO.out _ _ hu HF.out hown
    · have hl := lenOf_at s a (by omega) (by omega)
      have hl6 := lenOf_lt (s.data.toList.drop a)
      have b0 := (s[a]'(by omega)).toNat_lt
      have b1 := (s[a+1]'(by omega)).toNat_lt
      have i0 := index_str (P := Try.prog) Try.underlying9 s a a rfl (by omega)
      have i1 := index_str (P := Try.prog) Try.underlying9 s ((a : Int) + 1) (a + 1) (by omega) (by omega)
      rw [hl] at hl6
      generalize (s[a]'(by omega)).toNat = x0 at hl b0 i0 hl6
      generalize (s[a+1]'(by omega)).toNat = x1 at hl b1 i1 hl6
      have hw1 : IntKind.i64.wrap ((a : Int) + 1) = (a : Int) + 1 := by rw [IntKind.wrap_i64]; omega
      have c0 : x0 < 256 := by omega
      have c1 : x1 < 256 := by omega
      have hln2 := hln
      obtain ⟨n, hN⟩ : ∃ n, lenOf (s.data.toList.drop a) = n := ⟨_, rfl⟩
      rw [hN] at hl
      have HN := Lib.hid hN
      have HL := Lib.hid hln2
      have HLL := Lib.hid hl
      clear hln hN hln2 b0 b1 hl hl6
      go_wp2
      go_quiet (fail)
      have e : (x0 : Int) + 256 * x1 = n := by have := HLL.out; omega
      rw [e]
      clear e
      have hn6 : n < 65536 := by rw [← HN.out]; exact lenOf_lt _
      by_cases hsz : s.size - a < n + 10
      · have hf : frontOf (s.data.toList.drop a) = none := by
          unfold frontOf
          have := HL.out
          split
          · rfl
          · split
            · rfl
            · rw [HN.out, if_pos (by omega)]
        have HF := Lib.hid hf
        clear hf
        have h' : decide ((s.size : Int) - a < (n : Int) + 10) = true := by simp; omega
        go_wp2_with fail
        go_ret2
        exact HO.out _ _ (hu.drewN _) HF.out hown
      · have h' : decide ((s.size : Int) - a < (n : Int) + 10) = false := by simp; omega
        have s1 := slice_str (P := Try.prog) Try.underlying9 s ((a : Int) + 6) ((a : Int) + 6 + n) (a + 6) (a + 6 + n) (by omega) (by omega) (by omega) (by omega)
        have s2 := slice_str (P := Try.prog) Try.underlying9 s (a : Int) ((a : Int) + n + 10) a (a + n + 10) (by omega) (by omega) (by omega) (by omega)
        have hr1 : (s.extract (a + 6) (a + 6 + n)).data.toList = ((s.data.toList.drop a).drop 6).take n := by rw [ext_list, List.drop_drop]; congr 1; omega
        have hr2 : (s.extract a (a + n + 10)).toList = (s.data.toList.drop a).take (n + 10) := by rw [ByteArray.toList_eq, ext_list]; congr 1; omega
        have hrz : (s.extract (a + 6) (a + 6 + n)).size = n := by simp; omega
        generalize s.extract (a + 6) (a + 6 + n) = r at s1 hr1 hrz
        generalize s.extract a (a + n + 10) = q at s2 hr2
        by_cases heq : (s.data.toList.drop a).take (n + 10) = frameOf ((s.data.toList.drop a).drop 6 |>.take n)
        · have hq : (q.toList == frameOf r.data.toList) = true := by
            rw [hr2, hr1]; simpa using heq
          have hf : frontOf (s.data.toList.drop a) = some n := by
            have h2 := HL.out
            rw [← HN.out]
            refine front_of_take (by omega) (by rw [HN.out]; omega) (by rw [HN.out]; exact heq)
          have HF := Lib.hid hf
          have HR := Lib.hid hr1
          clear hf hr1 hr2 heq
          go_wp2_with fail
          refine region_uw (by kernel_rfl) (by kernel_rfl) ?_
          repeat (go_big_quiet_step (first | (go_at_call 22; exact UW.call (frame_any _ _ (by omega)))))
          refine wpQuiet_nil ?_
          rintro _ ⟨x, rfl⟩
          have hu3 : Upd w x.val Nope := (hu.drewN _).nn x.ok
          have hown3 : x.val.ownsRow w.heap.size 9 1 u4 xs.length (xs.map Value.string) := hown.kept (row := none) ⟨x.ok.os, x.ok.tape, x.ok.output, x.ok.size, fun k hk _ => x.ok.block k hk id⟩ (by cases u4.ownBlock <;> simp)
          have hb3 := hu3.size
          generalize x.val = W at hown3 hu3 hb3 ⊢
          have hrow := World.news_of_block (heap_alloc_new W (.cells #[.string r] 9))
          go_wp2_with (first | (at_builtin; refine wpList_append_lies _ rfl _ _ 22 rfl w.heap.size 9 ti (.string ByteArray.empty) 1 16 Try.underlying22 hi hz0 hz1 hz2 rfl (by decide) u4 xs.length (xs.map Value.string) rfl (hown3.alloc _) ⟨W.heap.size, 0, none⟩ 1 1 [.string r] rfl rfl hrow (by simp [Value.oneCell']) (by decide) (by unfold maxLen; omega) (by omega) (by simp; omega) _ rfl ?_; intro g cap w1 hown' hgrow hat hlt) | fail)
          have hp := HP.out
          have hsc := scanL_some HF.out
          have hdd : (s.data.toList.drop a).drop (n + 10) = s.data.toList.drop (a + (n + 10)) := List.drop_drop ..
          rw [hdd] at hsc
          rw [hsc] at hp
          have hrr : (⟨(((s.data.toList.drop a).drop 6).take n).toArray⟩ : ByteArray) = r := by rw [← HR.out]
          refine ⟨⟨a + (n + 10), xs ++ [r], by omega, by congr 1 <;> omega, by simpa using hown', Lib.hid ⟨?_, by have := hp.2; simp only at this; omega⟩, by simp; omega, ?_⟩, by simp [intOf]; omega⟩
          · have h1 := hp.1
            simp only [strs, List.map_cons, hrr] at h1 ⊢
            rw [h1]
            simp
          · exact (hu3.alloc _).grown hgrow (fun k e => .inr (by
              rcases hown3.2 with ⟨h, _⟩ | ⟨g', cap', cur, h, hb', _⟩
              · rw [h] at e; cases e
              · rw [h] at e; simp [Value.ownBlock] at e; omega))
        · have hq : (q.toList == frameOf r.data.toList) = false := by
            rw [hr2, hr1]; simpa using heq
          have hf : frontOf (s.data.toList.drop a) = none := by
            cases hf : frontOf (s.data.toList.drop a) with
            | none => rfl
            | some k =>
              have h2 := (frontOf_some hf).2.2.1
              rw [HN.out] at h2
              subst h2
              exact absurd (front_take hf).1 heq
          have HF := Lib.hid hf
          clear hf hr1 hr2 heq
          go_wp2_with fail
          refine region_uw (by kernel_rfl) (by kernel_rfl) ?_
          repeat (go_big_quiet_step (first | (go_at_call 22; exact UW.call (frame_any _ _ (by omega)))))
          refine wpQuiet_nil ?_
          rintro _ ⟨x, rfl⟩
          have hu3 : Upd w x.val Nope := (hu.drewN _).nn x.ok
          have hown3 : x.val.ownsRow w.heap.size 9 1 u4 xs.length (xs.map Value.string) := hown.kept (row := none) ⟨x.ok.os, x.ok.tape, x.ok.output, x.ok.size, fun k hk _ => x.ok.block k hk id⟩ (by cases u4.ownBlock <;> simp)
          go_wp2_with fail
          go_ret2
          exact HO.out _ _ hu3 HF.out hown3
end Go.Proofs.Ytaipepioomkgpaa
