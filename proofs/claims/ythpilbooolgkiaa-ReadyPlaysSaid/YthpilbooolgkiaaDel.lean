/- The place of a number; a place taken out. -/
import Derived.Test.YthpilbooolgkiaaIdx
set_option linter.unusedVariables false
set_option linter.unusedSimpArgs false
namespace Go.Proofs.Ythpilbooolgkiaa
open Go.RowKit

theorem at_any (w : World) (g : Nat) (A : Option Addr) (cap : Nat) (l : List En) (c3 : w.cell? ⟨g, 3, none⟩ = some (.slice A l.length cap)) (h : SL w A cap l) (hl : l.length ≤ 5000) (id : Int) :
    Calls Try.prog 28 #[.pointer (some ⟨g, 0, none⟩), .int .i64 id] w fun r w' => r = .returned (.int .i64 (posOf (fun e => e.id == id) l)) ∧ Upd w w' Nope := by
  have lg := World.block_lt_of_cell? w _ c3
  have lg1 : g < w.heap.size := lg
  have HC := Lib.hid (index_id (w.alloc (.cells #[.int .i64 id] 3)) A cap l (by
    rcases h with h | ⟨q, e, hA⟩
    · exact .inl h
    · exact .inr ⟨q, e, hA.upd ((Upd.refl w Nope).alloc _) (fun h => h)⟩) hl w.heap.size id (((Blk.new w #[.int .i64 id] 3).cell 0).trans rfl))
  have HU := Lib.hid ((Upd.refl w Nope).alloc (.cells #[.int .i64 id] 3))
  clear h
  go_enter Try.func28, Try.ntmps28
  go_wp2_with fail
  refine HC.out.mono ?_
  rintro e w2 ⟨rfl, hU2⟩
  have HU2 := Lib.hid (HU.out.nn hU2)
  clear hU2 HC
  go_wp2_with fail
  go_ret
  exact ⟨rfl, HU2.out⟩
theorem upd_setRow (w : World) (q : Nat) (cs : Array Value) : Upd w (w.setRow q cs) (fun k => k = q) :=
  ⟨rfl, rfl, rfl, by simp, fun k _ hn => setRow_other w q k cs hn⟩
/-- What lies behind an entry moves down by one. -/
theorem Arr.close {w : World} {q cap : Nat} {P S : List En} {x : En} (h : Arr w q cap (P ++ x :: S)) (c : Nat) :
    ∃ w', (Builtin.append_ #[58, 58] 58 #[.slice (some ⟨q, 0, none⟩) P.length cap, .slice (dropA (some ⟨q, 0, none⟩) cap (P.length + 1) 4) S.length c]).run Try.prog w = .ok (.slice (some ⟨q, 0, none⟩) (P.length + S.length) cap) w' ∧ Arr w' q cap (P ++ S) ∧ Upd w w' (fun k => k = q) := by
  obtain ⟨i0, hi, hz0, hz1, hz2⟩ := info_parts infoE
  have hrd := h.rd.dropA (P.length + 1) cap h.le.1
  have hdr : (P ++ x :: S).drop (P.length + 1) = S := by
    have : P ++ x :: S = (P ++ [x]) ++ S := by simp
    rw [this, show P.length + 1 = (P ++ [x]).length by simp, List.drop_left]
  rw [hdr] at hrd
  obtain ⟨cs, h1, h2, h3, h4, h5⟩ := h
  have hlen : (P ++ x :: S).length = P.length + 1 + S.length := by simp; omega
  obtain ⟨a, ha⟩ : ∃ a, dropA (some ⟨q, 0, none⟩) cap (P.length + 1) 4 = some a := by unfold dropA; split <;> exact ⟨_, rfl⟩
  rw [ha] at hrd ⊢
  have hl4 := flat_len vals_len S
  have hPl := flat_len vals_len P
  have hcl : cs.toList.length = cap * 4 := by simpa using h4
  have hfit : P.length * 4 + (S.flatMap En.vals).length ≤ cs.size := by rw [hl4, h4]; omega
  have hap := run_append_room (P := Try.prog) w 58 58 34 i0 Try.underlying58 hi q P.length cap cs h1 a S.length c (S.flatMap En.vals) (by rw [hl4, hz1]) (hrd.news vals_len (by decide)) (fun u hu => by
    obtain ⟨y, _, hy⟩ := List.mem_flatMap.1 hu
    simp [En.vals] at hy
    rcases hy with rfl | rfl | rfl | rfl <;> rfl) (by omega) (by rw [hz1]; exact hfit)
  rw [hz1] at hap
  refine ⟨_, hap, ⟨_, setRow_heap w q cs _ 34 (0, 0) h1, by simp; omega, h3, ?_, ?_⟩, upd_setRow _ _ _⟩
  · simp only [List.size_toArray, List.length_append, List.length_take, List.length_drop, hcl, hl4]
    omega
  · have hP : cs.toList.take (P.length * 4) = P.flatMap En.vals := by
      have := congrArg (List.take (P.length * 4)) h5
      rw [List.take_take, List.flatMap_append, Nat.min_eq_left (by rw [hlen]; omega), List.take_left' hPl] at this
      exact this
    rw [hP, List.flatMap_append, show (P ++ S).length * 4 = (P.flatMap En.vals ++ S.flatMap En.vals).length by simp only [List.length_append, hPl, hl4]; omega]
    exact List.take_left
/-- What lies behind a row is cleared. -/
theorem Arr.wipe {w : World} {q cap : Nat} {l : List En} (h : Arr w q cap l) (hc : l.length + 1 ≤ cap) (c : Nat) : ∃ w', (Builtin.clear_ #[58] 0 #[.slice (some ⟨q, l.length * 4, none⟩) 1 c]).run Try.prog w = .ok (.tuple #[]) w' ∧ Arr w' q cap l ∧ Upd w w' (fun k => k = q) := by
  obtain ⟨cs, h1, h2, h3, h4, h5⟩ := h
  have hv : ∀ w, (zeroValue 34).run Try.prog w = .ok (.agg #[.int .i64 0, .string ByteArray.empty, .int .i64 0, .int .i64 0]) w := fun w => by kernel_rfl
  have hcl : cs.toList.length = cap * 4 := by simpa using h4
  have hst := run_storeCells_at (P := Try.prog) q (l.length * 4) 34 [.int .i64 0, .string ByteArray.empty, .int .i64 0, .int .i64 0] 0 cs w h1 (by simp; omega) (fun v hv => by simp at hv; rcases hv with rfl | rfl | rfl | rfl <;> rfl)
  simp only [Nat.add_zero] at hst
  refine ⟨_, ?_, ⟨_, setRow_heap w q cs (cs.toList.take (l.length * 4) ++ [Value.int .i64 0, Value.string ByteArray.empty, Value.int .i64 0, Value.int .i64 0] ++ cs.toList.drop (l.length * 4 + 4)).toArray 34 (0, 0) h1, h2, h3, ?_, ?_⟩, upd_setRow _ _ _⟩
  · have hz : (Builtin.zeroCells (Value.agg #[.int .i64 0, .string ByteArray.empty, .int .i64 0, .int .i64 0]).cells 1).toList = [.int .i64 0, .string ByteArray.empty, .int .i64 0, .int .i64 0] := by kernel_rfl
    simp [Builtin.clear_, run_underlying Try.underlying58, hv, hz, hst]
  · simp only [List.size_toArray, List.length_append, List.length_take, List.length_drop, hcl, List.length_cons, List.length_nil]
    omega
  · simp only [List.append_assoc]
    rw [List.take_append_of_le_length (by rw [List.length_take]; omega), List.take_take, Nat.min_self]
    exact h5
set_option maxHeartbeats 1000000 in
theorem delete_any (w : World) (q cap : Nat) (P S : List En) (x : En) (hA : Arr w q cap (P ++ x :: S)) (n i : Nat) (hn : n = (P ++ x :: S).length) (hi : i = P.length) (hn1 : n ≤ 5000) :
    Calls Try.prog 34 #[.slice (some ⟨q, 0, none⟩) n cap, .int .i64 i, .int .i64 ((i + 1 : Nat) : Int)] w fun r w' => r = .returned (.slice (some ⟨q, 0, none⟩) (P ++ S).length cap) ∧ Arr w' q cap (P ++ S) ∧ Upd w w' (fun k => k = q) := by
  have hsl : n = P.length + 1 + S.length := by rw [hn]; simp; omega
  obtain ⟨w1, h1, hA1, hU1⟩ := (show Arr w.drew q cap (P ++ x :: S) from hA).close (cap - (i + 1))
  have hle := hA.le
  rw [List.length_append, List.length_cons] at hle
  obtain ⟨w2, h2, hA2, hU2⟩ := hA1.wipe (by rw [List.length_append]; omega) (cap - (i + S.length))
  rw [List.length_append, ← hi] at h2
  rw [← hi] at h1
  obtain ⟨k, hk⟩ : ∃ k, k = i + S.length := ⟨_, rfl⟩
  have hk2 : n = k + 1 := by omega
  rw [← hk] at h2
  rw [hi] at hk
  have hkk : i + S.length = k := by omega
  rw [← hi] at hk
  rw [hkk] at h1
  have hs3 : ∀ W, (Instr.slice 58 (.slice (some ⟨q, 0, none⟩) k cap) (some (.int .i64 k)) (some (.int .i64 n)) none).run Try.prog W = .ok (.slice (some ⟨q, k * 4, none⟩) 1 (cap - k)) W := fun W => by
    obtain ⟨i1, hi1, _, hz11, _⟩ := info_parts infoE
    have hu : Try.prog.underlying 58 = some (.slice (Try.prog.elem 58)) := by rw [elem_of Try.underlying58]; exact Try.underlying58
    rw [run_slice_lh W 58 (some ⟨q, 0, none⟩) k cap hu .i64 .i64 (k : Int) (n : Int) (by omega) (by omega) (by omega), elem_of Try.underlying58]
    have e1 : n - k = 1 := by omega
    have e2 : ¬ cap = k := by omega
    have e3 : (⟨q, 0, none⟩ : Addr).add (k * 4) = ⟨q, k * 4, none⟩ := by simp only [Addr.add]; split <;> simp_all
    simp [sizeOf, typeInfo, hi1, sliced, Result.andThen, hz11, e1, e2, e3]
  have b1 : i < n := by omega
  have b2 : n ≤ cap := by omega
  have b3 : n - (i + 1) = S.length := by omega
  have b4 : i + S.length + 1 = n := by omega
  obtain ⟨i0, hi0, hz0, hz1, hz2⟩ := info_parts infoE
  have hs1 := cut_hi Try.underlying58 hi0 (some ⟨q, 0, none⟩) n cap i i rfl (by omega)
  have hs2 := cut_lo Try.underlying58 hi0 hz1 (some ⟨q, 0, none⟩) n cap (i + 1) ((i : Int) + 1) (by omega) (by omega)
  rw [b3] at hs2
  have hne : ((i : Int) == (i : Int) + 1) = false := by simp; omega
  have HF := Lib.hid (And.intro hA2 ((((Upd.refl w (fun k => k = q)).drew).then_ hU1).then_ hU2))
  have HN := Lib.hid (show (P ++ S).length = k by rw [List.length_append]; omega)
  have HK := Lib.hid (And.intro hk hk2)
  have H2 := Lib.hid h2
  have H4 := Lib.hid b4
  clear hA hn hi hsl hA1 hU1 hA2 hU2 hle hi0 hz0 hz1 hz2 h2 b3 b4 hk hk2 hkk
  go_enter Try.func34, Try.ntmps34
  go_upto_region 5 with (fail)
  clear hne
  haveI : Nonempty AnyW := ⟨⟨w⟩⟩
  refine region_seq [([0, 1, 2, 3, 4, 5], 6)] [7] (by kernel_rfl) (fun w' => ∃ x : AnyW, w' = x.val) (by kernel_rfl) (fun _ _ d _ _ h => by cases d <;> exact h) ⟨⟨w.drew⟩, rfl⟩ ?_
  simp only [segsAt_cons, segsAt_nil, opsAt_cons, opsAt_nil, List.getElem?_toArray, List.getElem?_cons_zero, List.getElem?_cons_succ, consO_some, pairO_some]
  refine wpS_seg ?_
  repeat (first | go_big_quiet_skip | (go_big_quiet_want; go_big_quiet_op; go_big_quiet_on))
  refine wpQuiet_nil ?_
  clear hs1 hs2
  go_wp2_with (first | (at_builtin; refine wpList_append_eq _ _ rfl rfl h1 rfl rfl rfl ?_; clear h1; go_frame) | fail)
  refine ⟨⟨⟨w1⟩, rfl⟩, ?_⟩
  refine wpS_last ?_
  repeat (first | go_big_quiet_skip | (go_big_quiet_want; go_big_quiet_op; go_big_quiet_on))
  refine wpQuiet_nil ?_
  have h2 := H2.out
  have hs3' := hs3
  go_wp2_with fail
  go_ret
  rw [HN.out]
  exact ⟨rfl, HF.out⟩
end Go.Proofs.Ythpilbooolgkiaa
