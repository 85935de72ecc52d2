/- The contract of frame.Scan's closure. -/
import Derived.Test.YtaipepioomkgpaaPrint
import Derived.Deep.RegionWith
import Derived.Deep.AppendLies
import Derived.Deep.RegionLaw
set_option linter.unusedVariables false
set_option linter.unusedSimpArgs false
namespace Go.Proofs.Ytaipepioomkgpaa
open Go.RowKit
attribute [local go_sem] le2_length le4_length le2_size le4_size ByteArray.size_append

/-- What stands at the front of bytes: is it a frame, and how long is its record? -/
def headOk (t : List UInt8) : Bool := le4 (crcOf (t.take 2)) == (t.drop 2).take 4
def lenOf (t : List UInt8) : Nat := (t.getD 0 0).toNat + 256 * (t.getD 1 0).toNat
def bodyOk (t : List UInt8) : Bool := le4 (crcOf ((t.drop 6).take (lenOf t))) == (t.drop (6 + lenOf t)).take 4

theorem lenOf_bits (t : ByteArray) (h0 : 0 < t.size) (h1 : 1 < t.size) :
    bits .or .i64 (wrap64 ((t[0]'h0).toNat : Int)) (wrap64 (wrap64 ((t[1]'h1).toNat : Int) * 256)) = (lenOf t.data.toList : Nat) := by
  have b0 := (t[0]'h0).toNat_lt
  have b1 := (t[1]'h1).toNat_lt
  rw [wrap64_in (by omega) (by omega), wrap64_in (x := ((t[1]'h1).toNat : Int)) (by omega) (by omega), wrap64_in (by omega) (by omega)]
  have e := bits_join .i64 62 (by decide) (fun n h h' => by rw [IntKind.wrap_i64]; omega) 8 (((t[1]'h1).toNat : Int) * 256) ((t[0]'h0).toNat : Int) (by omega) (by omega) (by omega) (by omega) (by omega) (by omega)
  have ec : bits .or .i64 ((t[0]'h0).toNat : Int) (((t[1]'h1).toNat : Int) * 256) = bits .or .i64 (((t[1]'h1).toNat : Int) * 256) ((t[0]'h0).toNat : Int) := by
    have e1 := (bits_nat .i64 62 (by decide) (fun n h h' => by rw [IntKind.wrap_i64]; omega) (t[0]'h0).toNat ((t[1]'h1).toNat * 256) (by omega) (by omega)).2
    have e2 := (bits_nat .i64 62 (by decide) (fun n h h' => by rw [IntKind.wrap_i64]; omega) ((t[1]'h1).toNat * 256) (t[0]'h0).toNat (by omega) (by omega)).2
    rw [Int.natCast_mul] at e1 e2
    rw [show ((256 : Nat) : Int) = 256 from rfl] at e1 e2
    rw [e1, e2, Nat.or_comm]
  rw [ec, e]
  have g0 : t.data.toList.getD 0 0 = t[0]'h0 := by
    have h' : 0 < t.data.size := h0
    simp [List.getD]
    rw [Array.getElem?_eq_getElem h']
    rfl
  have g1 : t.data.toList.getD 1 0 = t[1]'h1 := by
    have h' : 1 < t.data.size := h1
    simp [List.getD]
    rw [Array.getElem?_eq_getElem h']
    rfl
  unfold lenOf
  rw [g0, g1]
  omega
theorem lenOf_lt (t : List UInt8) : lenOf t < 65536 := by
  unfold lenOf
  have b0 := (t.getD 0 0).toNat_lt
  have b1 := (t.getD 1 0).toNat_lt
  omega

set_option maxHeartbeats 2000000 in
theorem one_short (s t : ByteArray) (at_ bs bat bo : Nat) (w : World) (h0 : w.cell? ⟨bs, 0, none⟩ = some (.string s)) (h1 : w.cell? ⟨bat, 0, none⟩ = some (.int .i64 at_))
    (ha : at_ ≤ s.size) (hs : s.size ≤ 140737488351232) (ht : s.extract at_ s.size = t) (hno : t.size < 10) :
    Calls Try.prog 23 #[.pointer (some ⟨bs, 0, none⟩), .pointer (some ⟨bat, 0, none⟩), .pointer (some ⟨bo, 0, none⟩)] w fun e w' => e = .returned (.bool false) ∧ Upd w w' Nope := by
  have hno' : decide ((t.size : Int) < 10) = true := by simp; omega
  have HT := Lib.hid ht
  clear ht hno
  go_enter Try.func23, Try.ntmps23
  go_wp2_with fail
  rw [HT.out]
  clear HT
  go_quiet (fail)
  go_wp2
  go_ret
  exact ⟨rfl, (Upd.refl _ _).drewN _⟩

set_option maxHeartbeats 2000000 in
theorem one_head (s t : ByteArray) (at_ bs bat bo : Nat) (w : World) (h0 : w.cell? ⟨bs, 0, none⟩ = some (.string s)) (h1 : w.cell? ⟨bat, 0, none⟩ = some (.int .i64 at_))
    (ha : at_ ≤ s.size) (hs : s.size ≤ 140737488351232) (ht : s.extract at_ s.size = t) (hn1 : 10 ≤ t.size) (hts : t.size ≤ 140737488351232) (hh : headOk t.data.toList = false) :
    Calls Try.prog 23 #[.pointer (some ⟨bs, 0, none⟩), .pointer (some ⟨bat, 0, none⟩), .pointer (some ⟨bo, 0, none⟩)] w fun e w' => e = .returned (.bool false) ∧ Upd w w' Nope := by
  have hno' : decide ((t.size : Int) < 10) = false := by simp; omega
  have hq2 : (2 : Int) ≤ t.size := by omega
  have hq6 : (6 : Int) ≤ t.size := by omega
  have hhd : (le4 (crcOf (List.take 2 t.data.toList)) == (t.extract 2 6).toList) = false := by rw [ByteArray.toList_eq, ext_list]; exact hh
  have HT := Lib.hid ht
  clear ht hh
  go_enter Try.func23, Try.ntmps23
  go_wp2_with fail
  rw [HT.out]
  clear HT
  refine region_uw (by kernel_rfl) (by kernel_rfl) ?_
  repeat (go_big_quiet_step (first | (go_at_call 15; exact UW.call (sum_any _ _ (by simp; omega))) | (go_at_call 20; exact UW.call (num4_any _ _ (crcOf_lt _)))))
  refine wpQuiet_nil ?_
  rintro _ ⟨x, rfl⟩
  go_wp2
  go_ret
  exact ⟨rfl, x.ok⟩

set_option maxHeartbeats 4000000 in
theorem one_body (s t : ByteArray) (at_ bs bat bo : Nat) (w : World) (h0 : w.cell? ⟨bs, 0, none⟩ = some (.string s)) (h1 : w.cell? ⟨bat, 0, none⟩ = some (.int .i64 at_))
    (ha : at_ ≤ s.size) (hs : s.size ≤ 140737488351232) (ht : s.extract at_ s.size = t) (hn1 : 10 ≤ t.size) (hts : t.size ≤ 140737488351232) (hh : headOk t.data.toList = true) (hno : t.size < lenOf t.data.toList + 10 ∨ bodyOk t.data.toList = false) :
    Calls Try.prog 23 #[.pointer (some ⟨bs, 0, none⟩), .pointer (some ⟨bat, 0, none⟩), .pointer (some ⟨bo, 0, none⟩)] w fun e w' => e = .returned (.bool false) ∧ Upd w w' Nope := by
  have hno' : decide ((t.size : Int) < 10) = false := by simp; omega
  have hq2 : (2 : Int) ≤ t.size := by omega
  have hq6 : (6 : Int) ≤ t.size := by omega
  have hhd : (le4 (crcOf (List.take 2 t.data.toList)) == (t.extract 2 6).toList) = true := by rw [ByteArray.toList_eq, ext_list]; exact hh
  have HT := Lib.hid ht
  clear ht hh
  go_enter Try.func23, Try.ntmps23
  go_wp2_with fail
  rw [HT.out]
  clear HT
  refine region_uw (by kernel_rfl) (by kernel_rfl) ?_
  repeat (go_big_quiet_step (first | (go_at_call 15; exact UW.call (sum_any _ _ (by simp; omega))) | (go_at_call 20; exact UW.call (num4_any _ _ (crcOf_lt _)))))
  refine wpQuiet_nil ?_
  rintro _ ⟨x, rfl⟩
  go_wp2_with fail
  have hi0 : (0 : Int) < t.size := by omega
  have hi1 : (1 : Int) < t.size := by omega
  have hj0 : 0 < t.size := by omega
  have hj1 : 1 < t.size := by omega
  refine region_uw (by kernel_rfl) (by kernel_rfl) ?_
  repeat (go_big_quiet_step (fail))
  refine wpQuiet_nil ?_
  rintro _ ⟨x2, rfl⟩
  have e := lenOf_bits t hj0 hj1
  have hl := lenOf_lt t.data.toList
  have hu2 : Upd w x2.val Nope := x.ok.nn x2.ok
  have hbd : bodyOk t.data.toList = (le4 (crcOf ((t.data.toList.drop 6).take (lenOf t.data.toList))) == (t.data.toList.drop (6 + lenOf t.data.toList)).take 4) := rfl
  rw [hbd] at hno
  clear hbd
  simp only [e]
  clear e
  generalize lenOf t.data.toList = n at hl hno ⊢
  by_cases hsz : t.size < n + 10
  · have hsz' : decide ((t.size : Int) < (n : Int) + 10) = true := by simp; omega
    clear hno
    go_wp2_with fail
    refine region_uw (by kernel_rfl) (by kernel_rfl) ?_
    repeat (go_big_quiet_step (fail))
    refine wpQuiet_nil ?_
    rintro _ ⟨x3, rfl⟩
    go_wp2
    go_ret
    exact ⟨rfl, hu2.nn x3.ok⟩
  · have hsz' : decide ((t.size : Int) < (n : Int) + 10) = false := by simp; omega
    have hno' := hno.resolve_left hsz
    have r1 : (6 : Int) + n ≤ t.size := by omega
    have r2 : (n : Int) + 10 ≤ t.size := by omega
    have r3 : (6 : Int) ≤ 6 + n := by omega
    have r4 : (6 : Int) + n ≤ n + 10 := by omega
    clear hno
    go_wp2_with fail
    have hsl := slice_str (P := Try.prog) Try.underlying9 t (6 + (n : Int)) ((n : Int) + 10) (6 + n) (n + 10) (by omega) (by omega) (by omega) (by omega)
    have hbd2 : (le4 (crcOf (List.take n (List.drop 6 t.data.toList))) == (t.extract (6 + n) (n + 10)).toList) = false := by
      rw [ByteArray.toList_eq, ext_list, show n + 10 - (6 + n) = 4 by omega]; exact hno'
    refine region_uw (by kernel_rfl) (by kernel_rfl) ?_
    repeat (go_big_quiet_step (first | (go_at_call 15; exact UW.call (sum_any _ _ (by simp; omega))) | (go_at_call 20; exact UW.call (num4_any _ _ (crcOf_lt _)))))
    refine wpQuiet_nil ?_
    rintro _ ⟨x3, rfl⟩
    go_wp2
    go_ret
    exact ⟨rfl, hu2.nn x3.ok⟩

theorem infoS : (Try.prog.info? 9).map (fun i => (i.zero, i.size, i.bytes)) = some (some (.string ByteArray.empty), 1, 16) := by kernel_rfl

/-- What the closure leaves when it takes a record of n bytes. -/
def OnePost (w : World) (bat bo B : Nat) (vout : Value) (xs : List ByteArray) (to : Nat) (r : ByteArray) (w' : World) : Prop :=
  ∃ g cap, Blk w' bat #[.int .i64 (to : Int)] 3 ∧ Blk w' bo #[.slice (some ⟨g, 0, none⟩) (xs.length + 1) cap] 22 ∧ w'.ownsRow B 9 1 (.slice (some ⟨g, 0, none⟩) (xs.length + 1) cap) (xs.length + 1) ((xs ++ [r]).map Value.string) ∧
      (vout.ownBlock = some g ∨ w.heap.size ≤ g) ∧ Upd w w' (fun k => k = bat ∨ k = bo ∨ vout.ownBlock = some k)

set_option maxHeartbeats 4000000 in
theorem one_yes (s t : ByteArray) (at_ bs bat bo B : Nat) (vout : Value) (xs : List ByteArray) (w : World) (h0 : w.cell? ⟨bs, 0, none⟩ = some (.string s)) (h1 : Blk w bat #[.int .i64 at_] 3) (h2 : Blk w bo #[vout] 22)
    (ho : w.ownsRow B 9 1 vout xs.length (xs.map Value.string)) (hB : B ≤ w.heap.size) (hxs : xs.length ≤ 1000000)
    (ha : at_ ≤ s.size) (hs : s.size ≤ 140737488351232) (ht : s.extract at_ s.size = t) (hn1 : 10 ≤ t.size) (hts : t.size ≤ 140737488351232) (hh : headOk t.data.toList = true) (hln : lenOf t.data.toList + 10 ≤ t.size) (hok : bodyOk t.data.toList = true) :
    Calls Try.prog 23 #[.pointer (some ⟨bs, 0, none⟩), .pointer (some ⟨bat, 0, none⟩), .pointer (some ⟨bo, 0, none⟩)] w fun e w' => e = .returned (.bool true) ∧
      OnePost w bat bo B vout xs (at_ + (lenOf t.data.toList + 10)) (t.extract 6 (6 + lenOf t.data.toList)) w' := by
  obtain ⟨i0, hi, hz0, hz1, hz2⟩ := info_parts infoS
  have c1 : w.cell? ⟨bat, 0, none⟩ = some (.int .i64 at_) := (h1.cell 0).trans rfl
  have hno' : decide ((t.size : Int) < 10) = false := by simp; omega
  have hq2 : (2 : Int) ≤ t.size := by omega
  have hq6 : (6 : Int) ≤ t.size := by omega
  have hhd : (le4 (crcOf (List.take 2 t.data.toList)) == (t.extract 2 6).toList) = true := by rw [ByteArray.toList_eq, ext_list]; exact hh
  have HT := Lib.hid ht
  clear ht hh
  go_enter Try.func23, Try.ntmps23
  go_wp2_with fail
  rw [HT.out]
  clear HT
  refine region_uw (by kernel_rfl) (by kernel_rfl) ?_
  repeat (go_big_quiet_step (first | (go_at_call 15; exact UW.call (sum_any _ _ (by simp; omega))) | (go_at_call 20; exact UW.call (num4_any _ _ (crcOf_lt _)))))
  refine wpQuiet_nil ?_
  rintro _ ⟨x, rfl⟩
  go_wp2_with fail
  have hi0 : (0 : Int) < t.size := by omega
  have hi1 : (1 : Int) < t.size := by omega
  have hj0 : 0 < t.size := by omega
  have hj1 : 1 < t.size := by omega
  refine region_uw (by kernel_rfl) (by kernel_rfl) ?_
  repeat (go_big_quiet_step (fail))
  refine wpQuiet_nil ?_
  rintro _ ⟨x2, rfl⟩
  have e := lenOf_bits t hj0 hj1
  have hl := lenOf_lt t.data.toList
  have hu2 : Upd w x2.val Nope := x.ok.nn x2.ok
  have hbd : bodyOk t.data.toList = (le4 (crcOf ((t.data.toList.drop 6).take (lenOf t.data.toList))) == (t.data.toList.drop (6 + lenOf t.data.toList)).take 4) := rfl
  rw [hbd] at hok
  clear hbd
  simp only [e]
  clear e
  generalize hN : lenOf t.data.toList = n at hl hok hln ⊢
  have HN := Lib.hid hN
  clear hN
  have hsz' : decide ((t.size : Int) < (n : Int) + 10) = false := by simp; omega
  have r1 : (6 : Int) + n ≤ t.size := by omega
  have r2 : (n : Int) + 10 ≤ t.size := by omega
  have r3 : (6 : Int) ≤ 6 + n := by omega
  go_wp2_with fail
  have hsl := slice_str (P := Try.prog) Try.underlying9 t (6 + (n : Int)) ((n : Int) + 10) (6 + n) (n + 10) (by omega) (by omega) (by omega) (by omega)
  have hbd2 : (le4 (crcOf (List.take n (List.drop 6 t.data.toList))) == (t.extract (6 + n) (n + 10)).toList) = true := by
    rw [ByteArray.toList_eq, ext_list, show n + 10 - (6 + n) = 4 by omega]; exact hok
  clear hok
  refine region_uw (by kernel_rfl) (by kernel_rfl) ?_
  repeat (go_big_quiet_step (first | (go_at_call 15; exact UW.call (sum_any _ _ (by simp; omega))) | (go_at_call 20; exact UW.call (num4_any _ _ (crcOf_lt _)))))
  refine wpQuiet_nil ?_
  rintro _ ⟨x3, rfl⟩
  have hu3 : Upd w x3.val Nope := hu2.nn x3.ok
  have hbat := h1.upd hu3 id
  have hbo := h2.upd hu3 id
  have hown : x3.val.ownsRow B 9 1 vout xs.length (xs.map Value.string) := ho.kept (row := none) ⟨hu3.os, hu3.tape, hu3.output, hu3.size, fun k hk _ => hu3.block k hk id⟩ (by cases vout.ownBlock <;> simp)
  have hB3 : B ≤ x3.val.heap.size := Nat.le_trans hB hu3.size
  generalize x3.val = W at hbat hbo hown hu3 hB3 ⊢
  have hlo := hbo.lt
  have hla := hbat.lt
  have co : W.cell? ⟨bo, 0, none⟩ = some vout := (hbo.cell 0).trans rfl
  go_wp2_with fail
  have hs6 := slice_str (P := Try.prog) Try.underlying9 t 6 (6 + (n : Int)) 6 (6 + n) rfl (by omega) (by omega) (by omega)
  have hw6 : IntKind.i64.wrap (6 + (n : Int)) = 6 + (n : Int) := by rw [IntKind.wrap_i64]; omega
  generalize hrr : t.extract 6 (6 + n) = rr at hs6 ⊢
  have HRR := Lib.hid hrr
  clear hrr
  have hrow := World.news_of_block (heap_alloc_new W.drew (.cells #[.string rr] 9))
  have hne : ∀ k, vout.ownBlock = some k → k ≠ bo := fun k hk e => by
    subst e
    rcases hown.2 with ⟨rfl, _⟩ | ⟨q, cap, cur, rfl, _, hq, _⟩
    · simp [Value.ownBlock] at hk
    · simp [Value.ownBlock] at hk
      subst hk
      exact (Blk.ne hbo hq (by decide)) rfl
  go_region_law (refine step_append_lies _ rfl (.tmp 49) (.tmp 54) 22 rfl B 9 i0 (.string ByteArray.empty) 1 16 Try.underlying22 hi hz0 hz1 hz2 rfl (by omega) vout xs.length (xs.map Value.string) rfl ((hown.drew).alloc _) ⟨W.heap.size, 0, none⟩ 1 1 [.string rr] rfl rfl hrow (by simp [Value.oneCell']) (by omega) (by unfold maxLen; omega) (by omega) (by simp; omega) _ rfl ?_; intro g cap w1 hown' hgrow hat hlt; have hb1 : Blk w1 bo #[vout] 22 := (hgrow.block bo (by simp; omega) (fun e => hne _ e.symm rfl)).trans ((hbo.drew).alloc _); have cw1 : w1.cell? ⟨bo, 0, none⟩ = some vout := (hb1.cell 0).trans rfl; have fw1 := hb1.frozen 0)
  all_goals
    have hba1 : Blk w1 bat #[.int .i64 at_] 3 := (hgrow.block bat (by simp; omega) (fun e => by
      rcases hown.2 with ⟨rfl, _⟩ | ⟨q, cap, cur, rfl, _, hq, _⟩
      · simp [Value.ownBlock] at e
      · simp [Value.ownBlock] at e
        subst e
        exact (Blk.ne hbat hq (by decide)) rfl)).trans ((hbat.drew).alloc _)
    have hne2 : bo ≠ bat := Blk.ne hb1 hba1 (by decide)
    have hb2 : Blk (w1.setCell ⟨bo, 0, none⟩ (.slice (some ⟨g, 0, none⟩) (xs.length + 1) cap)) bo #[.slice (some ⟨g, 0, none⟩) (xs.length + 1) cap] 22 := by simpa using hb1.set 0 (.slice (some ⟨g, 0, none⟩) (xs.length + 1) cap)
    have hba2 := hba1.far (p := ⟨bo, 0, none⟩) (fun e => hne2 e.symm) (.slice (some ⟨g, 0, none⟩) (xs.length + 1) cap)
    have hown2 := hown'.kept (w' := w1.setCell ⟨bo, 0, none⟩ (.slice (some ⟨g, 0, none⟩) (xs.length + 1) cap)) (row := some bo) ⟨rfl, rfl, rfl, by simp [World.setCell], fun k hk hn => Below.heap_setCell _ _ _ _ (fun e => hn (by rw [e]))⟩ (.inr (by
      rintro e
      simp [Value.ownBlock] at e
      subst e
      rcases hown'.2 with ⟨h, _⟩ | ⟨q, cap', cur, h, _, hq, _⟩
      · cases h
      · cases h
        exact (Blk.ne hb1 hq (by decide)) rfl))
    have hu4 : Upd w (w1.setCell ⟨bo, 0, none⟩ (.slice (some ⟨g, 0, none⟩) (xs.length + 1) cap)) (fun k => k = bat ∨ k = bo ∨ vout.ownBlock = some k) := by
      refine Upd.set ?_ _ _ (.inl (.inr (.inl rfl)))
      exact (((hu3.mono (fun _ _ h => h.elim)).drew).alloc _).grown hgrow (fun k e => .inl (.inr (.inr e)))
    have hloc : vout.ownBlock = some g ∨ w.heap.size ≤ g := by
      rcases hat with e | e
      · exact .inl e
      · have := hu3.size
        simp at e
        exact .inr (by omega)
    clear hgrow hown' cw1 fw1 hat
    generalize w1.setCell ⟨bo, 0, none⟩ (.slice (some ⟨g, 0, none⟩) (xs.length + 1) cap) = w2 at hb2 hba2 hown2 hu4 ⊢
    have c2 : w2.cell? ⟨bat, 0, none⟩ = some (.int .i64 at_) := (hba2.cell 0).trans rfl
    have f2 := hba2.frozen 0
    go_wp2
    go_ret
    refine ⟨rfl, g, cap, ?_, ?_, ?_, hloc, ?_⟩
    · have := hba2.set 0 (.int .i64 ((at_ : Int) + ((n : Int) + 10)))
      rw [HN.out, show (((at_ + (n + 10) : Nat)) : Int) = (at_ : Int) + ((n : Int) + 10) by omega]
      simpa using this
    · exact hb2.far (p := ⟨bat, 0, none⟩) hne2 _
    · have hk := hown2.kept (w' := w2.setCell ⟨bat, 0, none⟩ (.int .i64 ((at_ : Int) + ((n : Int) + 10)))) (row := some bat) ⟨rfl, rfl, rfl, by simp [World.setCell], fun k hk hn => Below.heap_setCell _ _ _ _ (fun e => hn (by rw [e]))⟩ (.inr (by
        rintro e
        simp [Value.ownBlock] at e
        subst e
        rcases hown2.2 with ⟨h, _⟩ | ⟨q, cap', cur, h, _, hq, _⟩
        · cases h
        · cases h
          exact (Blk.ne hba2 hq (by decide)) rfl))
      rw [HN.out, HRR.out]
      simpa using hk
    · exact hu4.set _ _ (.inl (.inl rfl))
end Go.Proofs.Ytaipepioomkgpaa
