/- The first one whose destination is free. -/
import Derived.Test.YthpilbooolgkiaaFly
set_option linter.unusedVariables false
set_option linter.unusedSimpArgs false
namespace Go.Proofs.Ythpilbooolgkiaa
open Go.RowKit

/-- What the question captured: the queue, its cap, who flies. -/
structure CapF (w : World) (pR g b : Nat) (limit : Int) (fly : List (Int × ByteArray)) : Prop where
  r : w.cell? ⟨pR, 0, none⟩ = some (.pointer (some ⟨g, 0, none⟩))
  c1 : w.cell? ⟨g, 1, none⟩ = some (.int .i64 limit)
  c4 : w.cell? ⟨g, 4, none⟩ = some (.map (some b))
  m : Mp MS w b fly
theorem CapF.nn {w w' : World} {pR g b : Nat} {limit : Int} {fly : List (Int × ByteArray)} (h : CapF w pR g b limit fly) (u : Upd w w' Nope) : CapF w' pR g b limit fly :=
  ⟨u.cell h.r (fun h => h), u.cell h.c1 (fun h => h), u.cell h.c4 (fun h => h), h.m.upd u (fun h => h)⟩
set_option maxHeartbeats 1000000 in
theorem isFree_any (w : World) (e : En) (pR g b : Nat) (limit : Int) (fly : List (Int × ByteArray)) (hc : CapF w pR g b limit fly) (hl : fly.length ≤ 5000) :
    Calls Try.prog 33 #[.agg #[.int .i64 e.id, .string e.dest, .int .i64 e.pri, .int .i64 e.at_], .pointer (some ⟨pR, 0, none⟩)] w fun r w' => r = .returned (.bool (decide ((cntD e.dest fly : Int) < limit))) ∧ Upd w w' Nope := by
  have l1 := World.block_lt_of_cell? w _ hc.r
  have l2 := World.block_lt_of_cell? w _ hc.c1
  have l1' : pR < w.heap.size := l1
  have l2' : g < w.heap.size := l2
  have HC := Lib.hid hc
  clear hc
  go_enter Try.func33, Try.ntmps33
  go_wp2_with fail
  have hU := (Upd.refl w Nope).alloc (.cells #[.int .i64 e.id, .string e.dest, .int .i64 e.pri, .int .i64 e.at_] 34)
  have hB := Blk.new w #[.int .i64 e.id, .string e.dest, .int .i64 e.pri, .int .i64 e.at_] 34
  have hD := HC.out.nn hU
  generalize w.alloc (.cells #[.int .i64 e.id, .string e.dest, .int .i64 e.pri, .int .i64 e.at_] 34) = w2 at *
  have x1 : w2.cell? ⟨w.heap.size, 1, none⟩ = some (.string e.dest) := (hB.cell 1).trans rfl
  have X1 := fun (z : UW w2) => z.cell x1
  have X2 := fun (z : UW w2) => z.cell hD.r
  have X3 := fun (z : UW w2) => z.cell hD.c1
  have HFL := Lib.hid (fun (z : UW w2) => flying_any z.val g b fly e.dest (z.cell hD.c4) (hD.m.upd z.ok (fun h => h)) hl)
  have HU := Lib.hid hU
  clear hU hB hD x1 hl
  refine region_uw (by kernel_rfl) (by kernel_rfl) ?_
  repeat (first
    | go_big_quiet_skip
    | (go_big_quiet_want; go_big_quiet_op; first | go_big_quiet_on | go_big_quiet_call ((go_at_call 24; with_reducible exact UW.call (HFL.out _)))))
  refine wpQuiet_nil ?_
  rintro _ ⟨z, rfl⟩
  go_wp2
  go_ret
  exact ⟨rfl, HU.out.nn z.ok⟩
set_option maxHeartbeats 1000000 in
theorem index_free (w : World) (A : Option Addr) (cap : Nat) (l : List En) (h : SL w A cap l) (hl : l.length ≤ 5000) (pR g b : Nat) (limit : Int) (fly : List (Int × ByteArray)) (hc : CapF w pR g b limit fly) (hfl : fly.length ≤ 5000) :
    Calls Try.prog 32 #[.slice A l.length cap, .func (.func 33) #[] #[.pointer (some ⟨pR, 0, none⟩)]] w fun r w' => r = .returned (.int .i64 (posOf (fun e => decide ((cntD e.dest fly : Int) < limit)) l)) ∧ Upd w w' Nope := by
  have HS := Lib.hid h
  have HP := Lib.hid hc
  clear h hc
  generalize hpp : (fun e : En => decide ((cntD e.dest fly : Int) < limit)) = pp
  have HPP := Lib.hid hpp
  clear hpp
  go_enter Try.func32, Try.ntmps32
  go_wp2
  go_loopw [8] (fun i wr => ∃ k : Nat, i = .int .i64 k ∧ k ≤ l.length ∧ Upd w wr Nope ∧ posF pp k (l.drop k) = posOf pp l) (fun i _ => l.length - (intOf i).toNat)
  case atStart => exact ⟨0, rfl, by omega, Upd.refl _ _, rfl⟩
  case round =>
    obtain ⟨k, rfl, hk, hU, hpos⟩ := hrel
    by_cases hlt : k < l.length
    · obtain ⟨q, hA⟩ : ∃ q, A = some ⟨q, 0, none⟩ ∧ Arr wr q cap l := by
        rcases HS.out with ⟨rfl, rfl, rfl⟩ | ⟨q, e, hA⟩
        · simp at hlt
        · exact ⟨q, e, hA.upd hU (fun h => h)⟩
      obtain ⟨rfl, hA⟩ := hA
      obtain ⟨x0, x1, x2, x3⟩ := hA.now (i := k) (e := l[k]) (List.getElem?_eq_getElem hlt)
      rw [List.drop_eq_getElem_cons hlt] at hpos
      have HPOS := Lib.hid hpos
      have HU := Lib.hid hU
      have hC := isFree_any wr l[k] pR g b limit fly (HP.out.nn hU) hfl
      rw [show decide ((cntD l[k].dest fly : Int) < limit) = pp l[k] by rw [← HPP.out]] at hC
      have HC := Lib.hid hC
      clear hpos hU hA hC
      go_wp2_with fail
      refine HC.out.mono ?_
      rintro e w2 ⟨rfl, hU2⟩
      have HU2 := Lib.hid (HU.out.nn hU2)
      clear hU2 HC x0 x1 x2 x3
      by_cases he : pp l[k] = true
      · have hfin : posOf pp l = (k : Int) := by
          have := HPOS.out
          unfold posF at this
          rw [if_pos he] at this
          exact this.symm
        have HF := Lib.hid hfin
        clear hfin
        go_wp2
        go_ret
        refine ⟨?_, HU2.out⟩
        rw [HF.out]
        rfl
      · have he' : pp l[k] = false := by simpa using he
        have hn : posF pp (k + 1) (l.drop (k + 1)) = posOf pp l := by
          have := HPOS.out
          unfold posF at this
          rw [if_neg he] at this
          exact this
        have HN := Lib.hid hn
        clear hn he
        go_wp2
        go_roundw
        case rel => exact ⟨k + 1, by go_num, by omega, HU2.out, HN.out⟩
        case measure => simp [intOf]; omega
    · obtain rfl : k = l.length := by omega
      rw [List.drop_length] at hpos
      have HF := Lib.hid (And.intro hpos hU)
      clear hpos hU
      go_wp2
      go_ret
      refine ⟨?_, HF.out.2⟩
      rw [← HF.out.1]
      rfl
end Go.Proofs.Ythpilbooolgkiaa
