/- Two rows of entries, exchanged. -/
import Derived.Test.YthpilbooolgkiaaIns
set_option linter.unusedVariables false
set_option linter.unusedSimpArgs false
namespace Go.Proofs.Ythpilbooolgkiaa
open Go.RowKit

/-- A world in which two entries lie in a row. -/
structure U2 (q I J : Nat) (u v : En) where mk ::
  val : World
  x0 : val.cell? ⟨q, I * 4, none⟩ = some (.int .i64 u.id)
  x1 : val.cell? ⟨q, I * 4 + 1, none⟩ = some (.string u.dest)
  x2 : val.cell? ⟨q, I * 4 + 2, none⟩ = some (.int .i64 u.pri)
  x3 : val.cell? ⟨q, I * 4 + 3, none⟩ = some (.int .i64 u.at_)
  y0 : val.cell? ⟨q, J * 4, none⟩ = some (.int .i64 v.id)
  y1 : val.cell? ⟨q, J * 4 + 1, none⟩ = some (.string v.dest)
  y2 : val.cell? ⟨q, J * 4 + 2, none⟩ = some (.int .i64 v.pri)
  y3 : val.cell? ⟨q, J * 4 + 3, none⟩ = some (.int .i64 v.at_)
def U2.of {w : World} {q cap I J : Nat} {arr : List En} {u v : En} (h : Arr w q cap arr) (hx : arr[I]? = some u) (hy : arr[J]? = some v) : U2 q I J u v :=
  have a := h.now hx
  have b := h.now hy
  ⟨w, a.1, a.2.1, a.2.2.1, a.2.2.2, b.1, b.2.1, b.2.2.1, b.2.2.2⟩
def exch (P U Q V S : List En) (i : Nat) : List En := P ++ (V.take i ++ U.drop i) ++ Q ++ (U.take i ++ V.drop i) ++ S
theorem exch_at {P U Q V S : List En} {i : Nat} (hU : i < U.length) (hV : U.length = V.length) :
    (exch P U Q V S i)[P.length + i]? = some U[i] ∧ (exch P U Q V S i)[P.length + U.length + Q.length + i]? = some (V[i]'(by omega)) ∧
    ((exch P U Q V S i).set (P.length + i) (V[i]'(by omega))).set (P.length + U.length + Q.length + i) U[i] = exch P U Q V S (i + 1) := by
  have hv : i < V.length := by omega
  have e1 : U.drop i = U[i] :: U.drop (i + 1) := List.drop_eq_getElem_cons hU
  have e2 : V.drop i = V[i] :: V.drop (i + 1) := List.drop_eq_getElem_cons hv
  have e3 : exch P U Q V S i = (P ++ V.take i) ++ U[i] :: (U.drop (i + 1) ++ Q ++ U.take i ++ V[i] :: (V.drop (i + 1) ++ S)) := by
    unfold exch; rw [e1, e2]; simp only [List.append_assoc, List.cons_append]
  have e4 : exch P U Q V S i = (P ++ V.take i ++ U[i] :: U.drop (i + 1) ++ Q ++ U.take i) ++ V[i] :: (V.drop (i + 1) ++ S) := by
    unfold exch; rw [e1, e2]; simp only [List.append_assoc, List.cons_append]
  have l3 : (P ++ V.take i).length = P.length + i := by simp; omega
  have l4 : (P ++ V.take i ++ U[i] :: U.drop (i + 1) ++ Q ++ U.take i).length = P.length + U.length + Q.length + i := by simp; omega
  have l5 : (P ++ V.take i ++ V[i] :: U.drop (i + 1) ++ Q ++ U.take i).length = P.length + U.length + Q.length + i := by simp; omega
  refine ⟨?_, ?_, ?_⟩
  · rw [e3, ← l3]; exact at_mid _ _ _
  · rw [e4, ← l4]; exact at_mid _ _ _
  · rw [e3, ← l3, set_mid]
    have e5 : (P ++ V.take i) ++ V[i] :: (U.drop (i + 1) ++ Q ++ U.take i ++ V[i] :: (V.drop (i + 1) ++ S)) = (P ++ V.take i ++ V[i] :: U.drop (i + 1) ++ Q ++ U.take i) ++ V[i] :: (V.drop (i + 1) ++ S) := by simp
    rw [e5, ← l5, set_mid]
    unfold exch
    rw [List.take_succ_eq_append_getElem hU, List.take_succ_eq_append_getElem hv]
    simp only [List.append_assoc, List.cons_append, List.nil_append]
theorem exch_start (P U Q V S : List En) : exch P U Q V S 0 = P ++ U ++ Q ++ V ++ S := by simp [exch]
theorem exch_end {P U Q V S : List En} (hV : U.length = V.length) : exch P U Q V S U.length = P ++ V ++ Q ++ U ++ S := by
  unfold exch
  rw [List.take_length, List.drop_length, List.take_of_length_le (by omega), List.drop_eq_nil_of_le (by omega)]
  simp
set_option maxHeartbeats 4000000 in
theorem swapRange_any (w : World) (q cap : Nat) (P U Q V S : List En) (hA : Arr w q cap (P ++ U ++ Q ++ V ++ S)) (hV : U.length = V.length) (a b n k : Nat) (ha : a = P.length) (hb : b = P.length + U.length + Q.length) (hk : k = U.length) (hn : n = (P ++ U ++ Q ++ V ++ S).length) (hn1 : n ≤ 1000) (f : Value) :
    Calls Try.prog 46 #[.slice (some ⟨q, 0, none⟩) n cap, .int .i64 a, .int .i64 b, .int .i64 k, f] w
      fun e w' => e = .returned (.tuple #[]) ∧ Arr w' q cap (P ++ V ++ Q ++ U ++ S) ∧ Upd w w' (fun i => i = q) := by
  have hln : a + k ≤ b ∧ b + k ≤ n := by
    simp only [List.length_append] at hn
    omega
  have h0 : Arr w q cap (exch P U Q V S 0) := by rw [exch_start]; exact hA
  have HA := Lib.hid h0
  have HE := Lib.hid (And.intro ha (And.intro hb (And.intro hk hV)))
  obtain ⟨l1, l2⟩ := hln
  clear hA hV ha hb hk hn h0
  go_enter Try.func46, Try.ntmps46
  go_wp2
  go_loopw [10] (fun i wr => ∃ t : Nat, i = .int .i64 t ∧ t ≤ k ∧ Arr wr q cap (exch P U Q V S t) ∧ Upd w wr (fun i => i = q)) (fun i _ => k - (intOf i).toNat)
  case atStart => exact ⟨0, rfl, by omega, HA.out, Upd.refl _ _⟩
  case round =>
    obtain ⟨t, rfl, ht, hA, hU⟩ := hrel
    by_cases hlt : t < k
    · have hE := HE.out
      obtain ⟨u, v, x1, x2, x3⟩ : ∃ u v, (exch P U Q V S t)[a + t]? = some u ∧ (exch P U Q V S t)[b + t]? = some v ∧ ((exch P U Q V S t).set (a + t) v).set (b + t) u = exch P U Q V S (t + 1) := by
        obtain ⟨x1, x2, x3⟩ := exch_at (P := P) (U := U) (Q := Q) (V := V) (S := S) (i := t) (by omega) hE.2.2.2
        have ea : P.length + t = a + t := by omega
        have eb : P.length + U.length + Q.length + t = b + t := by omega
        rw [ea, eb] at x3
        rw [ea] at x1
        rw [eb] at x2
        exact ⟨_, _, x1, x2, x3⟩
      have HI2 := Lib.hid (And.intro x1 (And.intro x2 (show a + t ≠ b + t by omega)))
      have HX3 := Lib.hid x3
      have HAR := Lib.hid hA
      have HUR := Lib.hid hU
      clear hE x1 x2 x3 hA hU
      have b1 : a + t < n := by omega
      have b2 : b + t < n := by omega
      go_upto_region 3 with (fail)
      have hAd : Arr wr.drew q cap (exch P U Q V S t) := HAR.out
      have hUd : Upd w wr (fun i => i = q) := HUR.out
      obtain ⟨X, hX⟩ : ∃ X : U2 q (a + t) (b + t) u v, X.val = wr.drew := ⟨U2.of hAd HI2.out.1 HI2.out.2.1, rfl⟩
      haveI : Nonempty AnyW := ⟨⟨w⟩⟩
      haveI : Nonempty (U2 q (a + t) (b + t) u v) := ⟨X⟩
      refine region_tree 21 [20, 19, 18, 17, 16, 15, 14, 13, 12, 11, 10, 9, 8, 3, 2, 1, 0] (by kernel_rfl) (fun w' => ∃ z : U2 q (a + t) (b + t) u v, w' = z.val) (by kernel_rfl) (fun _ _ d _ _ h => by cases d <;> exact h) ⟨X, hX.symm⟩ ?_
      intro hR
      have HRG := Lib.hid hR
      have Xx0 := fun (z : U2 q (a + t) (b + t) u v) => z.x0
      have Xx1 := fun (z : U2 q (a + t) (b + t) u v) => z.x1
      have Xx2 := fun (z : U2 q (a + t) (b + t) u v) => z.x2
      have Xx3 := fun (z : U2 q (a + t) (b + t) u v) => z.x3
      have Xy0 := fun (z : U2 q (a + t) (b + t) u v) => z.y0
      have Xy1 := fun (z : U2 q (a + t) (b + t) u v) => z.y1
      have Xy2 := fun (z : U2 q (a + t) (b + t) u v) => z.y2
      have Xy3 := fun (z : U2 q (a + t) (b + t) u v) => z.y3
      clear hR
      refine WA.segP HRG.out 20 [4, 5, 6, 7] rfl (by kernel_rfl) ?_
      simp only [opsAt_cons, opsAt_nil, List.getElem?_toArray, List.getElem?_cons_zero, List.getElem?_cons_succ, consO_some]
      repeat (first | go_big_quiet_skip | (go_big_quiet_want; go_big_quiet_op; go_big_quiet_on))
      refine wpQuiet_nil ?_
      refine WA.seg HRG.out 3 [0, 1, 2, 3, 8, 9, 10, 11, 12, 13, 14, 15, 16, 17, 18, 19, 20] rfl (by kernel_rfl) ?_
      simp only [opsAt_cons, opsAt_nil, List.getElem?_toArray, List.getElem?_cons_zero, List.getElem?_cons_succ, consO_some]
      repeat (first | go_big_quiet_skip | (go_big_quiet_want; go_big_quiet_op; go_big_quiet_on))
      refine wpQuiet_nil ?_
      clear Xx0 Xx1 Xx2 Xx3 Xy0 Xy1 Xy2 Xy3
      have cx0 : wr.cell? ⟨q, (a + t) * 4, none⟩ = some (.int .i64 u.id) := by have := X.x0; rw [hX] at this; exact this
      have fx0 : wr.frozen? ⟨q, (a + t) * 4, none⟩ = false := hAd.frozen _
      have cx1 : wr.cell? ⟨q, (a + t) * 4 + 1, none⟩ = some (.string u.dest) := by have := X.x1; rw [hX] at this; exact this
      have fx1 : wr.frozen? ⟨q, (a + t) * 4 + 1, none⟩ = false := hAd.frozen _
      have cx2 : wr.cell? ⟨q, (a + t) * 4 + 2, none⟩ = some (.int .i64 u.pri) := by have := X.x2; rw [hX] at this; exact this
      have fx2 : wr.frozen? ⟨q, (a + t) * 4 + 2, none⟩ = false := hAd.frozen _
      have cx3 : wr.cell? ⟨q, (a + t) * 4 + 3, none⟩ = some (.int .i64 u.at_) := by have := X.x3; rw [hX] at this; exact this
      have fx3 : wr.frozen? ⟨q, (a + t) * 4 + 3, none⟩ = false := hAd.frozen _
      have cy0 : wr.cell? ⟨q, (b + t) * 4, none⟩ = some (.int .i64 v.id) := by have := X.y0; rw [hX] at this; exact this
      have fy0 : wr.frozen? ⟨q, (b + t) * 4, none⟩ = false := hAd.frozen _
      have cy1 : wr.cell? ⟨q, (b + t) * 4 + 1, none⟩ = some (.string v.dest) := by have := X.y1; rw [hX] at this; exact this
      have fy1 : wr.frozen? ⟨q, (b + t) * 4 + 1, none⟩ = false := hAd.frozen _
      have cy2 : wr.cell? ⟨q, (b + t) * 4 + 2, none⟩ = some (.int .i64 v.pri) := by have := X.y2; rw [hX] at this; exact this
      have fy2 : wr.frozen? ⟨q, (b + t) * 4 + 2, none⟩ = false := hAd.frozen _
      have cy3 : wr.cell? ⟨q, (b + t) * 4 + 3, none⟩ = some (.int .i64 v.at_) := by have := X.y3; rw [hX] at this; exact this
      have fy3 : wr.frozen? ⟨q, (b + t) * 4 + 3, none⟩ = false := hAd.frozen _
      have HDZ := Lib.hid (show Arr wr q cap (exch P U Q V S t) from hAd)
      have HUZ2 := Lib.hid hUd
      clear hX hAd hUd
      refine WA.mid 2 rfl (by kernel_rfl) ?_
      simp only [opsAt_cons, opsAt_nil, List.getElem?_toArray, List.getElem?_cons_zero, List.getElem?_cons_succ, consO_some]
      go_wp2_with fail
      clear cx0 cx1 cx2 cx3 cy0 cy1 cy2 cy3 fx0 fx1 fx2 fx3 fy0 fy1 fy2 fy3
      have hd5 : Arr (((((wr.setCell ⟨q, (a + t) * 4, none⟩ (.int .i64 v.id)).setCell ⟨q, (a + t) * 4 + 1, none⟩ (.string v.dest)).setCell ⟨q, (a + t) * 4 + 2, none⟩ (.int .i64 v.pri)).setCell ⟨q, (a + t) * 4 + 3, none⟩ (.int .i64 v.at_)).drew) q cap ((exch P U Q V S t).set (a + t) v) := HDZ.out.put (i := a + t) ((List.getElem?_eq_some_iff.1 HI2.out.1).1) v
      have hU5 : Upd w (((((wr.setCell ⟨q, (a + t) * 4, none⟩ (.int .i64 v.id)).setCell ⟨q, (a + t) * 4 + 1, none⟩ (.string v.dest)).setCell ⟨q, (a + t) * 4 + 2, none⟩ (.int .i64 v.pri)).setCell ⟨q, (a + t) * 4 + 3, none⟩ (.int .i64 v.at_)).drew) (fun i => i = q) := ((((HUZ2.out.set ⟨q, (a + t) * 4, none⟩ (.int .i64 v.id) (.inl rfl)).set ⟨q, (a + t) * 4 + 1, none⟩ (.string v.dest) (.inl rfl)).set ⟨q, (a + t) * 4 + 2, none⟩ (.int .i64 v.pri) (.inl rfl)).set ⟨q, (a + t) * 4 + 3, none⟩ (.int .i64 v.at_) (.inl rfl)).drew
      generalize ((((wr.setCell ⟨q, (a + t) * 4, none⟩ (.int .i64 v.id)).setCell ⟨q, (a + t) * 4 + 1, none⟩ (.string v.dest)).setCell ⟨q, (a + t) * 4 + 2, none⟩ (.int .i64 v.pri)).setCell ⟨q, (a + t) * 4 + 3, none⟩ (.int .i64 v.at_)).drew = w5 at hd5 hU5 ⊢
      obtain ⟨c0, c1, c2, c3⟩ := hd5.now (i := b + t) (e := v) (by rw [List.getElem?_set_ne HI2.out.2.2]; exact HI2.out.2.1)
      have f0 := hd5.frozen ((b + t) * 4)
      have f1 := hd5.frozen ((b + t) * 4 + 1)
      have f2 := hd5.frozen ((b + t) * 4 + 2)
      have f3 := hd5.frozen ((b + t) * 4 + 3)
      have HD5 := Lib.hid hd5
      have HU5 := Lib.hid hU5
      clear hd5 hU5
      refine ⟨trivial, ?_⟩
      refine WB.one 1 22 rfl (by kernel_rfl) ?_
      simp only [opsAt_cons, opsAt_nil, List.getElem?_toArray, List.getElem?_cons_zero, List.getElem?_cons_succ, consO_some]
      go_wp2_with fail
      refine ⟨trivial, ?_⟩
      refine WB.one 0 23 rfl (by kernel_rfl) ?_
      simp only [opsAt_cons, opsAt_nil, List.getElem?_toArray, List.getElem?_cons_zero, List.getElem?_cons_succ, consO_some]
      go_wp2_with fail
      clear c0 c1 c2 c3 f0 f1 f2 f3
      have hd6 : Arr (((((w5.setCell ⟨q, (b + t) * 4, none⟩ (.int .i64 u.id)).setCell ⟨q, (b + t) * 4 + 1, none⟩ (.string u.dest)).setCell ⟨q, (b + t) * 4 + 2, none⟩ (.int .i64 u.pri)).setCell ⟨q, (b + t) * 4 + 3, none⟩ (.int .i64 u.at_))) q cap (((exch P U Q V S t).set (a + t) v).set (b + t) u) := HD5.out.put (i := b + t) (by rw [List.length_set]; exact (List.getElem?_eq_some_iff.1 HI2.out.2.1).1) u
      have hU6 : Upd w (((((w5.setCell ⟨q, (b + t) * 4, none⟩ (.int .i64 u.id)).setCell ⟨q, (b + t) * 4 + 1, none⟩ (.string u.dest)).setCell ⟨q, (b + t) * 4 + 2, none⟩ (.int .i64 u.pri)).setCell ⟨q, (b + t) * 4 + 3, none⟩ (.int .i64 u.at_))) (fun i => i = q) := ((((HU5.out.set ⟨q, (b + t) * 4, none⟩ (.int .i64 u.id) (.inl rfl)).set ⟨q, (b + t) * 4 + 1, none⟩ (.string u.dest) (.inl rfl)).set ⟨q, (b + t) * 4 + 2, none⟩ (.int .i64 u.pri) (.inl rfl)).set ⟨q, (b + t) * 4 + 3, none⟩ (.int .i64 u.at_) (.inl rfl))
      have HD6 := Lib.hid hd6
      have HU6 := Lib.hid hU6
      clear hd6 hU6
      generalize ((((w5.setCell ⟨q, (b + t) * 4, none⟩ (.int .i64 u.id)).setCell ⟨q, (b + t) * 4 + 1, none⟩ (.string u.dest)).setCell ⟨q, (b + t) * 4 + 2, none⟩ (.int .i64 u.pri)).setCell ⟨q, (b + t) * 4 + 3, none⟩ (.int .i64 u.at_)) = w6 at HD6 HU6 ⊢
      refine ⟨trivial, ?_⟩
      refine WB.done_ (by kernel_rfl) ?_
      have HD7 := HD6.out
      rw [HX3.out] at HD7
      have HD8 := Lib.hid HD7
      clear HD7
      go_wp2
      go_roundw
      case rel => exact ⟨t + 1, by go_num, by omega, HD8.out, HU6.out⟩
      case measure => simp [intOf]; omega
    · obtain rfl : t = k := by omega
      have HF := Lib.hid (And.intro hA hU)
      clear hA hU
      go_wp2
      go_end0
      obtain ⟨e1, e2, e3, e4⟩ := HE.out
      have hf := HF.out.1
      rw [e3, exch_end e4] at hf
      exact ⟨rfl, hf, HF.out.2⟩
end Go.Proofs.Ythpilbooolgkiaa
