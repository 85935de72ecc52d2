/- path.Print. -/
import Derived.Test.YthfmjiafdfoajaaDoorNul
import Derived.Test.YthfmjiafdfoajaaDoorBldB
set_option linter.unusedVariables false
set_option linter.unusedSimpArgs false
namespace Go.Proofs.YthfmjiafdfoajaaDoor
open Go.RowKit Go.Shelf

def escB (b : UInt8) : List UInt8 := if b = 34 ∨ b = 92 then [92, b] else [b]
def quoteL (l : List UInt8) : List UInt8 := 34 :: (l.flatMap escB ++ [34])
def locL (lo : ByteArray) : List UInt8 := if atomsB lo then lo.data.toList else quoteL lo.data.toList
def printL (lo dom : ByteArray) : List UInt8 := if dom.toList = [] then 60 :: (lo.data.toList ++ [62]) else 60 :: (locL lo ++ 64 :: (dom.data.toList ++ [62]))
def printR (lo dom : ByteArray) : ByteArray × Nat := if rightN lo dom ≠ 0 then (⟨#[]⟩, rightN lo dom) else (⟨(printL lo dom).toArray⟩, 0)

theorem bld_step {w w1 w2 : World} {g : Nat} {v : Value} (h : Upd w w1 Nope) (hg : w.heap.size ≤ g) (hv : ∀ k, v.ownBlock = some k → w.heap.size ≤ k) (k : Upd w1 w2 (BldF g v)) : Upd w w2 Nope :=
  h.trans k (fun _ _ h => h) (fun i hi hf => by
    rcases hf with h | h
    · omega
    · have := hv i h; omega)
/-- The row lies behind n, and apart from m. -/
def Ow (v : Value) (n m : Nat) : Prop := ∀ k, v.ownBlock = some k → n ≤ k ∧ k ≠ m
theorem Ow.step {w : World} {v v' : Value} {n m : Nat} (h : Ow v n m) (hw : n ≤ w.heap.size ∧ m < w.heap.size) (hl : v'.ownBlock = v.ownBlock ∨ ∃ k, v'.ownBlock = some k ∧ w.heap.size ≤ k) : Ow v' n m := by
  intro k hk
  rcases hl with e | ⟨q, e, hq⟩
  · exact h k (by rw [← e]; exact hk)
  · rw [e] at hk
    injection hk with hk
    omega
theorem esc_len (l : List UInt8) : (l.flatMap escB).length ≤ 2 * l.length := by
  induction l with
  | nil => simp
  | cons b r ih =>
    have : (escB b).length ≤ 2 := by unfold escB; split <;> simp
    simp only [List.flatMap_cons, List.length_append, List.length_cons]
    omega
theorem bytes_eq {a b : ByteArray} (h : a.data.toList = b.data.toList) : a = b := by
  apply ByteArray.ext
  exact Array.toList_inj.1 h
theorem str_null {lo dom : ByteArray} (h : dom.toList = []) : (⟨#[60]⟩ ++ lo ++ ⟨#[62]⟩ : ByteArray) = ⟨(printL lo dom).toArray⟩ := by
  apply bytes_eq
  simp [printL, h, ByteArray.data_append]
theorem str_full {lo dom x : ByteArray} (h : ¬ dom.toList = []) (hx : x.data.toList = locL lo) : (⟨#[60]⟩ ++ x ++ ⟨#[64]⟩ ++ dom ++ ⟨#[62]⟩ : ByteArray) = ⟨(printL lo dom).toArray⟩ := by
  apply bytes_eq
  simp [printL, h, ByteArray.data_append, hx]

set_option maxRecDepth 100000 in
set_option maxHeartbeats 8000000 in
theorem print_any (lo dom : ByteArray) (w : World) (h1 : lo.size < 4294967281) (h2 : dom.size < 4294967281) : Calls Tryd.prog 9 #[.agg #[.string lo, .string dom]] w fun e w' =>
    e = .returned (.tuple #[.string (printR lo dom).1, .int .i64 (printR lo dom).2]) ∧ Below w.heap.size w w' := by
  go_enter Tryd.func9, Tryd.ntmps9
  go_wp2_with fail
  have hh := World.alloc_heap_new w (.cells #[.string lo, .string dom] 23)
  have hb1 : Below w.heap.size w (w.alloc (.cells #[.string lo, .string dom] 23)) := (Below.refl _ w).alloc (Nat.le_refl _) _
  have hz1 : (w.alloc (.cells #[.string lo, .string dom] 23)).heap.size = w.heap.size + 1 := by simp
  generalize w.alloc (.cells #[.string lo, .string dom] 23) = W1 at hh hb1 hz1 ⊢
  refine (right_any lo dom W1 h1 h2).mono ?_
  rintro e W2 ⟨rfl, hb2⟩
  have hh2 := (hb2.block w.heap.size (by omega)).trans hh
  have hbl : Below w.heap.size w W2 := hb1.trans (hb2.mono (by omega))
  have hz2 : w.heap.size < W2.heap.size := by have := hb2.size; omega
  have c0 : W2.cell? ⟨w.heap.size, 0, none⟩ = some (.string lo) := by simp [World.cell?, hh2]
  have c1 : W2.cell? ⟨w.heap.size, 1, none⟩ = some (.string dom) := by simp [World.cell?, hh2]
  clear hh hb1 hz1 hb2
  have hP : printR lo dom = if rightN lo dom ≠ 0 then (⟨#[]⟩, rightN lo dom) else (⟨(printL lo dom).toArray⟩, 0) := rfl
  generalize hRN : rightN lo dom = R at hP ⊢
  clear hRN
  have HP := Lib.hid hP
  clear hP
  by_cases hR0 : R = 0
  · subst hR0
    by_cases he' : dom.toList = []
    · have hE : dom.toList.isEmpty = true := by rw [he']; rfl
      go_wp2_with fail
      go_ret2
      refine ⟨?_, hbl⟩
      rw [show printR lo dom = _ from HP, ← str_null he']
      rfl
    · have hE : dom.toList.isEmpty = false := by simpa using he'
      go_wp2_with fail
      refine (atoms_any lo W2 h1).mono ?_
      rintro e W3 ⟨rfl, hb3⟩
      have hbl3 : Below w.heap.size w W3 := hbl.trans (hb3.mono (by omega))
      have d0 := (World.cell?_of_block (a := ⟨w.heap.size, 0, none⟩) (hb3.block _ hz2)).trans c0
      have d1 := (World.cell?_of_block (a := ⟨w.heap.size, 1, none⟩) (hb3.block _ hz2)).trans c1
      have hz3 : w.heap.size < W3.heap.size := by have := hb3.size; omega
      clear c0 c1 hbl hb3
      have hloc : locL lo = if atomsB lo then lo.data.toList else quoteL lo.data.toList := rfl
      generalize atomsB lo = at_ at hloc ⊢
      cases at_
      · go_wp2_with fail
        have hb0 := Bld.new W3 W3.heap.size (Nat.le_refl _)
        have hu0 : Upd W3 (W3.alloc (.cells #[.pointer none, .slice none 0 0] 50)) Nope := (Upd.refl W3 _).alloc _
        have hs0 : (W3.alloc (.cells #[.pointer none, .slice none 0 0] 50)).heap.size = W3.heap.size + 1 := by simp
        generalize W3.alloc (.cells #[.pointer none, .slice none 0 0] 50) = W4 at hb0 hu0 hs0 ⊢
        refine (bld_writeByte W4 _ _ _ [] hb0 34 34 rfl (by decide) hu0.size).mono ?_
        rintro e W5 ⟨rfl, v5, hb5, hu5, hl5⟩
        have hu5' := bld_step hu0 (Nat.le_refl _) (fun k h => by simp [Value.ownBlock] at h) hu5
        have hv5 : Ow v5 (W3.heap.size + 1) W5.heap.size := by
          intro k hk
          have h1 := (hb5.rowlt k hk).2
          refine ⟨?_, by omega⟩
          rcases hl5 with e | ⟨q, e, hq⟩
          · rw [e] at hk; simp [Value.ownBlock] at hk
          · rw [e] at hk; injection hk with hk; omega
        have kc := Lib.run_convert_string_bytes (P := Tryd.prog) W5 9 42 5 lo Tryd.underlying9 Tryd.underlying42 Tryd.underlying5
        have hby := Byt.new W5 lo
        have hub := Byt.newUpd W5 lo Nope
        have hg5 := hb5.lt
        have hb6 := hb5.nope hub
        have hu6 := hu5'.nn hub
        have hz5 := hu5'.size
        clear hb0 hu0 hu5 hl5 hb5 hu5'
        have HLOC := Lib.hid hloc
        clear hloc
        go_wp2_with fail
        clear kc
        generalize Lib.bytesWorld W5 5 lo = W6 at hby hub hb6 hu6 ⊢
        have hz6 := hub.size
        go_loopw [30] (fun i wr => ∃ (k : Nat) (v : Value), k ≤ lo.size ∧ i = .int .i64 k ∧ Bld wr W3.heap.size W3.heap.size v (34 :: (lo.data.toList.take k).flatMap escB) ∧ Ow v (W3.heap.size + 1) W5.heap.size ∧ Byt wr W5.heap.size lo.data.toList ∧ Upd W3 wr Nope) (fun i wr => lo.size - (intOf i).toNat)
        case atStart => exact ⟨0, v5, Nat.zero_le _, rfl, by simpa using hb6, hv5, hby, hu6⟩
        case round =>
          clear hby hb6 hu6 hv5 hub
          obtain ⟨k, v, hk, rfl, hb, hv, hby, hu⟩ := hrel
          have hel := esc_len (lo.data.toList.take k)
          have htl : (lo.data.toList.take k).length = k := by rw [List.length_take, data_len]; omega
          rw [htl] at hel
          clear htl
          have hw2 := hby.lt
          by_cases hlt : k < lo.size
          · have hcell := hby.cell k (by rw [data_len]; exact hlt)
            have hst : (34 :: (lo.data.toList.take (k + 1)).flatMap escB) = (34 :: (lo.data.toList.take k).flatMap escB) ++ escB (lo.data.toList.getD k 0) := by
              rw [take_snoc _ _ (by rw [data_len]; exact hlt), List.flatMap_append]; simp
            have hbb := (lo.data.toList.getD k 0).toNat_lt
            generalize lo.data.toList.getD k 0 = c at hcell hst hbb
            have hol : (34 :: (lo.data.toList.take k).flatMap escB).length ≤ 1 + 2 * k := by simp only [List.length_cons]; omega
            generalize (34 :: (lo.data.toList.take k).flatMap escB) = out at hb hst hol
            have HS := Lib.hid hst
            clear hst hel
            by_cases hq : c = 34 ∨ c = 92
            · rcases hq with rfl | rfl
              · have HES : Hid (escB 34 = [92, 34]) := Lib.hid (by decide)
                clear hbb
                go_wp2_with fail
                refine (bld_writeByte wr _ _ v out hb 92 92 rfl (by omega) (by omega)).mono ?_
                rintro e w3 ⟨rfl, v3, hb3, hu3, hl3⟩
                have hby3 := hby.upd hu3 (fun h => by
                  rcases h with h | h
                  · omega
                  · have := (hv _ h).2; omega)
                have hu3' := bld_step hu (Nat.le_refl _) (fun k h => by have := (hv k h).1; omega) hu3
                have hv3 := hv.step ⟨by omega, hw2⟩ hl3
                have hw3 := hby3.lt
                have hol3 : (out ++ [92]).length ≤ 2 + 2 * k := by rw [List.length_append]; simp; omega
                have hz3' := hu3'.size
                obtain ⟨out3, ho3⟩ : ∃ o, out ++ [92] = o := ⟨_, rfl⟩
                rw [ho3] at hb3 hol3
                have HO3 := Lib.hid ho3
                clear hb hby hu hv hu3 hl3 ho3
                go_wp2_with fail
                refine (bld_writeByte w3 _ _ v3 out3 hb3 34 34 rfl (by omega) (by omega)).mono ?_
                rintro e w4 ⟨rfl, v4, hb4, hu4, hl4⟩
                have hby4 := hby3.upd hu4 (fun h => by
                  rcases h with h | h
                  · omega
                  · have := (hv3 _ h).2; omega)
                have hu4' := bld_step hu3' (Nat.le_refl _) (fun k h => by have := (hv3 k h).1; omega) hu4
                have hv4 := hv3.step ⟨by omega, hw3⟩ hl4
                clear hb3 hby3 hu3' hv3 hu4 hl4
                go_wp2
                go_roundw
                case rel => exact ⟨k + 1, v4, by omega, by go_num, by rw [show (34 :: (lo.data.toList.take (k + 1)).flatMap escB) = _ from HS.out, HES.out, show ([92, 34] : List UInt8) = [92] ++ [34] from rfl, ← List.append_assoc, HO3.out]; exact hb4, hv4, hby4, hu4'⟩
                case measure => simp [intOf]; omega
              · have HES : Hid (escB 92 = [92, 92]) := Lib.hid (by decide)
                clear hbb
                go_wp2_with fail
                refine (bld_writeByte wr _ _ v out hb 92 92 rfl (by omega) (by omega)).mono ?_
                rintro e w3 ⟨rfl, v3, hb3, hu3, hl3⟩
                have hby3 := hby.upd hu3 (fun h => by
                  rcases h with h | h
                  · omega
                  · have := (hv _ h).2; omega)
                have hu3' := bld_step hu (Nat.le_refl _) (fun k h => by have := (hv k h).1; omega) hu3
                have hv3 := hv.step ⟨by omega, hw2⟩ hl3
                have hw3 := hby3.lt
                have hol3 : (out ++ [92]).length ≤ 2 + 2 * k := by rw [List.length_append]; simp; omega
                have hz3' := hu3'.size
                obtain ⟨out3, ho3⟩ : ∃ o, out ++ [92] = o := ⟨_, rfl⟩
                rw [ho3] at hb3 hol3
                have HO3 := Lib.hid ho3
                clear hb hby hu hv hu3 hl3 ho3
                go_wp2_with fail
                refine (bld_writeByte w3 _ _ v3 out3 hb3 92 92 rfl (by omega) (by omega)).mono ?_
                rintro e w4 ⟨rfl, v4, hb4, hu4, hl4⟩
                have hby4 := hby3.upd hu4 (fun h => by
                  rcases h with h | h
                  · omega
                  · have := (hv3 _ h).2; omega)
                have hu4' := bld_step hu3' (Nat.le_refl _) (fun k h => by have := (hv3 k h).1; omega) hu4
                have hv4 := hv3.step ⟨by omega, hw3⟩ hl4
                clear hb3 hby3 hu3' hv3 hu4 hl4
                go_wp2
                go_roundw
                case rel => exact ⟨k + 1, v4, by omega, by go_num, by rw [show (34 :: (lo.data.toList.take (k + 1)).flatMap escB) = _ from HS.out, HES.out, show ([92, 92] : List UInt8) = [92] ++ [92] from rfl, ← List.append_assoc, HO3.out]; exact hb4, hv4, hby4, hu4'⟩
                case measure => simp [intOf]; omega
            · have hes : escB c = [c] := by unfold escB; rw [if_neg hq]
              have h34 : ((c.toNat : Int) == 34) = false := by
                rw [beq_eq_false_iff_ne]; exact fun h => hq (.inl (u8_of (n := 34) (by decide) h))
              have h92 : ((c.toNat : Int) == 92) = false := by
                rw [beq_eq_false_iff_ne]; exact fun h => hq (.inr (u8_of (n := 92) (by decide) h))
              clear hq hbb
              have HES := Lib.hid hes
              clear hes
              go_wp2_with fail
              refine (bld_writeByte wr _ _ v out hb c _ rfl (by omega) (by omega)).mono ?_
              rintro e w3 ⟨rfl, v3, hb3, hu3, hl3⟩
              have hby3 := hby.upd hu3 (fun h => by
                rcases h with h | h
                · omega
                · have := (hv _ h).2; omega)
              have hu3' := bld_step hu (Nat.le_refl _) (fun k h => by have := (hv k h).1; omega) hu3
              have hv3 := hv.step ⟨by omega, hw2⟩ hl3
              go_wp2
              go_roundw
              case rel => exact ⟨k + 1, v3, by omega, by go_num, by rw [show (34 :: (lo.data.toList.take (k + 1)).flatMap escB) = _ from HS, HES.out]; exact hb3, hv3, hby3, hu3'⟩
              case measure => simp [intOf]; omega
          · obtain rfl : k = lo.size := by omega
            rw [List.take_of_length_le (by rw [data_len]; exact Nat.le_refl _)] at hb hel
            go_wp2_with fail
            refine (bld_writeByte wr _ _ v _ hb 34 34 rfl (by simp only [List.length_cons]; omega) (by omega)).mono ?_
            rintro e w3 ⟨rfl, v3, hb3, hu3, hl3⟩
            have hu3' := bld_step hu (Nat.le_refl _) (fun k h => by have := (hv k h).1; omega) hu3
            have hz3' := hu3'.size
            clear hb hby hu hv hu3 hl3
            go_wp2_with fail
            refine (bld_string w3 _ _ v3 _ hb3 (by omega)).mono ?_
            rintro e w4 ⟨rfl, hd4⟩
            have g1 := (World.cell?_of_block (a := ⟨w.heap.size, 1, none⟩) (((hd4.block _ (by omega)).trans (hu3'.block _ hz3 (fun h => h))))).trans d1
            have hbl4 : Below w.heap.size w w4 := (hbl3.trans (Upd.onto (Below.refl _ W3) hu3' (by omega) (fun i e => e.elim))).trans (hd4.mono (by omega))
            clear hd4 hu3' hb3
            obtain ⟨L, hL⟩ : ∃ L : ByteArray, (⟨((34 :: lo.data.toList.flatMap escB) ++ [34]).toArray⟩ : ByteArray) = L := ⟨_, rfl⟩
            have hLd : L.data.toList = locL lo := by
              rw [← hL, show locL lo = _ from HLOC.out]; simp [quoteL]
            have hLs : L.size ≤ 2 * lo.size + 2 := by
              rw [← hL]
              show ((34 :: lo.data.toList.flatMap escB) ++ [34]).length ≤ _
              simp only [List.length_append, List.length_cons, List.length_nil]; omega
            have HLD := Lib.hid hLd
            rw [hL]
            clear hL hLd hel HLOC hlt
            go_wp2_with fail
            go_ret2
            refine ⟨?_, hbl4⟩
            rw [show printR lo dom = _ from HP.out, ← str_full he' HLD.out]
            rfl
      · go_wp2_with fail
        go_ret2
        refine ⟨?_, hbl3⟩
        rw [show printR lo dom = _ from HP, ← str_full he' (show lo.data.toList = locL lo by rw [hloc]; rfl)]
        rfl
  · go_wp2_with fail
    go_ret2
    refine ⟨?_, hbl⟩
    rw [show printR lo dom = _ from HP, if_pos hR0]
    rfl
end Go.Proofs.YthfmjiafdfoajaaDoor
