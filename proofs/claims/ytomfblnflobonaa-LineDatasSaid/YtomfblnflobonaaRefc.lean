/- The reference's Cut. -/
import Derived.Test.YtomfblnflobonaaUnd
set_option linter.unusedVariables false
set_option linter.unusedSimpArgs false
namespace Go.Proofs.Ytomfblnflobonaa
open Go.RowKit

def bodies (s : List UInt8) : List ByteArray := (cuts [] s).1.map fun x => ⟨(body x).toArray⟩
theorem cuts_suffix (t : List UInt8) : t.drop (t.length - (cuts [] t).2.length) = (cuts [] t).2 := by
  have h := cuts_flat t []
  rw [List.nil_append] at h
  have hl := congrArg List.length h
  rw [List.length_append] at hl
  have e : t.length - (cuts [] t).2.length = (cuts [] t).1.flatten.length := by omega
  rw [e]
  generalize (cuts [] t).2 = b at h ⊢
  generalize (cuts [] t).1.flatten = a at h ⊢
  rw [← h, List.drop_left]
theorem cuts_last (t : List UInt8) (h : (cuts [] t).2 ≠ []) : (cuts [] t).2.getLast? = t.getLast? := by
  have e := cuts_flat t []
  rw [List.nil_append] at e
  generalize (cuts [] t).2 = b at h e ⊢
  generalize (cuts [] t).1.flatten = a at e
  rw [← e]
  obtain ⟨c, d, rfl⟩ : ∃ c d, b = c ++ [d] := ⟨b.dropLast, b.getLast h, (List.dropLast_concat_getLast h).symm⟩
  simp
theorem take_snoc (l : List UInt8) (k : Nat) (h : k < l.length) : l.take (k + 1) = l.take k ++ [l.getD k 0] := by
  rw [List.take_succ_eq_append_getElem h]
  simp [List.getD, h]
theorem last_take (l : List UInt8) (k : Nat) (h : k < l.length) : (l.take (k + 1)).getLast? = some (l.getD k 0) := by
  rw [take_snoc l k h]
  simp

/-- What the loop of Cut knows: k bytes were seen; the line that is open begins at 'from'. -/
structure Rc (s : List UInt8) (k fr : Nat) : Prop where
  le : k ≤ s.length
  fr : fr + (cuts [] (s.take k)).2.length = k
theorem Rc.cur {s : List UInt8} {k fr : Nat} (h : Rc s k fr) : (cuts [] (s.take k)).2 = (s.take k).drop fr := by
  have e := cuts_suffix (s.take k)
  have hl : (s.take k).length = k := by rw [List.length_take]; have := h.le; omega
  have := h.fr
  rw [← e]
  congr 1
  omega
theorem Rc.no {s : List UInt8} {k fr : Nat} (h : Rc s k fr) (hk : k < s.length) (he : isEnd (cuts [] (s.take k)).2 (s.getD k 0) = false) : Rc s (k + 1) fr ∧ bodies (s.take (k + 1)) = bodies (s.take k) := by
  have e := take_snoc s k hk
  have c := cuts_append (s.take k) [s.getD k 0] []
  rw [cuts_one_no he] at c
  have := h.fr
  refine ⟨⟨by omega, ?_⟩, ?_⟩
  · rw [e, c]; simp; omega
  · unfold bodies; rw [e, c]; simp
theorem Rc.yes {s : List UInt8} {k fr : Nat} (h : Rc s k fr) (hk : k < s.length) (he : isEnd (cuts [] (s.take k)).2 (s.getD k 0) = true) :
    Rc s (k + 1) (k + 1) ∧ bodies (s.take (k + 1)) = bodies (s.take k) ++ [⟨((s.drop fr).take (k - 1 - fr)).toArray⟩] ∧ fr + 1 ≤ k := by
  have e := take_snoc s k hk
  have c := cuts_append (s.take k) [s.getD k 0] []
  rw [cuts_one_yes he] at c
  have hf := h.fr
  have hcu := h.cur
  have hne : 1 ≤ (cuts [] (s.take k)).2.length := by
    cases hq : (cuts [] (s.take k)).2 with
    | nil => rw [hq] at he; simp [isEnd] at he
    | cons _ _ => simp
  refine ⟨⟨by omega, ?_⟩, ?_, by omega⟩
  · rw [e, c]; simp
  · unfold bodies
    rw [e, c]
    simp only [List.map_append, List.map_cons, List.map_nil]
    congr 2
    unfold body
    have hl2 : ((cuts [] (s.take k)).2 ++ [s.getD k 0]).length - 2 = k - 1 - fr := by simp; omega
    rw [hl2, List.take_append_of_le_length (by omega), hcu, List.drop_take, List.take_take, Nat.min_eq_left (by omega)]

def CutPost (w : World) (s : List UInt8) (e : Ending) (w' : World) : Prop :=
  ∃ v, e = .returned (.tuple #[v, .string ⟨(cuts [] s).2.toArray⟩]) ∧ w'.ownsRow w.heap.size 9 1 v (bodies s).length ((bodies s).map Value.string) ∧ Upd w w' Nope
theorem from_str {P : Program} {T : TypeId} (hT : P.underlying T = some .string) (t : ByteArray) (i : Int) (a : Nat) (hi : i = a) (ha : a ≤ t.size) (W : World) :
    (Instr.slice T (.string t) (some (.int .i64 i)) none none).run P W = .ok (.string (t.extract a t.size)) W := by
  subst hi
  rw [run_slice_string_from_if (P := P) (w := W) T t .i64 (a : Int) hT]
  rw [if_pos ⟨by omega, by omega⟩]
  simp

set_option maxHeartbeats 4000000 in
theorem refcut_any (s : ByteArray) (w : World) (hs : s.size ≤ 100000) : Calls Try.prog 25 #[.string s] w (CutPost w s.data.toList) := by
  have hlen : s.data.toList.length = s.size := by simp
  by_cases h0 : s.size = 0
  · have hn : s.data.toList = [] := List.length_eq_zero_iff.1 (by omega)
    have hsl := from_str (P := Try.prog) Try.underlying9 s 0 0 rfl (by omega)
    have he : s.extract 0 s.size = ⟨#[]⟩ := by apply ByteArray.ext; apply Array.toList_inj.1; rw [ext_list, hn]; simp
    rw [he] at hsl
    clear he
    rw [hn]
    go_enter Try.func25, Try.ntmps25
    go_wp2_with fail
    go_loopg [4, 5, 6] 1 (fun gk o f i wx => o = .slice none 0 0 ∧ f = .int .i64 0 ∧ i = .int .i64 1 ∧ wx = w)
    case atStart => exact ⟨rfl, rfl, rfl, rfl⟩
    case round =>
      obtain ⟨rfl, rfl, rfl, hwr⟩ := hrel
      obtain rfl : w = wr := hwr.symm
      go_wp2_with fail
      go_region
      go_wp2_with fail
      go_ret2
      exact ⟨.slice none 0 0, rfl, by simpa [bodies, cuts] using World.ownsRow_nil _ _ _ _, (Upd.refl _ _).drew⟩
  · go_enter Try.func25, Try.ntmps25
    go_wp2_with fail
    go_loopg [4, 5, 6] (s.size + 1) (fun gk out fr i wx => ∃ (k f : Nat), 1 ≤ k ∧ s.size < k + gk ∧ Rc s.data.toList k f ∧ fr = .int .i64 f ∧ i = .int .i64 k ∧ wx.ownsRow w.heap.size 9 1 out (bodies (s.data.toList.take k)).length ((bodies (s.data.toList.take k)).map Value.string) ∧ Upd w wx Nope)
    case atStart =>
      have hc1 : cuts [] (s.data.toList.take 1) = ([], [s.data.toList.getD 0 0]) := by
        have e := take_snoc s.data.toList 0 (by omega)
        simp only [List.take_zero, Nat.zero_add, List.nil_append] at e
        rw [e, cuts_one_no (by simp [isEnd])]
        rfl
      exact ⟨1, 0, by omega, by omega, ⟨by omega, by rw [hc1]; rfl⟩, rfl, rfl, by unfold bodies; rw [hc1]; simpa using World.ownsRow_nil _ _ _ _, Upd.refl _ _⟩
    case round =>
      obtain ⟨k, f, hk1, hkg, hrc, rfl, rfl, hown, hu⟩ := hrel
      have hfk := hrc.fr
      have hkl := hrc.le
      have hbz : (bodies (s.data.toList.take k)).length ≤ 100000 := by
        unfold bodies
        rw [List.length_map]
        have := cuts_count (s.data.toList.take k) []
        rw [List.length_take] at this
        omega
      by_cases hlt : k < s.size
      · obtain ⟨gq, rfl⟩ : ∃ gq, gk = gq + 1 := ⟨gk - 1, by omega⟩
        have ix0 := index_str (P := Try.prog) Try.underlying9 s ((k : Int) - 1) (k - 1) (by omega) (by omega)
        have ix1 := index_str (P := Try.prog) Try.underlying9 s (k : Int) k rfl (by omega)
        have hla := last_take s.data.toList (k - 1) (by omega)
        rw [show k - 1 + 1 = k by omega] at hla
        have hclast := cuts_last (s.data.toList.take k)
        rw [hla] at hclast
        have hno := hrc.no (by omega)
        have hyes := hrc.yes (by omega)
        generalize s.data.toList.getD (k - 1) 0 = x at ix0 hclast
        generalize s.data.toList.getD k 0 = y at ix1 hno hyes
        have e13 : (((x.toNat : Int)) == 13) = (x == 13) := u8_eq' x 13 (by decide) 13 rfl
        have e10 : (((y.toNat : Int)) == 10) = (y == 10) := u8_eq' y 10 (by decide) 10 rfl
        have hcur : (cuts [] (s.data.toList.take k)).2 = [] ∨ (cuts [] (s.data.toList.take k)).2 ≠ [] := by by_cases h : (cuts [] (s.data.toList.take k)).2 = [] ; exact .inl h; exact .inr h
        by_cases hend : isEnd (cuts [] (s.data.toList.take k)).2 y = true
        · obtain ⟨hr2, hb2, hf2⟩ := hyes hend
          have hne : (cuts [] (s.data.toList.take k)).2 ≠ [] := by
            intro h
            rw [h] at hend
            simp [isEnd] at hend
          have hcl := hclast hne
          simp only [isEnd, hcl, Bool.and_eq_true, beq_iff_eq, Option.some.injEq] at hend
          obtain ⟨rfl, rfl⟩ := hend
          have hd : decide ((f : Int) ≤ (k : Int) - 1) = true := by simp; omega
          have hsl := slice_str (P := Try.prog) Try.underlying9 s (f : Int) ((k : Int) - 1) f (k - 1) rfl (by omega) (by omega) (by omega)
          have hex : s.extract f (k - 1) = ⟨((s.data.toList.drop f).take (k - 1 - f)).toArray⟩ := by apply ByteArray.ext; apply Array.toList_inj.1; rw [ext_list]
          rw [← hex] at hb2
          generalize s.extract f (k - 1) = pb at hsl hb2
          have HB := Lib.hid hb2
          have HR := Lib.hid hr2
          clear hb2 hr2 hno hyes hclast hcl hla hcur hne hex e13 e10 hrc hfk
          obtain ⟨v', w2, hap, hown2, hu2, hl2⟩ := app1 hown pb hu.size (by omega)
          go_wp2_with (first | (at_builtin; refine wpList_append_eq _ _ rfl rfl hap rfl rfl rfl ?_) | fail)
          go_roundg gq
          case measure => omega
          case rel => exact ⟨k + 1, k + 1, by omega, by omega, HR.out, by go_num, by go_num, by rw [HB.out, List.length_append]; exact hown2, hu.trans hu2 (fun _ _ h => h) (fun i hi h => by have := (hown.lt i h).1; omega)⟩
        · obtain ⟨hr2, hb2⟩ := hno (by simpa using hend)
          have hcase : (x == 13) = false ∨ ((x == 13) = true ∧ (y == 10) = false) ∨ ((x == 13) = true ∧ (y == 10) = true ∧ decide ((f : Int) ≤ (k : Int) - 1) = false) := by
            cases h1 : x == 13
            · exact .inl rfl
            · cases h2 : y == 10
              · exact .inr (.inl ⟨rfl, rfl⟩)
              · refine .inr (.inr ⟨rfl, rfl, ?_⟩)
                rcases hcur with h | h
                · rw [h] at hfk
                  simp at hfk ⊢
                  omega
                · exfalso
                  apply hend
                  simp [isEnd, hclast h]
                  simp at h1 h2
                  exact ⟨h1, h2⟩
          have HB := Lib.hid hb2
          have HR := Lib.hid hr2
          clear hb2 hr2 hno hyes hclast hla hcur hend hrc
          rcases hcase with h | ⟨h, h'⟩ | ⟨h, h', h''⟩
          · rw [h] at e13
            clear h e10
            go_wp2_with fail
            go_roundg gq
            case measure => omega
            case rel => exact ⟨k + 1, f, by omega, by omega, HR.out, rfl, by go_num, by rw [HB.out]; exact hown, hu⟩
          · rw [h] at e13
            rw [h'] at e10
            clear h h'
            go_wp2_with fail
            go_roundg gq
            case measure => omega
            case rel => exact ⟨k + 1, f, by omega, by omega, HR.out, rfl, by go_num, by rw [HB.out]; exact hown, hu⟩
          · rw [h] at e13
            rw [h'] at e10
            clear h h'
            go_wp2_with fail
            go_roundg gq
            case measure => omega
            case rel => exact ⟨k + 1, f, by omega, by omega, HR.out, rfl, by go_num, by rw [HB.out]; exact hown, hu⟩
      · obtain rfl : k = s.size := by omega
        have et : s.data.toList.take s.size = s.data.toList := List.take_of_length_le (by omega)
        have hcu := hrc.cur
        rw [et] at hcu hown hfk
        have hsl := from_str (P := Try.prog) Try.underlying9 s (f : Int) f rfl (by omega)
        have hex : s.extract f s.size = ⟨(cuts [] s.data.toList).2.toArray⟩ := by
          apply ByteArray.ext
          apply Array.toList_inj.1
          rw [ext_list, hcu, List.take_of_length_le (by simp)]
        have HX := Lib.hid hex
        have hfs : f ≤ s.size := by omega
        clear hex hcu et hrc hfk hsl
        go_wp2_with fail
        go_region
        go_wp2_with fail
        go_ret2
        exact ⟨u4, ret_eq (by show Value.tuple #[u4, .string (s.extract f s.size)] = _; rw [HX.out]), own_upd hown ((Upd.refl wr Nope).drew) (fun _ _ => id), hu.drew⟩
end Go.Proofs.Ytomfblnflobonaa
