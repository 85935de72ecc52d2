/- The law DiskRenames. -/
import Derived.Test.YtkglcgekpgcdpaaNames
set_option linter.unusedVariables false
set_option linter.unusedSimpArgs false
set_option linter.unusedSectionVars false
namespace Go.Proofs.Ytkglcgekpgcdpaa
open Go.RowKit

def big : Int := 1048576
def r0 : Dk := ⟨1048576, [], false, 0, 0, 0⟩
def r1 (a : ByteArray) : Dk := ⟨1048576, [(sa, ⟨a, 0⟩)], false, 0, 0, 1⟩
def r2 (a : ByteArray) : Dk := ⟨1048576, [(sa, ⟨a, a.size⟩)], false, 0, 0, 2⟩
def r3 (a c : ByteArray) : Dk := ⟨1048576, [(sa, ⟨a ++ c, a.size⟩)], false, 0, 0, 3⟩
def r4 (a b c : ByteArray) : Dk := ⟨1048576, [(sa, ⟨a ++ c, a.size⟩), (sb, ⟨b, 0⟩)], false, 0, 0, 4⟩
def r5 (a c : ByteArray) : Dk := ⟨1048576, [(sb, ⟨a ++ c, a.size⟩)], false, 0, 0, 5⟩
def r6 (a : ByteArray) : Dk := ⟨1048576, [(sb, ⟨a, a.size⟩)], true, 0, 0, 5⟩
def r7 (a : ByteArray) : Dk := ⟨1048576, [(sb, ⟨a, a.size⟩)], false, 0, 0, 5⟩
theorem ab_ne : sa ≠ sb := by decide
theorem ba_ne : sb ≠ sa := by decide
theorem may_a : mayE false [sa] = 0 := by decide
theorem may_b : mayE false [sb] = 0 := by decide
theorem may_ba : mayE false ([sb] ++ [sa]) = 0 := by decide
theorem app_to (d : Dk) (name s : ByteArray) (hm : mayE d.off [name] = 0) (hf : fullB d name s = false) (hc : d.ch + 1 ≠ d.at_) :
    appendR d name s = (⟨d.room, put name ⟨(fileOf name d.L).s ++ s, (fileOf name d.L).n⟩ d.L, d.off, d.at_, d.keep, d.ch + 1⟩, 0) := by
  unfold appendR
  rw [if_pos hm, if_neg (by rw [hf]; decide)]
  unfold changeR
  rw [if_neg hc]
  rfl
theorem full_no (d : Dk) (name s : ByteArray) (h : (sumL d.L + s.size : Int) ≤ d.room) (hl : d.L.length < 128) : fullB d name s = false := by
  have h1 : decide (d.room - sumL d.L < (s.size : Int)) = false := by simp; omega
  have h2 : decide (128 ≤ d.L.length) = false := by simp; omega
  simp [fullB, h1, h2]
section
variable (a b c : ByteArray) (h : (a.size : Int) + b.size + c.size ≤ 5000)
include h
theorem q1 : appendR r0 sa a = (r1 a, 0) := by
  rw [app_to r0 sa a may_a (full_no _ _ _ (by simp [r0, sumL]; omega) (by decide)) (by decide)]
  simp only [r0, put, fileOf, look, Option.getD_none, empty_app, r1]
  simp
theorem q2 : syncR (r1 a) sa = (r2 a, 0) := by
  have hf : findR (r1 a) [] sa = (⟨a, 0⟩, 0) := by
    unfold findR
    rw [if_pos (by rw [List.nil_append]; exact may_a)]
    simp [r1, look]
  unfold syncR
  rw [hf]
  simp only [if_true]
  unfold changeR
  rw [if_neg (by simp [r1])]
  simp only [r1, put, Dk.with_, Dk.more, r2, if_true]
  rfl
theorem q3 : appendR (r2 a) sa c = (r3 a c, 0) := by
  rw [app_to (r2 a) sa c may_a (full_no _ _ _ (by simp [r2, sumL]; omega) (by simp [r2])) (by simp [r2])]
  simp [r2, put, fileOf, look, r3]
theorem q4 : appendR (r3 a c) sb b = (r4 a b c, 0) := by
  rw [app_to (r3 a c) sb b may_b (full_no _ _ _ (by simp [r3, sumL]; omega) (by simp [r3])) (by simp [r3])]
  simp [r3, put, fileOf, look, r4, ab_ne, empty_app]
theorem q5 : renameR (r4 a b c) sa sb = (r5 a c, 0) := by
  have hf : findR (r4 a b c) [sb] sa = (⟨a ++ c, a.size⟩, 0) := by
    unfold findR
    rw [if_pos (show mayE (r4 a b c).off ([sb] ++ [sa]) = 0 from may_ba)]
    simp [r4, look]
  unfold renameR
  rw [hf]
  simp only [if_true]
  unfold changeR
  rw [if_neg (by simp [r4])]
  simp [r4, del, put, Dk.with_, Dk.more, r5, ba_ne]
theorem q6 : renameR (r5 a c) sa sb = (r5 a c, 4) := by
  have hf : findR (r5 a c) [sb] sa = (noFile, 4) := by
    unfold findR
    rw [if_pos (show mayE (r5 a c).off ([sb] ++ [sa]) = 0 from may_ba)]
    simp [r5, look, ba_ne]
  unfold renameR
  rw [hf]
  rfl
theorem q7 : wrap64 ((fileOf sb (r5 a c).L).s.size - (fileOf sb (r5 a c).L).n) = c.size := by
  simp only [fileOf, r5, look, if_true, Option.getD_some]
  rw [wrap64_in (by simp; omega) (by simp; omega)]
  simp
  omega
theorem q8 : sumL (r5 a c).L = (a.size : Int) + c.size := by simp [r5, sumL]
theorem q9 : findR (r5 a c) [] sb = (⟨a ++ c, a.size⟩, 0) := by
  unfold findR
  rw [if_pos (by rw [List.nil_append]; exact may_b)]
  simp [r5, look]
theorem q10 : findR (r5 a c) [] sa = (noFile, 4) := by
  unfold findR
  rw [if_pos (by rw [List.nil_append]; exact may_a)]
  simp [r5, look, ba_ne]
theorem q11 : (r5 a c).crash 0 = r6 a := by
  have hk : kept 0 ⟨a ++ c, a.size⟩ = a.size := by
    simp only [kept, imin_eq, imax_eq]
    simp
    omega
  have he : (a ++ c).extract 0 a.size = a := by
    apply ByteArray.ext
    apply Array.ext'
    rw [ext_list]
    simp
  simp only [Dk.crash, r5, Bool.false_eq_true, if_false, crashL, List.map_cons, List.map_nil, cutF, hk, r6]
  simp [he]
theorem q12 : findR (r7 a) [] sb = (⟨a, a.size⟩, 0) := by
  unfold findR
  rw [if_pos (by rw [List.nil_append]; exact may_b)]
  simp [r7, look]
end
theorem okf (s : ByteArray) (n : Int) (h0 : 0 ≤ n) (h1 : n ≤ s.size) (h2 : s.size ≤ 5000) : Fl.ok ⟨s, n⟩ := ⟨h0, h1, by show (s.size : Int) ≤ _; omega⟩
section
variable (a b c : ByteArray) (h : (a.size : Int) + b.size + c.size ≤ 5000)
include h
theorem rfits : r0.fit ∧ (r1 a).fit ∧ (r2 a).fit ∧ (r3 a c).fit ∧ (r4 a b c).fit ∧ (r5 a c).fit ∧ (r7 a).fit := by
  have k (d : Dk) (h0 : 0 ≤ d.ch) (h1 : d.ch ≤ 10) (hk : d.keep = 0) (hr : d.room = 1048576) (hs : sumL d.L ≤ 5000) (hl : d.L.length ≤ 128) (hf : ∀ p ∈ d.L, p.2.ok) : d.fit :=
    ⟨⟨h0, by omega, by omega, by omega, hf⟩, by omega, by omega, by omega, hl⟩
  have e0 := okf a 0 (Int.le_refl _) (by omega) (by omega)
  have e1 := okf a a.size (by omega) (Int.le_refl _) (by omega)
  have e2 := okf (a ++ c) a.size (by omega) (by simp; omega) (by simp; omega)
  have e3 := okf b 0 (Int.le_refl _) (by omega) (by omega)
  refine ⟨?_, ?_, ?_, ?_, ?_, ?_, ?_⟩
  · exact k r0 (by decide) (by decide) rfl rfl (by decide) (by decide) (by simp [r0])
  · exact k (r1 a) (by simp [r1]) (by simp [r1]) rfl rfl (by simp [r1, sumL]; omega) (by simp [r1]) (by simpa [r1] using e0)
  · exact k (r2 a) (by simp [r2]) (by simp [r2]) rfl rfl (by simp [r2, sumL]; omega) (by simp [r2]) (by simpa [r2] using e1)
  · exact k (r3 a c) (by simp [r3]) (by simp [r3]) rfl rfl (by simp [r3, sumL]; omega) (by simp [r3]) (by simpa [r3] using e2)
  · exact k (r4 a b c) (by simp [r4]) (by simp [r4]) rfl rfl (by simp [r4, sumL]; omega) (by simp [r4]) (by simpa [r4] using ⟨e2, e3⟩)
  · exact k (r5 a c) (by simp [r5]) (by simp [r5]) rfl rfl (by simp [r5, sumL]; omega) (by simp [r5]) (by simpa [r5] using e2)
  · exact k (r7 a) (by simp [r7]) (by simp [r7]) rfl rfl (by simp [r7, sumL]; omega) (by simp [r7]) (by simpa [r7] using e1)
end

set_option maxHeartbeats 4000000 in
theorem renames_walk (w : World) (a : ByteArray) (ha : a.size ≤ 140737488351232) (b : ByteArray) (hb : b.size ≤ 140737488351232) (c : ByteArray) (hc : c.size ≤ 140737488351232) :
    Calls Try.prog 5 #[.string a, .string b, .string c] w fun e w' => e = .returned (.bool true) ∧ Below w.heap.size w w' := by
  suffices h : Calls Try.prog 5 #[.string a, .string b, .string c] w fun e w' => e = .returned (.bool true) ∧ Upd w w' Nope from h.mono fun e w' ⟨h1, h2⟩ => ⟨h1, h2.below (fun _ h => h.elim)⟩
  by_cases hs : 5000 < (a.size : Int) + b.size + c.size
  · have hd : decide (5000 < (a.size : Int) + b.size + c.size) = true := by simpa using hs
    go_enter Try.func5, Try.ntmps5
    go_wp2_with fail
    refine (awake_any w).mono ?_
    rintro e w1 ⟨rfl, u1⟩
    go_wp2
    go_returns
    exact ⟨rfl, u1⟩
  · have hle : (a.size : Int) + b.size + c.size ≤ 5000 := by omega
    have hd : decide (5000 < (a.size : Int) + b.size + c.size) = false := by simpa using hle
    have FI := Lib.hid (rfits a b c hle)
    have HL := Lib.hid hle
    clear hs hle
    go_enter Try.func5, Try.ntmps5
    go_wp2_with fail
    refine (awake_any w).mono ?_
    rintro e w1 ⟨rfl, u1⟩
    go_wp2_with fail
    refine (new_any 1048576 w1).mono ?_
    rintro e w2 ⟨_, hn, u2⟩
    obtain ⟨g, q, rfl, h2, lg, lb⟩ := hn (by decide)
    clear hn
    have H2 := Lib.hid h2
    clear h2
    have V2 := u1.nn u2
    have lg : w.heap.size ≤ g := Nat.le_trans u1.size lg
    have lb : w.heap.size ≤ q := Nat.le_trans u1.size lb
    clear u1 u2
    have hc := append_any (d := r0) H2.out FI.out.1 sa a (by have := HL.out; omega)
    rw [q1 a b c HL.out] at hc
    have HC := Lib.hid hc
    clear hc
    go_wp2_with fail
    refine HC.out.mono ?_
    rintro e w3 ⟨rfl, h, u⟩
    clear HC
    have H3 := Lib.hid h
    have V3 := V2.trans u (fun _ _ h => h) (fun i hi h => by omega)
    clear H2 V2 u h
    have hc := sync_any H3.out FI.out.2.1.ok sa
    rw [q2 a b c HL.out] at hc
    have HC := Lib.hid hc
    clear hc
    go_wp2_with fail
    refine HC.out.mono ?_
    rintro e w4 ⟨rfl, h, u⟩
    clear HC
    have H4 := Lib.hid h
    have V4 := V3.trans u (fun _ _ h => h) (fun i hi h => by omega)
    clear H3 V3 u h
    have hc := append_any H4.out FI.out.2.2.1 sa c (by have := HL.out; omega)
    rw [q3 a b c HL.out] at hc
    have HC := Lib.hid hc
    clear hc
    go_wp2_with fail
    refine HC.out.mono ?_
    rintro e w5 ⟨rfl, h, u⟩
    clear HC
    have H5 := Lib.hid h
    have V5 := V4.trans u (fun _ _ h => h) (fun i hi h => by omega)
    clear H4 V4 u h
    have hc := append_any H5.out FI.out.2.2.2.1 sb b (by have := HL.out; omega)
    rw [q4 a b c HL.out] at hc
    have HC := Lib.hid hc
    clear hc
    go_wp2_with fail
    refine HC.out.mono ?_
    rintro e w6 ⟨rfl, h, u⟩
    clear HC
    have H6 := Lib.hid h
    have V6 := V5.trans u (fun _ _ h => h) (fun i hi h => by omega)
    clear H5 V5 u h
    have hc := rename_any H6.out FI.out.2.2.2.2.1.ok sa sb
    rw [q5 a b c HL.out] at hc
    have HC := Lib.hid hc
    clear hc
    go_wp2_with fail
    refine HC.out.mono ?_
    rintro e w7 ⟨rfl, h, u⟩
    clear HC
    have H7 := Lib.hid h
    have V7 := V6.trans u (fun _ _ h => h) (fun i hi h => by omega)
    clear H6 V6 u h
    have hc := rename_any H7.out FI.out.2.2.2.2.2.1.ok sa sb
    rw [q6 a b c HL.out] at hc
    have HC := Lib.hid hc
    clear hc
    go_wp2_with fail
    refine HC.out.mono ?_
    rintro e w8 ⟨rfl, h, u⟩
    clear HC
    have H8 := Lib.hid h
    have V8 := V7.trans u (fun _ _ h => h) (fun i hi h => by omega)
    clear H7 V7 u h
    have hc := waits_any H8.out sb (by decide)
    rw [q7 a b c HL.out] at hc
    have HC := Lib.hid hc
    clear hc
    go_wp2_with fail
    refine HC.out.mono ?_
    rintro e w9 ⟨rfl, u⟩
    clear HC
    have H9 := Lib.hid (H8.out.nn u)
    have V9 := V8.nn u
    clear H8 V8 u
    have hc := used_any H9.out (by rw [q8 a b c HL.out]; have := HL.out; omega)
    rw [q8 a b c HL.out] at hc
    have HC := Lib.hid hc
    clear hc
    go_wp2_with fail
    refine HC.out.mono ?_
    rintro e w10 ⟨rfl, u⟩
    clear HC
    have H10 := Lib.hid (H9.out.nn u)
    have V10 := V9.nn u
    clear H9 V9 u
    have hc := read_any H10.out sb
    rw [q9 a b c HL.out] at hc
    have HC := Lib.hid hc
    clear hc
    go_wp2_with fail
    refine HC.out.mono ?_
    rintro e w11 ⟨rfl, u⟩
    clear HC
    have H11 := Lib.hid (H10.out.nn u)
    have V11 := V10.nn u
    clear H10 V10 u
    have hc := read_any H11.out sa
    rw [q10 a b c HL.out] at hc
    have HC := Lib.hid hc
    clear hc
    go_wp2_with fail
    refine HC.out.mono ?_
    rintro e w12 ⟨rfl, u⟩
    clear HC
    have H12 := Lib.hid (H11.out.nn u)
    have V12 := V11.nn u
    clear H11 V11 u
    have hc := list_any H12.out (by simp [r5])
    have HC := Lib.hid hc
    clear hc
    go_wp2_with fail
    refine HC.out.mono ?_
    rintro e w13 ⟨A, cap, l, rfl, hrd, hp, u, hA⟩
    clear HC
    have hl : l = [sb] := by simpa [r5] using hp
    subst hl
    have hx : ∀ ad, A = some ad → ad.block ≠ g ∧ ad.block ≠ q := fun ad e => by have h1 := hA ad e; have h2 := H12.out.blk.lt; have h3 := H12.out.mp.lt; omega
    have HR := Lib.hid hrd
    have HAD := Lib.hid hx
    clear hrd hp hA hx
    have H13 := Lib.hid (H12.out.nn u)
    have V13 := V12.nn u
    clear H12 V12 u
    have hc := crash_any H13.out 0 FI.out.2.2.2.2.2.1.ok.fs (by decide)
    rw [q11 a b c HL.out] at hc
    have HC := Lib.hid hc
    clear hc
    go_wp2_with fail
    refine HC.out.mono ?_
    rintro e w14 ⟨rfl, h, u⟩
    clear HC
    have HR := Lib.hid (rd_keep HR.out u (fun ad e => HAD.out ad e))
    have H14 := Lib.hid h
    have V14 := V13.trans u (fun _ _ h => h) (fun i hi h => by omega)
    clear H13 V13 u h
    have hc := start_any H14.out
    have HC := Lib.hid hc
    clear hc
    go_wp2_with fail
    refine HC.out.mono ?_
    rintro e w15 ⟨rfl, h, u⟩
    clear HC
    have HR := Lib.hid (rd_keep HR.out (u.mono (fun _ _ h => Or.inl h)) (fun ad e => HAD.out ad e))
    have H15 := Lib.hid (show DK w15 g q (r7 a) from h)
    have V15 := V14.trans u (fun _ _ h => h) (fun i hi h => by omega)
    clear H14 V14 u
    have hc := read_any H15.out sb
    rw [q12 a b c HL.out] at hc
    have HC := Lib.hid hc
    clear hc
    go_wp2_with fail
    refine HC.out.mono ?_
    rintro e w16 ⟨rfl, u⟩
    clear HC
    have HR := Lib.hid (HR.out.upd u (fun _ h => h.elim))
    have H16 := Lib.hid (H15.out.nn u)
    have V16 := V15.nn u
    clear H15 V15 u
    obtain ⟨ad, hA, hcell⟩ := HR.out 0 (by decide)
    subst hA
    simp only [Addr.add, if_true] at hcell
    have hcell : w16.cell? ad = some (.string sb) := hcell
    have hsb : sb.toList = [98] := by kernel_rfl
    go_wp2
    go_ret
    exact ⟨rfl, V16⟩
end Go.Proofs.Ytkglcgekpgcdpaa
