/- A change: it is counted, it is done, it may fail. -/
import Derived.Test.YtkglcgekpgcdpaaCra
import Derived.Test.YtkglcgekpgcdpaaFind
set_option linter.unusedVariables false
set_option linter.unusedSimpArgs false
namespace Go.Proofs.Ytkglcgekpgcdpaa
open Go.RowKit

def Dk.more (d : Dk) : Dk := { d with ch := d.ch + 1 }
def Dk.with_ (d : Dk) (L : List (ByteArray × Fl)) : Dk := { d with L := L }
def changeR (d : Dk) (first : Bool) (L : List (ByteArray × Fl)) : Dk × Int :=
  if d.ch + 1 = d.at_ then (((if first then d.more.with_ L else d.more).crash d.keep), 7) else (d.more.with_ L, 0)
/-- What is asked of a disk that is called. -/
structure Dk.ok (d : Dk) : Prop where
  c0 : 0 ≤ d.ch
  c1 : d.ch ≤ 4611686018427387904
  k0 : -9223372036854775808 ≤ d.keep
  k1 : d.keep ≤ 9223372036854775807
  fs : ∀ p ∈ d.L, p.2.ok

set_option maxHeartbeats 2000000 in
theorem change_any {w : World} {g b : Nat} {d : Dk} (h : DK w g b d) (first : Bool) (L' : List (ByteArray × Fl)) (hd : d.ok) (hL : ∀ p ∈ L', p.2.ok) (fid : FuncId) (caps : Array Value) (hcf : ∀ w, (callFunc fid caps).run Try.prog w = .ok (.enter fid caps) w)
    (hf : ∀ w1, DK w1 g b d.more → Upd w w1 (· = g) → Calls Try.prog fid caps w1 fun e w' => e = .returned (.tuple #[]) ∧ DK w' g b (d.more.with_ L') ∧ Upd w1 w' (· = b)) :
    Calls Try.prog 28 #[.pointer (some ⟨g, 0, none⟩), .bool first, .func (.func fid) #[] caps] w fun e w' => e = .returned (.int .i64 (changeR d first L').2) ∧ DK w' g b (changeR d first L').1 ∧ Upd w w' (fun i => i = g ∨ i = b) := by
  have c5 := h.c5
  have f5 := h.blk.frozen 5
  have w64 : wrap64 (d.ch + 1) = d.ch + 1 := wrap64_in (by have := hd.c0; omega) (by have := hd.c1; omega)
  have h1 : DK (w.setCell ⟨g, 5, none⟩ (.int .i64 (d.ch + 1))) g b d.more := ⟨by simpa [Dk.cells, Dk.more] using h.blk.set 5 (.int .i64 (d.ch + 1)), h.mp.set (a := ⟨g, 5, none⟩) h.ne _⟩
  have u1 : Upd w (w.setCell ⟨g, 5, none⟩ (.int .i64 (d.ch + 1))) (· = g) := (Upd.refl w _).set ⟨g, 5, none⟩ _ (.inl rfl)
  have HF := Lib.hid hf
  clear hf
  have HD := Lib.hid hd
  have HL := Lib.hid hL
  clear hd hL h
  go_enter Try.func28, Try.ntmps28
  go_upto_region 2 with fail
  generalize w.setCell ⟨g, 5, none⟩ (.int .i64 (d.ch + 1)) = w1 at h1 u1 ⊢
  have d1 : DK w1.drew g b d.more := h1.nn (Upd.refl w1 _).drew
  have u1d : Upd w w1.drew (· = g) := u1.drew
  have e5 : w1.cell? ⟨g, 5, none⟩ = some (.int .i64 (d.ch + 1)) := h1.c5
  have e3 : w1.cell? ⟨g, 3, none⟩ = some (.int .i64 d.at_) := h1.c3
  have e4 : w1.drew.cell? ⟨g, 4, none⟩ = some (.int .i64 d.keep) := d1.c4
  have HC := HF.out w1.drew d1 u1d
  go_big_region
  have hr1 : ∀ e : (d.ch + 1 == d.at_) = true, changeR d first L' = (((if first then d.more.with_ L' else d.more).crash d.keep), 7) := fun e => by
    unfold changeR
    rw [if_pos (by simpa using e)]
  have hr0 : ∀ e : (d.ch + 1 == d.at_) = false, changeR d first L' = (d.more.with_ L', 0) := fun e => by
    unfold changeR
    rw [if_neg (by simpa using e)]
  generalize (d.ch + 1 == d.at_) = fl at hr1 hr0 ⊢
  have R1 := Lib.hid hr1
  have R0 := Lib.hid hr0
  have HCC := Lib.hid HC
  have HD1 := Lib.hid d1
  clear hr1 hr0 HC HF h1 u1 e5 e3 d1 c5 f5 w64
  cases fl with
  | false =>
    go_wp2_with fail
    all_goals
      refine HCC.out.mono ?_
      rintro e w2 ⟨rfl, hd2, hu2⟩
      have H2 := Lib.hid hd2
      clear hd2
      go_wp2
      go_ret
      refine ⟨by rw [R0.out (by simp)]; rfl, by rw [R0.out (by simp)]; exact H2.out, (u1d.mono (fun _ _ h => Or.inl h)).then_ (hu2.mono (fun _ _ h => Or.inr h))⟩
  | true =>
    cases first with
    | true =>
      go_wp2_with fail
      refine HCC.out.mono ?_
      rintro e w2 ⟨rfl, hd2, hu2⟩
      have HCr := crash_any hd2 d.keep HL.out ⟨HD.out.k0, HD.out.k1⟩
      have e4' : w2.cell? ⟨g, 4, none⟩ = some (.int .i64 d.keep) := hd2.c4
      have H2 := Lib.hid HCr
      clear hd2 HCr e4
      go_wp2_with fail
      refine H2.out.mono ?_
      rintro e w3 ⟨rfl, hd3, hu3⟩
      have H3 := Lib.hid hd3
      clear hd3
      go_wp2
      go_ret
      refine ⟨by rw [R1.out (by simp)]; rfl, by rw [R1.out (by simp)]; exact H3.out, ((u1d.mono (fun _ _ h => Or.inl h)).then_ (hu2.mono (fun _ _ h => Or.inr h))).then_ hu3⟩
    | false =>
      have HCr := crash_any HD1.out d.keep HD.out.fs ⟨HD.out.k0, HD.out.k1⟩
      have H2 := Lib.hid HCr
      clear HCr
      go_wp2_with fail
      refine H2.out.mono ?_
      rintro e w3 ⟨rfl, hd3, hu3⟩
      have H3 := Lib.hid hd3
      clear hd3
      go_wp2
      go_ret
      refine ⟨by rw [R1.out (by simp)]; rfl, by rw [R1.out (by simp)]; exact H3.out, (u1d.mono (fun _ _ h => Or.inl h)).then_ hu3⟩
end Go.Proofs.Ytkglcgekpgcdpaa
