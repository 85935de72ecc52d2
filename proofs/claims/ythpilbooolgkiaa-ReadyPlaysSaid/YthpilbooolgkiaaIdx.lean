/- The place of a number. -/
import Derived.Test.YthpilbooolgkiaaCln
set_option linter.unusedVariables false
set_option linter.unusedSimpArgs false
namespace Go.Proofs.Ythpilbooolgkiaa
open Go.RowKit

theorem isId_any (w : World) (e : En) (p : Nat) (id : Int) (hp : w.cell? ⟨p, 0, none⟩ = some (.int .i64 id)) :
    Calls Try.prog 35 #[.agg #[.int .i64 e.id, .string e.dest, .int .i64 e.pri, .int .i64 e.at_], .pointer (some ⟨p, 0, none⟩)] w fun r w' => r = .returned (.bool (e.id == id)) ∧ Upd w w' Nope := by
  have lp := World.block_lt_of_cell? w _ hp
  have lp1 : p < w.heap.size := lp
  go_enter Try.func35, Try.ntmps35
  go_wp2
  go_ret
  exact ⟨rfl, (Upd.refl w Nope).alloc _⟩
/-- Where the first one of its kind stands, behind k; -1: nowhere. -/
def posF (p : En → Bool) : Nat → List En → Int
  | _, [] => -1
  | k, e :: l => if p e then k else posF p (k + 1) l
def posOf (p : En → Bool) (l : List En) : Int := posF p 0 l
set_option maxHeartbeats 1000000 in
theorem index_id (w : World) (A : Option Addr) (cap : Nat) (l : List En) (h : SL w A cap l) (hl : l.length ≤ 5000) (p : Nat) (id : Int) (hp : w.cell? ⟨p, 0, none⟩ = some (.int .i64 id)) :
    Calls Try.prog 32 #[.slice A l.length cap, .func (.func 35) #[] #[.pointer (some ⟨p, 0, none⟩)]] w fun r w' => r = .returned (.int .i64 (posOf (fun e => e.id == id) l)) ∧ Upd w w' Nope := by
  have HS := Lib.hid h
  have HP := Lib.hid hp
  clear h hp
  go_enter Try.func32, Try.ntmps32
  go_wp2
  go_loopw [8] (fun i wr => ∃ k : Nat, i = .int .i64 k ∧ k ≤ l.length ∧ Upd w wr Nope ∧ posF (fun e => e.id == id) k (l.drop k) = posOf (fun e => e.id == id) l) (fun i _ => l.length - (intOf i).toNat)
  case atStart => exact ⟨0, rfl, by omega, Upd.refl _ _, rfl⟩
  case round =>
    obtain ⟨k, rfl, hk, hU, hpos⟩ := hrel
    by_cases hlt : k < l.length
    · obtain ⟨q, hA⟩ : ∃ q, A = some ⟨q, 0, none⟩ ∧ Arr wr q cap l := by
        rcases HS.out with ⟨rfl, rfl, rfl⟩ | ⟨q, e, hA⟩
        · simp at hlt
        · exact ⟨q, e, hA.upd hU (fun h => h)⟩
      obtain ⟨rfl, hA⟩ := hA
      obtain ⟨x0, x1, x2, x3⟩ := hA.now (i := k) (e := l[k]) (List.getElem?_eq_getElem hlt)
      rw [List.drop_eq_getElem_cons hlt] at hpos
      have HPOS := Lib.hid hpos
      have HU := Lib.hid hU
      have HC := Lib.hid (isId_any wr l[k] p id (hU.cell HP.out (fun h => h)))
      clear hpos hU hA
      go_wp2_with fail
      refine HC.out.mono ?_
      rintro e w2 ⟨rfl, hU2⟩
      have HU2 := Lib.hid (HU.out.nn hU2)
      clear hU2 HC x0 x1 x2 x3
      by_cases he : (l[k].id == id) = true
      · have hfin : posOf (fun e => e.id == id) l = (k : Int) := by
          have := HPOS.out
          unfold posF at this
          rw [if_pos he] at this
          exact this.symm
        have HF := Lib.hid hfin
        clear hfin
        go_wp2
        go_ret
        refine ⟨?_, HU2.out⟩
        rw [HF.out]
        rfl
      · have he' : (l[k].id == id) = false := by simpa using he
        have hn : posF (fun e => e.id == id) (k + 1) (l.drop (k + 1)) = posOf (fun e => e.id == id) l := by
          have := HPOS.out
          unfold posF at this
          rw [if_neg he] at this
          exact this
        have HN := Lib.hid hn
        clear hn he
        go_wp2
        go_roundw
        case rel => exact ⟨k + 1, by go_num, by omega, HU2.out, HN.out⟩
        case measure => simp [intOf]; omega
    · obtain rfl : k = l.length := by omega
      rw [List.drop_length] at hpos
      have HF := Lib.hid (And.intro hpos hU)
      clear hpos hU
      go_wp2
      go_ret
      refine ⟨?_, HF.out.2⟩
      rw [← HF.out.1]
      rfl
end Go.Proofs.Ythpilbooolgkiaa
