/- The order of all that are there. -/
import Derived.Test.YthpilbooolgkiaaObj
set_option linter.unusedVariables false
set_option linter.unusedSimpArgs false
namespace Go.Proofs.Ythpilbooolgkiaa
open Go.RowKit

theorem infoI : (Try.prog.info? 3).map (fun i => (i.zero, i.size, i.bytes)) = some (some (.int .i64 0), 1, 8) := by kernel_rfl
/-- One number more, behind a row of the call's own. -/
theorem app1 {W : World} {B n : Nat} {v : Value} {xs : List Int} (hown : W.ownsRow B 3 1 v n (xs.map (Value.int .i64))) (r : Int) (hB : B ≤ W.heap.size) (hn : n ≤ 1000000) :
    ∃ v' w', (Builtin.append_ #[49, 49] 49 #[v, .slice (some ⟨W.heap.size, 0, none⟩) 1 1]).run Try.prog (W.alloc (.cells #[.int .i64 r] 3)) = .ok v' w' ∧ w'.ownsRow B 3 1 v' (n + 1) ((xs ++ [r]).map (Value.int .i64)) ∧
      Upd W w' (fun k => v.ownBlock = some k) ∧ ∀ k, v'.ownBlock = some k → v.ownBlock = some k ∨ W.heap.size ≤ k := by
  obtain ⟨i0, hi, hz0, hz1, hz2⟩ := info_parts infoI
  have hr : Rd1 (Value.int .i64) (W.alloc (.cells #[.int .i64 r] 3)) (some ⟨W.heap.size, 0, none⟩) [r] := by
    intro i hi
    obtain rfl : i = 0 := by simp at hi; omega
    exact ⟨_, rfl, by simpa using (World.news_of_block (heap_alloc_new W (.cells #[.int .i64 r] 3))) 0 (.int .i64 r) rfl⟩
  obtain ⟨v', w', h1, h2, h3, h4⟩ := append_row (P := Try.prog) B 49 Try.underlying49 hi hz0 hz1 hz2 rfl (fun _ => by simp [Value.oneCell']) (hown.alloc (.cells #[.int .i64 r] 3)) (c := 1) hr (by intro h; cases h) (by unfold maxLen; simp; omega) (by simp; omega) (by simp; omega)
  refine ⟨v', w', h1, h2, ((Upd.refl W _).alloc _).grown h3 (fun k e => .inl e), fun k hk => ?_⟩
  rcases h4 with e | e
  · exact .inl (by rw [← e]; exact hk)
  · rw [e] at hk
    injection hk with hk
    right
    simp at hk
    omega
theorem own_blk {B : Nat} {wr : World} {v : Value} {n : Nat} {l : List Int} (h : wr.ownsRow B 3 1 v n (l.map (Value.int .i64))) {k : Nat} (hk : v.ownBlock = some k) : B ≤ k ∧ k < wr.heap.size := by
  obtain ⟨_, h2⟩ := h
  rcases h2 with ⟨h0, _⟩ | ⟨g', cap, cur, e, hb, hg, _⟩
  · rw [h0] at hk; cases hk
  · rw [e] at hk
    injection hk with hk
    subst hk
    exact ⟨hb, (Array.getElem?_eq_some_iff.1 hg).1⟩
def OrderP (w : World) (ids : List Int) (e : Ending) (w' : World) : Prop := ∃ A cap, e = .returned (.slice A ids.length cap) ∧ Rd1 (Value.int .i64) w' A ids ∧ Upd w w' Nope ∧ ∀ ad, A = some ad → w.heap.size ≤ ad.block
set_option maxHeartbeats 2000000 in
theorem RO.order_ {w : World} {g : Nat} {F : Nat → Prop} {age limit room : Int} {l : List En} {fly : List (Int × ByteArray)} (h : RO w g F age limit room l fly) (now : Int) (hl : l.length ≤ 1000) (h1 : -2199023255552 ≤ now) (h2 : now ≤ 2199023255552) (h3 : 1 ≤ age) (h4 : age ≤ 1048576) :
    Calls Try.prog 21 #[.pointer (some ⟨g, 0, none⟩), .int .i64 now] w (OrderP w ((srtK (En.key now age) l).map (·.id))) := by
  have HS := Lib.hid (h.sorted_ now hl h1 h2 h3 h4)
  have hln := len_srtK (ky := En.key now age) l
  have HLN := Lib.hid hln
  clear h h1 h2 h3 h4
  go_enter Try.func21, Try.ntmps21
  go_wp2_with fail
  refine HS.out.mono ?_
  rintro e w1 ⟨A, cap, rfl, hsl, hU, hA⟩
  rw [← hln] at hl ⊢
  generalize hme : srtK (En.key now age) l = m at *
  have HME := Lib.hid hme
  clear hme
  have HSL := Lib.hid hsl
  have HU := Lib.hid hU
  have HA := Lib.hid hA
  clear hsl hU hA HS hln
  go_wp2_with fail
  have H0 := Lib.hid (show w1.ownsRow w1.heap.size 3 1 (.slice none 0 0) 0 ((((m.take 0).map (·.id))).map (Value.int .i64)) from ⟨by simp, .inl ⟨rfl, rfl⟩⟩)
  go_loopw [5, 12] (fun v i wr => ∃ (k : Nat) (B : Option Addr) (cb : Nat), i = .int .i64 k ∧ v = .slice B k cb ∧ k ≤ m.length ∧ wr.ownsRow w1.heap.size 3 1 (.slice B k cb) k (((m.take k).map (·.id)).map (Value.int .i64)) ∧ Upd w1 wr Nope) (fun _ i _ => m.length - (intOf i).toNat)
  case atStart => exact ⟨0, none, 0, rfl, rfl, by omega, H0.out, Upd.refl _ _⟩
  case round =>
    obtain ⟨k, B, cb, rfl, rfl, hk, hown, hU2⟩ := hrel
    by_cases hlt : k < m.length
    · obtain ⟨q, hA⟩ : ∃ q, A = some ⟨q, 0, none⟩ ∧ Arr wr q cap m := by
        rcases HSL.out with ⟨rfl, rfl, rfl⟩ | ⟨q, e, hA⟩
        · simp at hlt
        · exact ⟨q, e, hA.upd hU2 (fun h => h)⟩
      obtain ⟨rfl, hA⟩ := hA
      obtain ⟨x0, x1, x2, x3⟩ := hA.now (i := k) (e := m[k]) (List.getElem?_eq_getElem hlt)
      have u3 : Upd wr (wr.alloc (.cells #[.int .i64 m[k].id, .string m[k].dest, .int .i64 m[k].pri, .int .i64 m[k].at_] 34)) Nope := (Upd.refl wr _).alloc _
      have hBk := Blk.new wr #[.int .i64 m[k].id, .string m[k].dest, .int .i64 m[k].pri, .int .i64 m[k].at_] 34
      have hown3 := hown.alloc (.cells #[.int .i64 m[k].id, .string m[k].dest, .int .i64 m[k].pri, .int .i64 m[k].at_] 34)
      have HU3 := Lib.hid (hU2.nn u3)
      clear hown hU2 hA u3
      go_upto_region 5 with (fail)
      generalize wr.alloc (.cells #[.int .i64 m[k].id, .string m[k].dest, .int .i64 m[k].pri, .int .i64 m[k].at_] 34) = w3 at *
      have c0 : w3.cell? ⟨wr.heap.size, 0, none⟩ = some (.int .i64 m[k].id) := (hBk.cell 0).trans rfl
      obtain ⟨v8, w8, hap, hown8, hu8, hl8⟩ := app1 (W := w3) hown3 m[k].id HU3.out.size (by omega)
      have htk : (m.take k).map (·.id) ++ [m[k].id] = (m.take (k + 1)).map (·.id) := by rw [List.take_succ_eq_append_getElem hlt, List.map_append]; rfl
      rw [htk] at hown8
      obtain ⟨B8, capb8, rfl, hlen8, hr8, hn8, hc8⟩ := rd1_of_owns hown8
      have HU8 := Lib.hid (HU3.out.trans hu8 (fun _ _ h => h) (fun i hi hf => absurd (own_blk hown3 hf).1 (by omega)))
      have HO8 := Lib.hid hown8
      clear hlen8 hr8 hn8 hc8 hown8 hu8 hl8 htk hBk x0 x1 x2 x3
      clear hown3
      go_wp2_with (first | (at_builtin; refine wpList_append_eq _ _ rfl rfl hap rfl rfl rfl ?_; clear hap; go_frame) | fail)
      go_roundw
      case rel => exact ⟨k + 1, B8, capb8, by go_num, rfl, by omega, HO8.out, HU8.out⟩
      case measure => simp [intOf]; omega
    · obtain rfl : k = m.length := by omega
      rw [List.take_length] at hown
      have hlm : (m.map (·.id)).length = m.length := List.length_map _
      obtain ⟨B', c', e, hq1, hrd, hq2⟩ := rd1_of_owns hown
      clear hq1 hq2
      injection e with e1 e2 e3
      subst e1
      have HF := Lib.hid (And.intro hrd (And.intro (HU.out.nn hU2) (show ∀ ad, B = some ad → w.heap.size ≤ ad.block from fun ad e => by subst e; have := (own_blk hown rfl).1; have := HU.out.size; omega)))
      have HLM := Lib.hid hlm
      clear hrd hlm e2 e3 hown hU2
      go_wp2
      go_ret
      rw [HME.out]
      refine ⟨B, cb, ?_, HF.out⟩
      rw [HLM.out]
      rfl
end Go.Proofs.Ythpilbooolgkiaa
