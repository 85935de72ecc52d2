/- Rows of entries that a call makes; the reference's without. -/
import Derived.Test.YthpilbooolgkiaaRfb
set_option linter.unusedVariables false
set_option linter.unusedSimpArgs false
namespace Go.Proofs.Ythpilbooolgkiaa
open Go.RowKit

/-- The queue's entries (34, 58), or the reference's (39, 30). -/
structure EK (T ty : TypeId) : Prop where
  ht : Try.prog.underlying ty = some (.slice T)
  hi : (Try.prog.info? T).map (fun i => (i.zero, i.size, i.bytes)) = some (some (.agg #[.int .i64 0, .string ByteArray.empty, .int .i64 0, .int .i64 0]), 4, 40)
theorem ek39 : EK 39 30 := ⟨Try.underlying30, by kernel_rfl⟩
theorem ek34 : EK 34 58 := ⟨Try.underlying58, by kernel_rfl⟩
/-- The row that a call makes, so far. -/
structure RowE (T : TypeId) (w2 w' : World) (v : Value) (xs : List En) : Prop where
  own : w'.ownsRow w2.heap.size T 4 v xs.length (xs.flatMap En.vals)
  upd : Upd w2 w' Nope
section
variable {T ty : TypeId} (ek : EK T ty) {w2 w' : World} {v : Value} {xs : List En}
theorem RowE.first (w2 : World) : RowE T w2 (w2.alloc (.cells #[] T)) (.slice (some ⟨w2.heap.size, 0, none⟩) 0 0) [] :=
  ⟨⟨rfl, .inr ⟨w2.heap.size, 0, #[], rfl, Nat.le_refl _, heap_alloc_new w2 _, Nat.le_refl _, by simp [maxLen], rfl, rfl⟩⟩, (Upd.refl w2 _).alloc _⟩
theorem RowE.alloc (h : RowE T w2 w' v xs) (o : Obj) : RowE T w2 (w'.alloc o) v xs := ⟨h.own.alloc _, h.upd.alloc _⟩
theorem RowE.drew (h : RowE T w2 w' v xs) : RowE T w2 w'.drew v xs := ⟨h.own, h.upd.drew⟩
theorem RowE.blk (h : RowE T w2 w' v xs) {k : Nat} (hk : v.ownBlock = some k) : w2.heap.size ≤ k ∧ k < w'.heap.size := by
  obtain ⟨_, h2⟩ := h.own
  rcases h2 with ⟨h0, _⟩ | ⟨g', cap, cur, e, hb, hg, _⟩
  · rw [h0] at hk; cases hk
  · rw [e] at hk
    injection hk with hk
    subst hk
    exact ⟨hb, (Array.getElem?_eq_some_iff.1 hg).1⟩
include ek in
theorem RowE.app (h : RowE T w2 w' v xs) {A : Option Addr} {c : Nat} {l : List En} (rd : RdS 4 En.vals w' A l) (hn : A = none → c = 0) (hl : xs.length + l.length ≤ 100000) :
    ∃ v' w'', (Builtin.append_ #[ty, ty] ty #[v, .slice A l.length c]).run Try.prog w' = .ok v' w'' ∧ RowE T w2 w'' v' (xs ++ l) ∧ Upd w' w'' (fun k => v.ownBlock = some k) ∧ (v'.ownBlock = v.ownBlock ∨ v'.ownBlock = some w'.heap.size) := by
  obtain ⟨i0, hi, hz0, hz1, hz2⟩ := info_parts ek.hi
  obtain ⟨v', w'', h1, h2, h3, h4⟩ := append_rowS (f := En.vals) (fun _ => rfl) (by decide) (P := Try.prog) w2.heap.size ty ek.ht hi hz0 hz1 hz2 rfl (fun x u hu => by simp [En.vals] at hu; rcases hu with rfl | rfl | rfl | rfl <;> rfl) h.own rd hn (by unfold maxLen; omega) (by omega) h.upd.size
  refine ⟨v', w'', h1, ⟨by rw [List.length_append]; exact h2, h.upd.grown h3 (fun k e => .inr (h.blk e).1)⟩, (Upd.refl w' _).grown h3 (fun k e => .inl e), h4⟩
theorem rdE_new (w : World) (p : En) : RdS 4 En.vals (w.alloc (.cells #[.int .i64 p.id, .string p.dest, .int .i64 p.pri, .int .i64 p.at_] T)) (some ⟨w.heap.size, 0, none⟩) [p] := by
  intro i hi
  obtain rfl : i = 0 := by simp at hi; omega
  exact ⟨_, rfl, fun j v hv => by simpa using World.news_of_block (heap_alloc_new w (.cells #[.int .i64 p.id, .string p.dest, .int .i64 p.pri, .int .i64 p.at_] T)) j v (by simpa [En.vals] using hv)⟩
theorem RowE.re (h : RowE T w2 w' v xs) : ∃ A cap, v = .slice A xs.length cap ∧ RE w' A cap xs ∧ ∀ ad, A = some ad → w2.heap.size ≤ ad.block := by
  obtain ⟨A, cap, e, _, h1, h2, h3, h4, h5⟩ := rdS_of_owns (f := En.vals) (fun _ => rfl) (by decide) h.own
  refine ⟨A, cap, e, ⟨h1, h2, h3, h4, fun ad ea => ?_⟩, h5⟩
  obtain ⟨_, h0⟩ := h.own
  rcases h0 with ⟨h0, _⟩ | ⟨g', cap', cur, e', hb, hg, _⟩
  · rw [h0] at e
    injection e with e1 _ _
    rw [ea] at e1
    cases e1
  · rw [e'] at e
    injection e with e1 _ _
    rw [ea] at e1
    injection e1 with e1
    subst e1
    exact (Array.getElem?_eq_some_iff.1 hg).1
end
def WoP (w : World) (M : List En) (e : Ending) (w' : World) : Prop := ∃ A' cap', e = .returned (.slice A' M.length cap') ∧ RE w' A' cap' M ∧ Upd w w' Nope ∧ ∀ ad, A' = some ad → w.heap.size ≤ ad.block
set_option maxHeartbeats 1000000 in
theorem without_any (w : World) (A : Option Addr) (cap : Nat) (L : List En) (hr : RE w A cap L) (hl : L.length ≤ 5000) (k : Nat) (hk : k < L.length) :
    Calls Try.prog 30 #[.slice A L.length cap, .int .i64 k] w (WoP w (L.take k ++ L.drop (k + 1))) := by
  have HR := Lib.hid hr
  clear hr
  go_enter Try.func30, Try.ntmps30
  go_upto_region 1 with (fail)
  obtain ⟨i0, hi, hz0, hz1, hz2⟩ := info_parts ek39.hi
  have hs1 := cut_hi Try.underlying30 hi A L.length cap k k rfl (by have := HR.out.le; omega)
  have hs2 := cut_lo Try.underlying30 hi hz1 A L.length cap (k + 1) ((k : Int) + 1) (by omega) (by omega)
  clear hi hz0 hz1 hz2
  refine region_seq [([1, 2, 3, 5, 6, 7, 8], 0), ([], 4), ([], 9)] [10] (by kernel_rfl) (fun w' => ∃ x : UW w, w' = x.val) (by kernel_rfl) (fun _ _ d _ _ h => by cases d <;> exact h) ⟨⟨w.drew, (Upd.refl _ _).drew⟩, rfl⟩ ?_
  simp only [segsAt_cons, segsAt_nil, opsAt_cons, opsAt_nil, List.getElem?_toArray, List.getElem?_cons_zero, List.getElem?_cons_succ, consO_some, pairO_some]
  refine wpS_seg ?_
  repeat (first | go_big_quiet_skip | (go_big_quiet_want; go_big_quiet_op; go_big_quiet_on))
  refine wpQuiet_nil ?_
  clear hs1 hs2
  go_wp2_with fail
  have HR0 := Lib.hid ((RowE.first (T := 39) w).drew)
  generalize (w.alloc (.cells #[] 39)).drew = w3 at *
  refine ⟨⟨⟨w3, HR0.out.upd⟩, rfl⟩, ?_⟩
  refine wpS_seg ?_
  refine wpQuiet_nil ?_
  obtain ⟨v4, w4, h1, hr4, _, _⟩ := HR0.out.app ek39 (l := L.take k) (c := cap) ((HR.out.nn (HR0.out.upd)).rd.take k) HR.out.nil (by simp; omega)
  rw [List.length_take, Nat.min_eq_left (by omega)] at h1
  rw [List.nil_append] at hr4
  have HR4 := Lib.hid hr4
  clear hr4
  go_wp2_with (at_builtin; refine wpList_append_eq _ _ rfl rfl h1 rfl rfl rfl ?_)
  clear h1
  refine ⟨⟨⟨w4, HR4.out.upd⟩, rfl⟩, ?_⟩
  refine wpS_seg ?_
  refine wpQuiet_nil ?_
  obtain ⟨v5, w5, h2, hr5, _, _⟩ := HR4.out.app ek39 (l := L.drop (k + 1)) ((HR.out.nn (HR4.out.upd)).rd.dropA (k + 1) cap HR.out.le) (dropA_nil HR.out.nil) (by simp; omega)
  rw [List.length_drop] at h2
  have HR5 := Lib.hid hr5
  clear hr5
  go_wp2_with (at_builtin; refine wpList_append_eq _ _ rfl rfl h2 rfl rfl rfl ?_)
  clear h2
  refine ⟨⟨⟨w5, HR5.out.upd⟩, rfl⟩, ?_⟩
  refine wpS_last ?_
  repeat (first | go_big_quiet_skip | (go_big_quiet_want; go_big_quiet_op; go_big_quiet_on))
  refine wpQuiet_nil ?_
  go_wp2_with fail
  go_ret
  obtain ⟨A5, cap5, e5, hre5, hA5⟩ := HR5.out.re
  exact ⟨A5, cap5, by rw [← e5]; rfl, hre5, HR5.out.upd, hA5⟩
end Go.Proofs.Ythpilbooolgkiaa
