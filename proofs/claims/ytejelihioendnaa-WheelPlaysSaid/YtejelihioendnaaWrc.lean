/- The reference: Cancel. -/
import Derived.Test.YtejelihioendnaaWac
import Derived.Test.YtejelihioendnaaSeqf
import Derived.Test.YtejelihioendnaaRowsB
set_option linter.unusedVariables false
set_option linter.unusedSimpArgs false
namespace Go.Proofs.Ytejelihioendnaa
open Go.RowKit

/-- A timer of the reference's. -/
def tcs (p : Int × Int) : List Value := [.int .i64 p.2, .int .i64 p.1]
abbrev RdT (w : World) (A : Option Addr) (L : List (Int × Int)) : Prop := RdS 2 tcs w A L
theorem tcs_len (p : Int × Int) : (tcs p).length = 2 := rfl
theorem infoT : (Try.prog.info? 50).map (fun i => (i.zero, i.size, i.bytes)) = some (some (.agg #[.int .i64 0, .int .i64 0]), 2, 16) := by kernel_rfl
/-- A world in which a block's cell 1 holds a slice. -/
structure US (gb : Nat) (v : Value) where mk ::
  val : World
  h1 : val.cell? ⟨gb, 1, none⟩ = some v
  h0 : val.frozen? ⟨gb, 1, none⟩ = false
/-- The row of the reference's wheel. -/
structure Rw (w : World) (A : Option Addr) (cap : Nat) (L : List (Int × Int)) : Prop where
  rd : RdT w A L
  nil : A = none → cap = 0
  le : L.length ≤ cap
  max : cap ≤ maxLen
  lt : ∀ ad, A = some ad → ad.block < w.heap.size
/-- The row that a call makes, so far. -/
structure Row2 (w2 w' : World) (v : Value) (xs : List (Int × Int)) : Prop where
  own : w'.ownsRow w2.heap.size 50 2 v xs.length (xs.flatMap tcs)
  upd : Upd w2 w' Nope
theorem Row2.start (w2 : World) : Row2 w2 (w2.alloc (.cells #[] 50)).drew (.slice (some ⟨w2.heap.size, 0, none⟩) 0 0) [] :=
  ⟨⟨rfl, .inr ⟨w2.heap.size, 0, #[], rfl, Nat.le_refl _, heap_alloc_new w2 _, Nat.le_refl _, by simp [maxLen], rfl, rfl⟩⟩, ((Upd.refl w2 _).alloc _).drew⟩
theorem Row2.app {w2 w' : World} {v : Value} {xs : List (Int × Int)} (h : Row2 w2 w' v xs) {A : Option Addr} {c : Nat} {l : List (Int × Int)} (rd : RdT w' A l) (hn : A = none → c = 0) (hl : xs.length + l.length ≤ 100000) :
    ∃ v' w'', (Builtin.append_ #[28, 28] 28 #[v, .slice A l.length c]).run Try.prog w' = .ok v' w'' ∧ Row2 w2 w'' v' (xs ++ l) := by
  obtain ⟨i0, hi, hz0, hz1, hz2⟩ := info_parts infoT
  obtain ⟨v', w'', h1, h2, h3, h4⟩ := append_rowS (f := tcs) (fun _ => rfl) (by decide) (P := Try.prog) w2.heap.size 28 Try.underlying28 hi hz0 hz1 hz2 rfl (fun x u hu => by simp [tcs] at hu; rcases hu with rfl | rfl <;> rfl) h.own rd hn (by unfold maxLen; omega) (by omega) h.upd.size
  refine ⟨v', w'', h1, ⟨by rw [List.length_append]; exact h2, h.upd.grown h3 (fun k e => .inr ?_)⟩⟩
  obtain ⟨_, ho⟩ := h.own
  rcases ho with ⟨h0, _⟩ | ⟨g', cap, cur, e', hb, _⟩
  · rw [h0] at e; cases e
  · rw [e'] at e
    injection e with e
    have e2 : g' = k := e
    omega
theorem Row2.app2 {w2 w' : World} {v : Value} {xs : List (Int × Int)} (h : Row2 w2 w' v xs) {A : Option Addr} {c : Nat} {l : List (Int × Int)} (rd : RdT w' A l) (hn : A = none → c = 0) (hl : xs.length + l.length ≤ 100000) :
    ∃ v' w'', (Builtin.append_ #[28, 28] 28 #[v, .slice A l.length c]).run Try.prog w' = .ok v' w'' ∧ Row2 w2 w'' v' (xs ++ l) ∧ Upd w' w'' (fun k => v.ownBlock = some k) ∧ (v'.ownBlock = v.ownBlock ∨ v'.ownBlock = some w'.heap.size) := by
  obtain ⟨i0, hi, hz0, hz1, hz2⟩ := info_parts infoT
  obtain ⟨v', w'', h1, h2, h3, h4⟩ := append_rowS (f := tcs) (fun _ => rfl) (by decide) (P := Try.prog) w2.heap.size 28 Try.underlying28 hi hz0 hz1 hz2 rfl (fun x u hu => by simp [tcs] at hu; rcases hu with rfl | rfl <;> rfl) h.own rd hn (by unfold maxLen; omega) (by omega) h.upd.size
  refine ⟨v', w'', h1, ⟨by rw [List.length_append]; exact h2, h.upd.grown h3 (fun k e => .inr ?_)⟩, (Upd.refl w' _).grown h3 (fun k e => .inl e), h4⟩
  obtain ⟨_, ho⟩ := h.own
  rcases ho with ⟨h0, _⟩ | ⟨g', cap, cur, e', hb, _⟩
  · rw [h0] at e; cases e
  · rw [e'] at e
    injection e with e
    have e2 : g' = k := e
    omega
theorem Row2.blk {w2 w' : World} {v : Value} {xs : List (Int × Int)} (h : Row2 w2 w' v xs) {k : Nat} (hk : v.ownBlock = some k) : w2.heap.size ≤ k ∧ k < w'.heap.size := by
  obtain ⟨_, h2⟩ := h.own
  rcases h2 with ⟨h0, _⟩ | ⟨g', cap, cur, e, hb, hg, _⟩
  · rw [h0] at hk; cases hk
  · rw [e] at hk
    injection hk with hk
    subst hk
    exact ⟨hb, (Array.getElem?_eq_some_iff.1 hg).1⟩
/-- A row that a call makes, and one element that lies for itself. -/
structure Row3 (w2 w' : World) (v : Value) (xs : List (Int × Int)) (B : Nat) (p : Int × Int) : Prop where
  row : Row2 w2 w' v xs
  one : RdT w' (some ⟨B, 0, none⟩) [p]
  ap : v.ownBlock ≠ some B
  lt : B < w'.heap.size
theorem rdT_new (w : World) (p : Int × Int) : RdT (w.alloc (.cells #[.int .i64 p.2, .int .i64 p.1] 50)) (some ⟨w.heap.size, 0, none⟩) [p] := by
  intro i hi
  obtain rfl : i = 0 := by simp at hi; omega
  exact ⟨_, rfl, fun j v hv => by simpa using World.news_of_block (heap_alloc_new w (.cells #[.int .i64 p.2, .int .i64 p.1] 50)) j v (by simpa [tcs] using hv)⟩
theorem Row2.with_ {w2 w' : World} {v : Value} {xs : List (Int × Int)} (h : Row2 w2 w' v xs) (p : Int × Int) : Row3 w2 (w'.alloc (.cells #[.int .i64 p.2, .int .i64 p.1] 50)) v xs w'.heap.size p :=
  ⟨⟨h.own.alloc _, h.upd.alloc _⟩, rdT_new w' p, fun e => by have := (h.blk e).2; omega, by simp⟩
theorem Row3.app {w2 w' : World} {v : Value} {xs : List (Int × Int)} {B : Nat} {p : Int × Int} (h : Row3 w2 w' v xs B p) {A : Option Addr} {c : Nat} {l : List (Int × Int)} (rd : RdT w' A l) (hn : A = none → c = 0) (hl : xs.length + l.length ≤ 100000) :
    ∃ v' w'', (Builtin.append_ #[28, 28] 28 #[v, .slice A l.length c]).run Try.prog w' = .ok v' w'' ∧ Row3 w2 w'' v' (xs ++ l) B p := by
  obtain ⟨v', w'', h1, h2, h3, h4⟩ := h.row.app2 rd hn hl
  refine ⟨v', w'', h1, h2, ?_, fun e => ?_, Nat.lt_of_lt_of_le h.lt h3.size⟩
  · intro i hi
    obtain ⟨ad, e, hc⟩ := h.one i hi
    refine ⟨ad, e, fun j v hv => h3.cell (hc j v hv) (fun e2 => h.ap ?_)⟩
    cases e
    rw [e2, addB]
  · rcases h4 with e2 | e2
    · exact h.ap (by rw [← e2]; exact e)
    · rw [e2] at e
      injection e with e
      have := h.lt
      omega
/-- The element lies there first. -/
theorem Row3.first (w2 : World) (p : Int × Int) : Row3 w2 ((w2.alloc (.cells #[.int .i64 p.2, .int .i64 p.1] 50)).alloc (.cells #[] 50)) (.slice (some ⟨w2.heap.size + 1, 0, none⟩) 0 0) [] w2.heap.size p :=
  ⟨⟨⟨rfl, .inr ⟨w2.heap.size + 1, 0, #[], rfl, by omega, by simpa using heap_alloc_new (w2.alloc (.cells #[.int .i64 p.2, .int .i64 p.1] 50)) (.cells #[] 50), Nat.le_refl _, by simp [maxLen], rfl, rfl⟩⟩, ((Upd.refl w2 _).alloc _).alloc _⟩,
    (rdT_new w2 p).nn ((Upd.refl _ _).alloc _), by simp [Value.ownBlock], by simp; omega⟩
theorem Row2.first (w2 : World) : Row2 w2 (w2.alloc (.cells #[] 50)) (.slice (some ⟨w2.heap.size, 0, none⟩) 0 0) [] :=
  ⟨⟨rfl, .inr ⟨w2.heap.size, 0, #[], rfl, Nat.le_refl _, heap_alloc_new w2 _, Nat.le_refl _, by simp [maxLen], rfl, rfl⟩⟩, (Upd.refl w2 _).alloc _⟩
theorem Row2.alloc {w2 w' : World} {v : Value} {xs : List (Int × Int)} (h : Row2 w2 w' v xs) (o : Obj) : Row2 w2 (w'.alloc o) v xs := ⟨h.own.alloc _, h.upd.alloc _⟩
theorem Row2.rw_ {w2 w' : World} {v : Value} {xs : List (Int × Int)} (h : Row2 w2 w' v xs) : ∃ A cap, v = .slice A xs.length cap ∧ Rw w' A cap xs ∧ ∀ ad, A = some ad → w2.heap.size ≤ ad.block := by
  obtain ⟨A, cap, e, _, h1, h2, h3, h4, h5⟩ := rdS_of_owns (f := tcs) (fun _ => rfl) (by decide) h.own
  refine ⟨A, cap, e, ⟨h1, h2, h3, h4, fun ad ea => ?_⟩, h5⟩
  obtain ⟨_, h0⟩ := h.own
  rcases h0 with ⟨h0, _⟩ | ⟨g', cap', cur, e', hb, hg, _⟩
  · rw [h0] at e
    injection e with e1 _ _
    rw [ea] at e1
    cases e1
  · rw [e'] at e
    injection e with e1 _ _
    rw [ea] at e1
    injection e1 with e1
    subst e1
    exact (Array.getElem?_eq_some_iff.1 hg).1
theorem RdS.away {α : Type} {k : Nat} {f : α → List Value} {w w1 : World} {F : Nat → Prop} {A : Option Addr} {l : List α} (h : RdS k f w A l) (u : Upd w w1 F) (hA : ∀ ad, A = some ad → ¬ F ad.block) : RdS k f w1 A l := by
  intro i hi
  obtain ⟨ad, e, hc⟩ := h i hi
  exact ⟨ad, e, fun j v hv => u.cell (hc j v hv) (by rw [addB]; exact hA ad e)⟩
theorem Rw.away {w w1 : World} {F : Nat → Prop} {A : Option Addr} {cap : Nat} {L : List (Int × Int)} (h : Rw w A cap L) (u : Upd w w1 F) (hA : ∀ ad, A = some ad → ¬ F ad.block) : Rw w1 A cap L := ⟨h.rd.away u hA, h.nil, h.le, h.max, fun ad e => Nat.lt_of_lt_of_le (h.lt ad e) u.size⟩
theorem Rw.nn {w w' : World} {A : Option Addr} {cap : Nat} {L : List (Int × Int)} (h : Rw w A cap L) (u : Upd w w' Nope) : Rw w' A cap L := ⟨h.rd.nn u, h.nil, h.le, h.max, fun ad e => Nat.lt_of_lt_of_le (h.lt ad e) u.size⟩
theorem delT_at {id : Int} {L : List (Int × Int)} (h : (L.map (·.2)).Nodup) {k : Nat} (hk : k < L.length) (e : L[k].2 = id) : delT id L = L.take k ++ L.drop (k + 1) := by
  have hL : L = L.take k ++ L[k] :: L.drop (k + 1) := by rw [← List.drop_eq_getElem_cons hk, List.take_append_drop]
  have hn : (L.take k).map (·.2) ++ L[k].2 :: (L.drop (k + 1)).map (·.2) = L.map (·.2) := by
    rw [← List.map_cons (f := fun x : Int × Int => x.2), ← List.map_append, ← hL]
  rw [← hn, e] at h
  rw [List.nodup_append] at h
  obtain ⟨_, h2, h3⟩ := h
  rw [List.nodup_cons] at h2
  conv => lhs; rw [hL]
  unfold delT
  rw [List.filter_append, List.filter_cons]
  have a1 : (L.take k).filter (fun p => !decide (p.2 = id)) = L.take k := List.filter_eq_self.2 fun p hp => by
    have := h3 p.2 (List.mem_map_of_mem hp) id (List.mem_cons_self)
    simpa using this
  have a2 : (L.drop (k + 1)).filter (fun p => !decide (p.2 = id)) = L.drop (k + 1) := List.filter_eq_self.2 fun p hp => by
    have : p.2 ≠ id := fun e' => h2.1 (by rw [← e']; exact List.mem_map_of_mem hp)
    simpa using this
  rw [a1, a2]
  simp [e]
def CanF (w : World) (now id : Int) (A : Option Addr) (L : List (Int × Int)) (e : Ending) (w' : World) : Prop :=
  ∃ A' cap', e = .returned (.tuple #[.agg #[.int .i64 now, .slice A' (delT id L).length cap'], .bool (L.any fun p => decide (p.2 = id))]) ∧ Rw w' A' cap' (delT id L) ∧ Upd w w' Nope ∧ (A' = A ∨ ∀ ad, A' = some ad → w.heap.size ≤ ad.block)
set_option maxHeartbeats 1000000 in
theorem cancelF_any (w : World) (now id : Int) (A : Option Addr) (cap : Nat) (L : List (Int × Int)) (hr : Rw w A cap L) (hL : L.length ≤ 1000) (hid : (L.map (·.2)).Nodup) :
    Calls Try.prog 12 #[.agg #[.int .i64 now, .slice A L.length cap], .int .i64 id] w (CanF w now id A L) := by
  have HR := Lib.hid hr
  have HID := Lib.hid hid
  clear hr hid
  go_enter Try.func12, Try.ntmps12
  go_wp2
  have hB := (Blk.new w #[.int .i64 now, .slice A L.length cap] 30).alloc (.cells #[.int .i64 0, .slice none 0 0] 30)
  have hC := Blk.new (w.alloc (.cells #[.int .i64 now, .slice A L.length cap] 30)) #[.int .i64 0, .slice none 0 0] 30
  have hU : Upd w ((w.alloc (.cells #[.int .i64 now, .slice A L.length cap] 30)).alloc (.cells #[.int .i64 0, .slice none 0 0] 30)) Nope := ((Upd.refl w _).alloc _).alloc _
  have hz : (w.alloc (.cells #[.int .i64 now, .slice A L.length cap] 30)).heap.size = w.heap.size + 1 := by simp
  rw [hz] at hC
  clear hz
  generalize (w.alloc (.cells #[.int .i64 now, .slice A L.length cap] 30)).alloc (.cells #[.int .i64 0, .slice none 0 0] 30) = w2 at *
  have b0 : w2.cell? ⟨w.heap.size, 0, none⟩ = some (.int .i64 now) := (hB.cell 0).trans rfl
  have b1 : w2.cell? ⟨w.heap.size, 1, none⟩ = some (.slice A L.length cap) := (hB.cell 1).trans rfl
  have bf := hB.frozen 1
  have d0 : w2.cell? ⟨w.heap.size + 1, 0, none⟩ = some (.int .i64 0) := (hC.cell 0).trans rfl
  have d1 : w2.cell? ⟨w.heap.size + 1, 1, none⟩ = some (.slice none 0 0) := (hC.cell 1).trans rfl
  have df0 := hC.frozen 0
  have df1 := hC.frozen 1
  have HB := Lib.hid hB
  have HC := Lib.hid hC
  have HU := Lib.hid hU
  clear hB hC hU
  go_loop [6] (fun i => ∃ k : Nat, k ≤ L.length ∧ i = .int .i64 k ∧ ∀ j, ∀ h : j < L.length, j < k → L[j].2 ≠ id) (fun i => L.length - (intOf i).toNat)
  case atStart => exact ⟨0, by omega, rfl, fun j _ h => by omega⟩
  case round =>
    obtain ⟨k, hk, rfl, hno⟩ := hrel
    have HN := Lib.hid hno
    clear hno
    by_cases hlt : k < L.length
    · obtain ⟨ad, rfl, hcell⟩ := (HR.out.rd.nn HU.out) k hlt
      have hcell := hcell 0 (.int .i64 L[k].2) rfl
      simp only [Nat.add_zero] at hcell
      by_cases he : L[k].2 = id
      · have t0 : (L[k].2 == id) = true := by simpa using he
        have HE := Lib.hid he
        clear he
        go_upto_region 5 with (fail)
        obtain ⟨i0, hi, hz0, hz1, hz2⟩ := info_parts infoT
        have hs1 := cut_hi Try.underlying28 hi (some ad) L.length cap k k rfl (by have := HR.out.le; omega)
        have hs2 := cut_lo Try.underlying28 hi hz1 (some ad) L.length cap (k + 1) ((k : Int) + 1) (by omega) (by omega)
        have HI := Lib.hid (And.intro hi (And.intro hz0 (And.intro hz1 hz2)))
        clear hi hz0 hz1 hz2
        have XC := fun (x : US w.heap.size (.slice (some ad) L.length cap)) => x.h1
        have y1 : w2.drew.cell? ⟨w.heap.size, 1, none⟩ = some (.slice (some ad) L.length cap) := (HB.out.cell 1).trans rfl
        have yf : w2.drew.frozen? ⟨w.heap.size, 1, none⟩ = false := HB.out.frozen 1
        haveI : Nonempty (US w.heap.size (.slice (some ad) L.length cap)) := ⟨⟨w2.drew, y1, yf⟩⟩
        refine region_seqF [([1, 2, 3, 4, 6, 7, 8, 9, 10], 0), ([], 5), ([], 11)] [12] 13 [12, 11, 10, 5, 9, 7, 8, 6, 4, 0, 3, 2, 1] _ (by kernel_rfl) (fun w' => ∃ x : US w.heap.size (.slice (some ad) L.length cap), w' = x.val) rfl (by kernel_rfl) (fun _ _ d _ _ h => by cases d <;> exact h) ⟨⟨w2.drew, y1, yf⟩, rfl⟩ ?_
        simp only [segsAt_cons, segsAt_nil, opsAt_cons, opsAt_nil, List.getElem?_toArray, List.getElem?_cons_zero, List.getElem?_cons_succ, consO_some, pairO_some]
        refine wpSF_seg ?_
        repeat (first | go_big_quiet_skip | (go_big_quiet_want; go_big_quiet_op; go_big_quiet_on))
        refine wpQuiet_nil ?_
        go_wp2_with fail
        have hr0 := Row2.start w2
        have hC0 : (w2.alloc (.cells #[] 50)).drew.cell? ⟨w.heap.size, 1, none⟩ = some (.slice (some ad) L.length cap) := ((HB.out.upd hr0.upd (fun h => h)).cell 1).trans rfl
        have hF0 := (HB.out.upd hr0.upd (fun h => h)).frozen 1
        have HR0 := Lib.hid hr0
        clear hr0
        generalize (w2.alloc (.cells #[] 50)).drew = w3 at *
        refine ⟨⟨⟨w3, hC0, hF0⟩, rfl⟩, ?_⟩
        refine wpSF_seg ?_
        refine wpQuiet_nil ?_
        obtain ⟨v4, w4, h1, hr4⟩ := HR0.out.app (l := L.take k) (c := cap) (((HR.out.rd.nn HU.out).nn HR0.out.upd).take k) HR.out.nil (by simp; omega)
        rw [List.length_take, Nat.min_eq_left hk] at h1
        rw [List.nil_append] at hr4
        go_wp2_with (at_builtin; refine wpList_append_eq _ _ rfl rfl h1 rfl rfl rfl ?_)
        have hC1 : w4.cell? ⟨w.heap.size, 1, none⟩ = some (.slice (some ad) L.length cap) := ((HB.out.upd hr4.upd (fun h => h)).cell 1).trans rfl
        have hF1 := (HB.out.upd hr4.upd (fun h => h)).frozen 1
        refine ⟨⟨⟨w4, hC1, hF1⟩, rfl⟩, ?_⟩
        refine wpSF_seg ?_
        refine wpQuiet_nil ?_
        have hdl : (L.drop (k + 1)).length = L.length - (k + 1) := List.length_drop
        obtain ⟨v5, w5, h2, hr5⟩ := hr4.app (l := L.drop (k + 1)) (((HR.out.rd.nn HU.out).nn hr4.upd).dropA (k + 1) cap HR.out.le) (dropA_nil HR.out.nil) (by simp; omega)
        rw [hdl] at h2
        obtain ⟨A5, cap5, rfl, hrw5, hA5⟩ := hr5.rw_
        have HR5 := Lib.hid hr5
        have HRW := Lib.hid hrw5
        have HA5 := Lib.hid hA5
        clear hr4 hr5 hrw5 hA5 hC0 hF0 h1 hdl
        go_wp2_with (at_builtin; refine wpList_append_eq _ _ rfl rfl h2 rfl rfl rfl ?_)
        have hB5 := HB.out.upd HR5.out.upd (fun h => h)
        have hC5 := HC.out.upd HR5.out.upd (fun h => h)
        have hC1' : w5.cell? ⟨w.heap.size, 1, none⟩ = some (.slice (some ad) L.length cap) := (hB5.cell 1).trans rfl
        have hF1' := hB5.frozen 1
        refine ⟨⟨⟨w5, hC1', hF1'⟩, rfl⟩, ?_⟩
        refine wpSF_fin ?_
        have HB5 := Lib.hid hB5
        have HC5 := Lib.hid hC5
        clear hB5 hC5 h2 hC1 hF1 hs1 hs2 XC
        repeat (first | go_big_quiet_skip | (go_big_quiet_want; go_big_quiet_op; go_big_quiet_on))
        refine wpQuiet_nil ?_
        have x0 : w5.cell? ⟨w.heap.size, 0, none⟩ = some (.int .i64 now) := (HB5.out.cell 0).trans rfl
        have y0 : w5.cell? ⟨w.heap.size + 1, 0, none⟩ = some (.int .i64 0) := (HC5.out.cell 0).trans rfl
        have y1' : w5.cell? ⟨w.heap.size + 1, 1, none⟩ = some (.slice none 0 0) := (HC5.out.cell 1).trans rfl
        have yf0 := HC5.out.frozen 0
        have yf1 := HC5.out.frozen 1
        have HDE := Lib.hid (delT_at HID.out hlt HE.out)
        clear y1 yf b0 b1 bf d0 d1 df0 df1 hcell
        generalize hM : L.take k ++ L.drop (k + 1) = M at *
        have HM := Lib.hid hM
        clear hM
        go_wp2
        have hM5 := HRW.out
        have hlen : k + (L.length - (k + 1)) = M.length := by rw [← HM.out]; simp; omega
        rw [hlen]
        have hC7 := ((HC5.out.far (p := ⟨w.heap.size, 1, none⟩) (by simp) (.slice A5 M.length cap5)).set 0 (.int .i64 now)).set 1 (.slice A5 M.length cap5)
        have hU7 : Upd w2 (((w5.setCell ⟨w.heap.size, 1, none⟩ (.slice A5 M.length cap5)).setCell ⟨w.heap.size + 1, 0, none⟩ (.int .i64 now)).setCell ⟨w.heap.size + 1, 1, none⟩ (.slice A5 M.length cap5)) (fun i => w.heap.size ≤ i ∧ i < w2.heap.size) := by
          have hlt2 := HC.out.lt
          exact (((HR5.out.upd.mono (fun _ _ h => h.elim)).set _ _ (.inl ⟨Nat.le_refl _, by simp; omega⟩)).set _ _ (.inl ⟨by simp, hlt2⟩)).set _ _ (.inl ⟨by simp, hlt2⟩)
        have hW7 := HRW.out.away (F := fun i => w.heap.size ≤ i ∧ i < w2.heap.size) ((((Upd.refl w5 _).set ⟨w.heap.size, 1, none⟩ (.slice A5 M.length cap5) (.inl ⟨Nat.le_refl _, Nat.lt_of_succ_lt HC.out.lt⟩)).set ⟨w.heap.size + 1, 0, none⟩ (.int .i64 now) (.inl ⟨by simp, HC.out.lt⟩)).set ⟨w.heap.size + 1, 1, none⟩ (.slice A5 M.length cap5) (.inl ⟨by simp, HC.out.lt⟩)) (fun ad e h => by have := HA5.out ad e; omega)
        generalize ((w5.setCell ⟨w.heap.size, 1, none⟩ (.slice A5 M.length cap5)).setCell ⟨w.heap.size + 1, 0, none⟩ (.int .i64 now)).setCell ⟨w.heap.size + 1, 1, none⟩ (.slice A5 M.length cap5) = w7 at *
        have r0 : w7.cell? ⟨w.heap.size + 1, 0, none⟩ = some (.int .i64 now) := (hC7.cell 0).trans rfl
        have r1 : w7.cell? ⟨w.heap.size + 1, 1, none⟩ = some (.slice A5 M.length cap5) := (hC7.cell 1).trans rfl
        refine bodyPost_ret (v := .tuple #[.agg #[.int .i64 now, .slice A5 M.length cap5], .bool true]) (by simp [results, Try.results12, go_sem, r0, r1]) rfl ?_
        have hd : delT id L = M := HDE.out
        have ha : (L.any fun p => decide (p.2 = id)) = true := List.any_eq_true.2 ⟨L[k], List.getElem_mem hlt, by simpa using HE.out⟩
        unfold CanF
        rw [hd, ha]
        exact ⟨A5, cap5, rfl, hW7, HU.out.trans hU7 (fun _ _ h => h) (fun i h h2 => by omega), .inr fun ad e => by have := HA5.out ad e; have := HU.out.size; omega⟩
      · have t0 : (L[k].2 == id) = false := by simpa using he
        have HE := Lib.hid he
        clear he
        go_wp2
        go_round
        case rel => exact ⟨k + 1, by omega, by go_num, fun j hj hjk => by
          by_cases e : j = k
          · subst e; exact HE.out
          · exact HN.out j hj (by omega)⟩
        case measure => simp [intOf]; omega
    · obtain rfl : k = L.length := by omega
      go_wp2
      have hC7 := (HC.out.set 0 (.int .i64 now)).set 1 (.slice A L.length cap)
      have hU7 : Upd w ((w2.setCell ⟨w.heap.size + 1, 0, none⟩ (.int .i64 now)).setCell ⟨w.heap.size + 1, 1, none⟩ (.slice A L.length cap)) Nope := (HU.out.set _ _ (.inr (by simp))).set _ _ (.inr (by simp))
      generalize (w2.setCell ⟨w.heap.size + 1, 0, none⟩ (.int .i64 now)).setCell ⟨w.heap.size + 1, 1, none⟩ (.slice A L.length cap) = w7 at *
      have r0 : w7.cell? ⟨w.heap.size + 1, 0, none⟩ = some (.int .i64 now) := (hC7.cell 0).trans rfl
      have r1 : w7.cell? ⟨w.heap.size + 1, 1, none⟩ = some (.slice A L.length cap) := (hC7.cell 1).trans rfl
      refine bodyPost_ret (v := .tuple #[.agg #[.int .i64 now, .slice A L.length cap], .bool false]) (by simp [results, Try.results12, go_sem, r0, r1]) rfl ?_
      have hno : ∀ p ∈ L, p.2 ≠ id := fun p hp => by
        obtain ⟨j, hj, rfl⟩ := List.mem_iff_getElem.1 hp
        exact HN.out j hj hj
      have hd : delT id L = L := delT_new hno
      have ha : (L.any fun p => decide (p.2 = id)) = false := by
        rw [List.any_eq_false]
        intro p hp
        simpa using hno p hp
      unfold CanF
      rw [hd, ha]
      exact ⟨A, cap, rfl, HR.out.nn hU7, hU7, .inl rfl⟩
end Go.Proofs.Ytejelihioendnaa
