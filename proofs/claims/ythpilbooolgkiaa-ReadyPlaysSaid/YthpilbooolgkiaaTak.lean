/- Take. -/
import Derived.Test.YthpilbooolgkiaaPut
set_option linter.unusedVariables false
set_option linter.unusedSimpArgs false
namespace Go.Proofs.Ythpilbooolgkiaa
open Go.RowKit

/-- May somebody go there? -/
def freeB (limit : Int) (fly : List (Int × ByteArray)) (e : En) : Bool := decide ((cntD e.dest fly : Int) < limit)
/-- Who is taken. -/
def takeR (now age limit : Int) (l : List En) (fly : List (Int × ByteArray)) : Option En := (srtK (En.key now age) l).find? (freeB limit fly)
def TakeP (w : World) (g : Nat) (F : Nat → Prop) (now age limit room : Int) (l : List En) (fly : List (Int × ByteArray)) (e : Ending) (w' : World) : Prop :=
  (takeR now age limit l fly = none → e = .returned (.tuple #[.agg #[.int .i64 0, .string (⟨#[]⟩ : ByteArray), .int .i64 0, .int .i64 0], .bool false]) ∧ Upd w w' Nope) ∧
  (∀ x, takeR now age limit l fly = some x → e = .returned (.tuple #[.agg #[.int .i64 x.id, .string x.dest, .int .i64 x.pri, .int .i64 x.at_], .bool true]) ∧ RO w' g F age limit room (remL (fun e => e.id == x.id) l) (put x.id x.dest fly) ∧ Upd w w' F)
theorem find_pos (p : En → Bool) (l : List En) : (posOf p l = -1 ∧ l.find? p = none) ∨ ∃ k : Nat, ∃ h : k < l.length, posOf p l = (k : Int) ∧ l.find? p = some l[k] := by
  rcases pos_cases p l with ⟨h1, h2⟩ | ⟨P, x, S, rfl, h1, h2, h3⟩
  · exact .inl ⟨h1, List.find?_eq_none.2 (fun e he => by simp [h2 e he])⟩
  · refine .inr ⟨P.length, by simp, h1, ?_⟩
    rw [List.find?_append, List.find?_eq_none.2 (fun e he => by simp [h3 e he])]
    simp [h2]
theorem Blk.put4 {w : World} {q : Nat} {a b c d : Value} {T : TypeId} (h : Blk w q #[a, b, c, d] T) (v0 v1 v2 v3 : Value) : Blk ((((w.setCell ⟨q, 0, none⟩ v0).setCell ⟨q, 1, none⟩ v1).setCell ⟨q, 2, none⟩ v2).setCell ⟨q, 3, none⟩ v3) q #[v0, v1, v2, v3] T := by
  have h0 := (((h.set 0 v0).set 1 v1).set 2 v2).set 3 v3
  have e : (((#[a, b, c, d].setIfInBounds 0 v0).setIfInBounds 1 v1).setIfInBounds 2 v2).setIfInBounds 3 v3 = #[v0, v1, v2, v3] := by simp
  rw [e] at h0
  exact h0
theorem Upd.put4 (w : World) (q : Nat) (v0 v1 v2 v3 : Value) : Upd w ((((w.setCell ⟨q, 0, none⟩ v0).setCell ⟨q, 1, none⟩ v1).setCell ⟨q, 2, none⟩ v2).setCell ⟨q, 3, none⟩ v3) (fun k => k = q) := by
  have h0 := (Upd.refl w (fun k => k = q)).set ⟨q, 0, none⟩ v0 (.inl rfl)
  have h1 := h0.set ⟨q, 1, none⟩ v1 (.inl rfl)
  have h2 := h1.set ⟨q, 2, none⟩ v2 (.inl rfl)
  exact h2.set ⟨q, 3, none⟩ v3 (.inl rfl)
section
variable {w : World} {b : Nat} {L : List (Int × ByteArray)} {ops : Array Oper} {tail : List Oper} {o : Oper} {a : Act} {Q : Exit → Act → World → Prop}
theorem putS (h : Mp MS w b L) (hg : o.guard = none) (m x v : Operand) (hop : o.op = Op.mapUpdate 65 m x v) (hm : a.eval m = .map (some b)) (key : Int) (c : ByteArray) (hx : a.eval x = .int .i64 key) (hv : a.eval v = .string c) (ha : okI key)
    (hK : ∀ w', Mp MS w' b (put key c L) → Upd w w' (· = b) → wpList Try.prog ops Q tail (a.put o.dst undef) w') : wpList Try.prog ops Q (o :: tail) a w :=
  wp_putM h hg m x v hop hm key c hx hv ha (fun w' h1 h2 _ => hK w' h1 h2)
end
section
variable {w : World} {g : Nat} {F : Nat → Prop} {age limit room : Int} {l : List En} {fly : List (Int × ByteArray)} (h : RO w g F age limit room l fly)
include h
theorem RO.lt {i : Nat} (hi : F i) : i < w.heap.size := by
  obtain ⟨A, cap, b, h1, h2, h3, h4, h5, h6⟩ := h.out
  rcases (h4 i).1 hi with rfl | rfl | ⟨ad, rfl, rfl⟩
  · exact h1.lt
  · exact h3.lt
  · rcases h2 with ⟨h, _⟩ | ⟨q, e, hA⟩
    · cases h
    · cases e; exact hA.lt
set_option maxHeartbeats 2000000 in
theorem RO.take_ (now : Int) (hl : l.length ≤ 1000) (hfl : fly.length ≤ 5000) (h1 : -2199023255552 ≤ now) (h2 : now ≤ 2199023255552) (h3 : 1 ≤ age) (h4 : age ≤ 1048576) :
    Calls Try.prog 15 #[.pointer (some ⟨g, 0, none⟩), .int .i64 now] w (TakeP w g F now age limit room l fly) := by
  obtain ⟨lg, lg1, lg2⟩ : g < w.heap.size ∧ g < w.heap.size + 1 ∧ g < w.heap.size + 1 + 1 := by
    obtain ⟨A, cap, b, k1, _⟩ := h.out
    have := k1.lt
    omega
  have H := Lib.hid h
  clear h
  go_enter Try.func15, Try.ntmps15
  go_upto_region 1 with (fail)
  have hP := (Blk.new w #[.pointer (some ⟨g, 0, none⟩)] 25).alloc (.cells #[.int .i64 0, .string (⟨#[]⟩ : ByteArray), .int .i64 0, .int .i64 0] 34)
  have hR := Blk.new (w.alloc (.cells #[.pointer (some ⟨g, 0, none⟩)] 25)) #[.int .i64 0, .string (⟨#[]⟩ : ByteArray), .int .i64 0, .int .i64 0] 34
  have hU : Upd w ((w.alloc (.cells #[.pointer (some ⟨g, 0, none⟩)] 25)).alloc (.cells #[.int .i64 0, .string (⟨#[]⟩ : ByteArray), .int .i64 0, .int .i64 0] 34)) Nope := ((Upd.refl w _).alloc _).alloc _
  have hz : (w.alloc (.cells #[.pointer (some ⟨g, 0, none⟩)] 25)).heap.size = w.heap.size + 1 := by simp
  rw [hz] at hR
  clear hz
  generalize (w.alloc (.cells #[.pointer (some ⟨g, 0, none⟩)] 25)).alloc (.cells #[.int .i64 0, .string (⟨#[]⟩ : ByteArray), .int .i64 0, .int .i64 0] 34) = w2 at *
  have p0 : w2.cell? ⟨w.heap.size, 0, none⟩ = some (.pointer (some ⟨g, 0, none⟩)) := (hP.cell 0).trans rfl
  have HS := Lib.hid ((H.out.nn hU).sorted_ now hl h1 h2 h3 h4)
  have HP := Lib.hid hP
  have HR := Lib.hid hR
  have HU := Lib.hid hU
  clear hP hR hU h1 h2 h3 h4
  go_wp2_with fail
  refine HS.out.mono ?_
  rintro e w3 ⟨A', cap', rfl, hsl, u3, hf3⟩
  have HU3 := Lib.hid (HU.out.nn u3)
  have hp3 := HP.out.upd u3 (fun h => h)
  have hr3 := HR.out.upd u3 (fun h => h)
  have HP3 := Lib.hid hp3
  have HR3 := Lib.hid hr3
  have hln := len_srtK (ky := En.key now age) l
  have htk : takeR now age limit l fly = (srtK (En.key now age) l).find? (freeB limit fly) := rfl
  generalize hme : srtK (En.key now age) l = m at *
  have hml : m.length = l.length := hln
  obtain ⟨A, cap, b, k1, k2, k3, k4, k5, k6⟩ := (H.out.nn HU3.out).out
  have HIX := Lib.hid (index_free w3 A' cap' m hsl (by omega) w.heap.size g b limit fly ⟨(hp3.cell 0).trans rfl, (k1.cell 1).trans rfl, (k1.cell 4).trans rfl, k3⟩ hfl)
  have HTK := Lib.hid htk
  have HSL := Lib.hid hsl
  have HF3 := Lib.hid (show ∀ ad, A' = some ad → w.heap.size + 2 ≤ ad.block from fun ad e => by have := hf3 ad e; have := HR.out.lt; omega)
  rw [← hml]
  rw [← hml] at hl
  have HME := Lib.hid hme
  have HML := Lib.hid hml
  clear hme hml
  clear hp3 hr3 u3 hsl hf3 htk k1 k2 k3 k4 k5 k6 p0 hln hfl HS
  change Hid (Calls Try.prog 32 #[.slice A' m.length cap', .func (.func 33) #[] #[.pointer (some ⟨w.heap.size, 0, none⟩)]] w3 fun r w' => r = .returned (.int .i64 (posOf (freeB limit fly) m)) ∧ Upd w3 w' Nope) at HIX
  rcases find_pos (freeB limit fly) m with ⟨hp, hfd⟩ | ⟨k, hk, hp, hfd⟩
  · rw [hp] at HIX
    have HT := Lib.hid (HTK.out.trans hfd)
    clear hp hfd
    go_wp2_with fail
    refine HIX.out.mono ?_
    rintro e w4 ⟨rfl, u4⟩
    have hr4 := HR3.out.upd u4 (fun h => h)
    have r0 : w4.cell? ⟨w.heap.size + 1, 0, none⟩ = some (.int .i64 0) := (hr4.cell 0).trans rfl
    have r1 : w4.cell? ⟨w.heap.size + 1, 1, none⟩ = some (.string (⟨#[]⟩ : ByteArray)) := (hr4.cell 1).trans rfl
    have r2 : w4.cell? ⟨w.heap.size + 1, 2, none⟩ = some (.int .i64 0) := (hr4.cell 2).trans rfl
    have r3 : w4.cell? ⟨w.heap.size + 1, 3, none⟩ = some (.int .i64 0) := (hr4.cell 3).trans rfl
    have rf0 := hr4.frozen 0
    have rf1 := hr4.frozen 1
    have rf2 := hr4.frozen 2
    have rf3 := hr4.frozen 3
    have HR4 := Lib.hid hr4
    have HU4 := Lib.hid (HU3.out.nn u4)
    clear hr4 u4 HIX
    go_wp2_with fail
    have hb5 := HR4.out.put4 (.int .i64 0) (.string ⟨#[]⟩) (.int .i64 0) (.int .i64 0)
    have hu5 := HU4.out.on (g := w.heap.size + 1) (Upd.put4 w4 (w.heap.size + 1) (.int .i64 0) (.string ⟨#[]⟩) (.int .i64 0) (.int .i64 0)) (by omega)
    clear r0 r1 r2 r3 rf0 rf1 rf2 rf3
    generalize (((w4.setCell ⟨w.heap.size + 1, 0, none⟩ (.int .i64 0)).setCell ⟨w.heap.size + 1, 1, none⟩ (.string ⟨#[]⟩)).setCell ⟨w.heap.size + 1, 2, none⟩ (.int .i64 0)).setCell ⟨w.heap.size + 1, 3, none⟩ (.int .i64 0) = w5 at *
    have r0 : w5.cell? ⟨w.heap.size + 1, 0, none⟩ = some (.int .i64 0) := (hb5.cell 0).trans rfl
    have r1 : w5.cell? ⟨w.heap.size + 1, 1, none⟩ = some (.string ⟨#[]⟩) := (hb5.cell 1).trans rfl
    have r2 : w5.cell? ⟨w.heap.size + 1, 2, none⟩ = some (.int .i64 0) := (hb5.cell 2).trans rfl
    have r3 : w5.cell? ⟨w.heap.size + 1, 3, none⟩ = some (.int .i64 0) := (hb5.cell 3).trans rfl
    refine bodyPost_ret (v := .tuple #[.agg #[.int .i64 0, .string ⟨#[]⟩, .int .i64 0, .int .i64 0], .bool false]) (by simp [results, Try.results15, go_sem, r0, r1, r2, r3]) rfl ?_
    exact ⟨fun _ => ⟨rfl, hu5⟩, fun x hx => by rw [HT.out] at hx; cases hx⟩
  · rw [hp] at HIX
    have HT := Lib.hid (HTK.out.trans hfd)
    clear hp hfd
    obtain ⟨q, rfl, hA⟩ : ∃ q, A' = some ⟨q, 0, none⟩ ∧ Arr w3 q cap' m := by
      rcases HSL.out with ⟨rfl, rfl, rfl⟩ | h
      · simp at hk
      · exact h
    have hq : w.heap.size + 2 ≤ q := HF3.out _ rfl
    obtain ⟨x, hx⟩ : ∃ x, m[k]? = some x := ⟨m[k], List.getElem?_eq_getElem hk⟩
    rw [show m[k] = x by rw [List.getElem?_eq_getElem hk] at hx; exact Option.some.inj hx] at HT
    have hxl : x ∈ l := by
      have h1 : x ∈ srtK (En.key now age) l := by rw [HME.out]; exact List.mem_of_getElem? hx
      exact (same_srtK l).mem h1
    have hxo := H.out.ok x hxl
    have hxi : okI x.id := okI_of (by have := hxo.i0; omega) hxo.i1
    clear hxl hxo
    go_wp2_with fail
    refine HIX.out.mono ?_
    rintro e w4 ⟨rfl, u4⟩
    have HU4 := Lib.hid (HU3.out.nn u4)
    have HP4 := Lib.hid (HP3.out.upd u4 (fun h => h))
    have HR4 := Lib.hid (HR3.out.upd u4 (fun h => h))
    have HA4 := Lib.hid (hA.upd u4 (fun h => h))
    have HQ := Lib.hid hq
    clear u4 HIX hA hq
    have hk2 : decide ((k : Int) < 0) = false := decide_eq_false (by omega)
    go_upto_region 5 with (fail)
    have y0 : ∀ z : UW w4, z.val.cell? ⟨w.heap.size, 0, none⟩ = some (.pointer (some ⟨g, 0, none⟩)) := fun z => z.cell ((HP4.out.cell 0).trans rfl)
    have y1 := (HA4.out.uw hx).1
    have hu5 : Upd w4 w4.drew Nope := (Upd.refl w4 _).drew
    have HRM := Lib.hid ((H.out.nn (HU4.out.nn hu5)).remove_ x.id (by rw [← HML.out]; omega))
    refine region_seqF [] [0, 1, 2, 3, 4, 5] 6 [0, 5, 4, 3, 1, 2] _ (by kernel_rfl) (fun w' => ∃ z : UW w4, w' = z.val) rfl (by kernel_rfl) (fun _ _ d _ _ h => by cases d <;> exact h) ⟨⟨w4.drew, hu5⟩, rfl⟩ ?_
    have HU5 := Lib.hid (HU4.out.nn hu5)
    have HP5 := Lib.hid (HP4.out.upd hu5 (fun h => h))
    have HR5 := Lib.hid (HR4.out.upd hu5 (fun h => h))
    have HA5 := Lib.hid (HA4.out.upd hu5 (fun h => h))
    clear hu5 HU4 HP4 HR4 HA4
    simp only [segsAt_cons, segsAt_nil, opsAt_cons, opsAt_nil, List.getElem?_toArray, List.getElem?_cons_zero, List.getElem?_cons_succ, consO_some, pairO_some]
    refine wpSF_fin ?_
    repeat (first | go_big_quiet_skip | (go_big_quiet_want; go_big_quiet_op; go_big_quiet_on))
    refine wpQuiet_nil ?_
    clear y0 y1
    generalize w4.drew = w5 at *
    go_wp2_with fail
    refine HRM.out.mono ?_
    rintro e w6 ⟨rfl, hro6, u6⟩
    have hF5 : ∀ i, F i → i < w.heap.size := fun i hi => H.out.lt hi
    have HRO6 := Lib.hid hro6
    have HU6 := Lib.hid ((HU5.out.mono (fun _ _ h => h.elim)).then_ u6)
    have HP6 := Lib.hid (HP5.out.upd u6 (fun h => by have := hF5 _ h; omega))
    have HR6 := Lib.hid (HR5.out.upd u6 (fun h => by have := hF5 _ h; omega))
    have HA6 := Lib.hid (HA5.out.upd u6 (fun h => by have := hF5 _ h; have := HQ.out; omega))
    clear hro6 u6 HRM hF5
    go_upto_region 6 with (fail)
    have hu7 : Upd w6 w6.drew Nope := (Upd.refl w6 _).drew
    have HRO7 := Lib.hid (HRO6.out.nn hu7)
    have HU7 := Lib.hid (HU6.out.then_ (hu7.mono (fun _ _ h => h.elim)))
    have HP7 := Lib.hid (HP6.out.upd hu7 (fun h => h))
    have HR7 := Lib.hid (HR6.out.upd hu7 (fun h => h))
    have HA7 := Lib.hid (HA6.out.upd hu7 (fun h => h))
    obtain ⟨A7, cap7, b7, j1, j2, j3, j4, j5, j6⟩ := HRO7.out.out
    have y0 : ∀ z : UW w6.drew, z.val.cell? ⟨w.heap.size, 0, none⟩ = some (.pointer (some ⟨g, 0, none⟩)) := fun z => z.cell ((HP7.out.cell 0).trans rfl)
    obtain ⟨y1, y2, y3, y4⟩ := HA7.out.uw hx
    have y5 : ∀ z : UW w6.drew, z.val.cell? ⟨g, 4, none⟩ = some (.map (some b7)) := fun z => z.cell ((j1.cell 4).trans rfl)
    refine region_seqF [] [0, 1, 2, 3, 4, 5, 6, 7, 8, 9, 10, 11, 12, 13] 14 [3, 8, 13, 2, 1, 0, 7, 6, 4, 5, 12, 11, 9, 10] _ (by kernel_rfl) (fun w' => ∃ z : UW w6.drew, w' = z.val) rfl (by kernel_rfl) (fun _ _ d _ _ h => by cases d <;> exact h) ⟨⟨w6.drew, Upd.refl _ _⟩, rfl⟩ ?_
    have HJ := Lib.hid (And.intro j1 (And.intro j2 (And.intro j4 (And.intro j5 j6))))
    clear hu7 HU6 HP6 HR6 HA6 HRO6 j1 j2 j4 j5 j6
    simp only [segsAt_cons, segsAt_nil, opsAt_cons, opsAt_nil, List.getElem?_toArray, List.getElem?_cons_zero, List.getElem?_cons_succ, consO_some, pairO_some]
    refine wpSF_fin ?_
    repeat (first | go_big_quiet_skip | (go_big_quiet_want; go_big_quiet_op; go_big_quiet_on))
    refine wpQuiet_nil ?_
    clear y0 y1 y2 y3 y4 y5
    generalize w6.drew = w7 at *
    go_upto_region 7 with (first | (refine putS j3 rfl _ _ _ rfl rfl x.id x.dest rfl rfl hxi ?_; intro w8 hm8 hu8; clear j3) | fail)
    obtain ⟨j1, j2, j4, j5, j6⟩ := HJ.out
    have hFb : F b7 := (j4 b7).2 (.inr (.inl rfl))
    have hbl : b7 < w.heap.size := H.out.lt hFb
    have HRO8 := Lib.hid (show RO w8 g F age limit room (remL (fun e => e.id == x.id) l) (put x.id x.dest fly) from
      ⟨⟨A7, cap7, b7, j1.upd hu8 (fun e => j5 e.symm), j2.upd hu8 (fun ad e => (j6 ad e).2), hm8, j4, j5, j6⟩, HRO7.out.ok⟩)
    have HU8 := Lib.hid (HU7.out.then_ (hu8.mono (fun i _ (e : i = b7) => e ▸ hFb)))
    have HR8 := Lib.hid (HR7.out.upd hu8 (fun e => by omega))
    have HA8 := Lib.hid (HA7.out.upd hu8 (fun e => by have := HQ.out; omega))
    obtain ⟨x0, x1, x2, x3⟩ := HA8.out.now hx
    have r0 : w8.cell? ⟨w.heap.size + 1, 0, none⟩ = some (.int .i64 0) := (HR8.out.cell 0).trans rfl
    have r1 : w8.cell? ⟨w.heap.size + 1, 1, none⟩ = some (.string ⟨#[]⟩) := (HR8.out.cell 1).trans rfl
    have r2 : w8.cell? ⟨w.heap.size + 1, 2, none⟩ = some (.int .i64 0) := (HR8.out.cell 2).trans rfl
    have r3 : w8.cell? ⟨w.heap.size + 1, 3, none⟩ = some (.int .i64 0) := (HR8.out.cell 3).trans rfl
    have rf0 := HR8.out.frozen 0
    have rf1 := HR8.out.frozen 1
    have rf2 := HR8.out.frozen 2
    have rf3 := HR8.out.frozen 3
    clear j1 j2 j4 j5 j6 hFb hbl hm8 hu8
    go_wp2_with fail
    have hb9 := HR8.out.put4 (.int .i64 x.id) (.string x.dest) (.int .i64 x.pri) (.int .i64 x.at_)
    have hu9 := Upd.put4 w8 (w.heap.size + 1) (.int .i64 x.id) (.string x.dest) (.int .i64 x.pri) (.int .i64 x.at_)
    clear r0 r1 r2 r3 rf0 rf1 rf2 rf3 x0 x1 x2 x3
    generalize (((w8.setCell ⟨w.heap.size + 1, 0, none⟩ (.int .i64 x.id)).setCell ⟨w.heap.size + 1, 1, none⟩ (.string x.dest)).setCell ⟨w.heap.size + 1, 2, none⟩ (.int .i64 x.pri)).setCell ⟨w.heap.size + 1, 3, none⟩ (.int .i64 x.at_) = w9 at *
    have r0 : w9.cell? ⟨w.heap.size + 1, 0, none⟩ = some (.int .i64 x.id) := (hb9.cell 0).trans rfl
    have r1 : w9.cell? ⟨w.heap.size + 1, 1, none⟩ = some (.string x.dest) := (hb9.cell 1).trans rfl
    have r2 : w9.cell? ⟨w.heap.size + 1, 2, none⟩ = some (.int .i64 x.pri) := (hb9.cell 2).trans rfl
    have r3 : w9.cell? ⟨w.heap.size + 1, 3, none⟩ = some (.int .i64 x.at_) := (hb9.cell 3).trans rfl
    refine bodyPost_ret (v := .tuple #[.agg #[.int .i64 x.id, .string x.dest, .int .i64 x.pri, .int .i64 x.at_], .bool true]) (by simp [results, Try.results15, go_sem, r0, r1, r2, r3]) rfl ?_
    refine ⟨fun h => (by rw [HT.out] at h; cases h), fun y hy => ?_⟩
    rw [HT.out] at hy
    cases hy
    exact ⟨rfl, HRO8.out.apart hu9 (fun i hi e => by have := H.out.lt hi; omega), HU8.out.trans hu9 (fun _ _ h => h) (fun i hi e => by omega)⟩
end
end Go.Proofs.Ythpilbooolgkiaa
