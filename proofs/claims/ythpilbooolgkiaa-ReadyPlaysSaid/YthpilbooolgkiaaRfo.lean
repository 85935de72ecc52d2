/- The reference: Order. -/
import Derived.Test.YthpilbooolgkiaaRfe
set_option linter.unusedVariables false
set_option linter.unusedSimpArgs false
namespace Go.Proofs.Ythpilbooolgkiaa
open Go.RowKit

/-- What best tells, as a piece of the row. -/
theorem bst_cut {p : En → Bool} {rk : En → Int} {L : List En} {r : Int} (h : Bst p rk L L.length r) :
    (r = -1 ∧ ∀ y ∈ L, p y = false) ∨ ∃ P x S, L = P ++ x :: S ∧ r = (P.length : Int) ∧ p x = true ∧ (∀ y ∈ P, p y = true → rk y < rk x) ∧ ∀ y ∈ S, p y = true → rk y ≤ rk x := by
  rcases h with ⟨h1, h2⟩ | ⟨m, hm, h1, h2, h3, h4, h5⟩
  · refine .inl ⟨h1, fun y hy => ?_⟩
    obtain ⟨j, hj, rfl⟩ := List.mem_iff_getElem.1 hy
    exact h2 j hj hj
  · refine .inr ⟨L.take m, L[m], L.drop (m + 1), by rw [← List.drop_eq_getElem_cons hm, List.take_append_drop], by rw [h1, List.length_take]; omega, h3, fun y hy hf => ?_, fun y hy hf => ?_⟩
    · obtain ⟨j, hj, rfl⟩ := List.mem_iff_getElem.1 hy
      rw [List.length_take] at hj
      rw [List.getElem_take] at hf ⊢
      exact h4 j (by omega) (by omega) hf
    · obtain ⟨j, hj, rfl⟩ := List.mem_iff_getElem.1 hy
      rw [List.length_drop] at hj
      rw [List.getElem_drop] at hf ⊢
      exact h5 (m + 1 + j) (by omega) (by omega) (by omega) hf
theorem owns_upd {w w' : World} {F : Nat → Prop} {B : Nat} {T : TypeId} {s n : Nat} {v : Value} {xs : List Value} (h : w.ownsRow B T s v n xs) (u : Upd w w' F) (hn : ∀ k, v.ownBlock = some k → ¬ F k) : w'.ownsRow B T s v n xs := by
  obtain ⟨h1, h2⟩ := h
  refine ⟨h1, ?_⟩
  rcases h2 with h2 | ⟨g, cap, cur, e, hb, hg, hr⟩
  · exact .inl h2
  · exact .inr ⟨g, cap, cur, e, hb, u.blk hg (hn g (by rw [e]; rfl)), hr⟩
def lenV : Value → Nat
  | .slice _ n _ => n
  | _ => 0
/-- The loop of Order. -/
structure OL (w wr : World) (B0 : Nat) (ky : En → Int) (L D M : List En) (v : Value) (A' : Option Addr) (cap' : Nat) (age limit room : Int) (B : Option Addr) (n capB : Nat) : Prop where
  own : wr.ownsRow B0 3 1 v D.length ((D.map (·.id)).map (Value.int .i64))
  blk : Blk wr w.heap.size #[.int .i64 age, .int .i64 limit, .int .i64 room, .slice A' M.length cap', .slice B n capB] 32
  row : RE wr A' cap' M
  srt : srtK ky L = D ++ srtK ky M
  upd : Upd w wr Nope
  ap : ∀ ad, A' = some ad → ad.block ≠ w.heap.size ∧ v.ownBlock ≠ some ad.block
  b0 : w.heap.size < B0 ∧ B0 ≤ wr.heap.size
theorem OL.len {w wr : World} {B0 : Nat} {ky : En → Int} {L D M : List En} {v : Value} {A' : Option Addr} {cap' : Nat} {age limit room : Int} {B : Option Addr} {n capB : Nat} (h : OL w wr B0 ky L D M v A' cap' age limit room B n capB) : D.length + M.length = L.length := by
  have := congrArg List.length h.srt
  rw [List.length_append, len_srtK, len_srtK] at this
  omega
def OrdF (w : World) (ids : List Int) (e : Ending) (w' : World) : Prop := ∃ A cap, e = .returned (.slice A ids.length cap) ∧ Rd1 (Value.int .i64) w' A ids ∧ Upd w w' Nope
set_option maxHeartbeats 2000000 in
theorem orderF_any (w : World) (age limit room : Int) (A B : Option Addr) (cap capB : Nat) (L Fl : List En) (hr : RE w A cap L) (hb : RE w B capB Fl) (hl : L.length ≤ 5000) (hfl : Fl.length ≤ 5000) (hok : ∀ e ∈ L, e.ok) (now : Int) (n0 : -2199023255552 ≤ now) (n1 : now ≤ 2199023255552) (a0 : 1 ≤ age) (a1 : age ≤ 1048576) :
    Calls Try.prog 22 #[.agg #[.int .i64 age, .int .i64 limit, .int .i64 room, .slice A L.length cap, .slice B Fl.length capB], .int .i64 now] w (OrdF w ((srtK (En.key now age) L).map (·.id))) := by
  have HR := Lib.hid hr
  have HB := Lib.hid hb
  have HOK := Lib.hid hok
  clear hr hb hok
  go_enter Try.func22, Try.ntmps22
  go_wp2
  have hB := Blk.new w #[.int .i64 age, .int .i64 limit, .int .i64 room, .slice A L.length cap, .slice B Fl.length capB] 32
  have hU : Upd w (w.alloc (.cells #[.int .i64 age, .int .i64 limit, .int .i64 room, .slice A L.length cap, .slice B Fl.length capB] 32)) Nope := (Upd.refl w _).alloc _
  generalize w.alloc (.cells #[.int .i64 age, .int .i64 limit, .int .i64 room, .slice A L.length cap, .slice B Fl.length capB] 32) = w2 at *
  have HO0 := Lib.hid (show OL w w2 w2.heap.size (En.key now age) L [] L (.slice none 0 0) A cap age limit room B Fl.length capB from
    ⟨⟨rfl, .inl ⟨rfl, rfl⟩⟩, hB, HR.out.nn hU, rfl, hU, fun ad e => ⟨by have := HR.out.lt ad e; omega, by intro h; cases h⟩, hB.lt, Nat.le_refl _⟩)
  clear hB hU
  go_loopw [5] (fun v wr => ∃ (D M : List En) (B' : Option Addr) (cb' : Nat) (A' : Option Addr) (cap' : Nat), v = .slice B' D.length cb' ∧ OL w wr w2.heap.size (En.key now age) L D M (.slice B' D.length cb') A' cap' age limit room B Fl.length capB) (fun v _ => L.length - lenV v)
  case atStart => exact ⟨[], L, none, 0, A, cap, rfl, HO0.out⟩
  case round =>
    clear HO0
    obtain ⟨D, M, B', cb', A', cap', rfl, hO⟩ := hrel
    have HO := Lib.hid hO
    have hlen := hO.len
    have HLN := Lib.hid hlen
    have x3 : wr.cell? ⟨w.heap.size, 3, none⟩ = some (.slice A' M.length cap') := (hO.blk.cell 3).trans rfl
    clear hO
    by_cases hm : 0 < M.length
    · have hmi : decide (0 < (M.length : Int)) = true := decide_eq_true (by omega)
      have x0 : wr.cell? ⟨w.heap.size, 0, none⟩ = some (.int .i64 age) := (HO.out.blk.cell 0).trans rfl
      have x1 : wr.cell? ⟨w.heap.size, 1, none⟩ = some (.int .i64 limit) := (HO.out.blk.cell 1).trans rfl
      have x2 : wr.cell? ⟨w.heap.size, 2, none⟩ = some (.int .i64 room) := (HO.out.blk.cell 2).trans rfl
      have x4 : wr.cell? ⟨w.heap.size, 4, none⟩ = some (.slice B Fl.length capB) := (HO.out.blk.cell 4).trans rfl
      have HBT := Lib.hid (bestF_any wr age limit room A' B cap' capB M Fl HO.out.row (HB.out.nn HO.out.upd) (by omega) hfl (fun e he => HOK.out e ((same_srtK (ky := En.key now age) L).mem (by rw [HO.out.srt]; exact List.mem_append_right _ ((same_srtK M).symm.mem he)))) now n0 n1 a0 a1 false)
      have hml : M.length ≤ 5000 := by omega
      clear hlen
      go_wp2_with fail
      refine HBT.out.mono ?_
      rintro e w3 ⟨r, rfl, hbst, u3⟩
      rcases bst_cut hbst with ⟨_, hno⟩ | ⟨P, x, S, hM, rfl, _, hP, hS⟩
      · exfalso
        have := hno M[0] (List.getElem_mem hm)
        simp [mayB] at this
      · have hxp : M[P.length]? = some x := by rw [hM]; simp
        have hpl : P.length < M.length := by rw [hM]; simp
        have hsr : srtK (En.key now age) M = x :: srtK (En.key now age) (M.take P.length ++ M.drop (P.length + 1)) := by
          have e1 : M.take P.length ++ M.drop (P.length + 1) = P ++ S := by rw [hM]; simp
          rw [e1, hM]
          exact srtK_mid (fun y hy => by have := hP y hy (by simp [mayB]); unfold En.key; omega) (fun y hy => by have := hS y hy (by simp [mayB]); unfold En.key; omega)
        have HSR := Lib.hid hsr
        generalize P.length = p at *
        have HU3 := Lib.hid u3
        have hrow3 := HO.out.row.nn u3
        obtain ⟨ad, rfl, y0, y1, y2, y3⟩ := hrow3.at_ hpl
        rw [show M[p] = x by rw [List.getElem?_eq_getElem hpl] at hxp; exact Option.some.inj hxp] at y0 y1 y2 y3
        have hB3 := HO.out.blk.upd u3 (fun h => h)
        have x3' : w3.cell? ⟨w.heap.size, 3, none⟩ = some (.slice (some ad) M.length cap') := (hB3.cell 3).trans rfl
        have hown3 := owns_upd HO.out.own u3 (fun _ _ h => h)
        have HAP := Lib.hid (HO.out.ap ad rfl)
        have hsz3 := u3.size
        obtain ⟨v8, w8, hap, hown8, hu8, hl8⟩ := app1 (W := w3) hown3 x.id (by have := HO.out.b0.2; omega) (by have := HLN.out; omega)
        have hB8 := hB3.upd hu8 (fun hk => by have := (own_blk hown3 hk).1; have := HO.out.b0.1; omega)
        have hrow8 := hrow3.away hu8 (fun ad' e hk => by cases e; exact HAP.out.2 hk)
        have HU8 := Lib.hid (show Upd w w8 Nope from (HO.out.upd.nn u3).trans hu8 (fun _ _ h => h) (fun i hi hk => by have := (own_blk hown3 hk).1; have := HO.out.b0.1; omega))
        have HSZ := Lib.hid (And.intro hsz3 hu8.size)
        have hll8 : ∀ k, v8.ownBlock = some k → k ≠ ad.block := fun k hk e => by
          rcases hl8 k hk with h | h
          · exact HAP.out.2 (by rw [h, e])
          · have := hrow3.lt ad rfl; omega
        have hDl : D.map (·.id) ++ [x.id] = (D ++ [x]).map (·.id) := by simp
        rw [hDl] at hown8
        obtain ⟨B8, capb8, rfl, hlen8, e6, e7, e8⟩ := rd1_of_owns hown8
        have HB8 := Lib.hid hB8
        have HRW := Lib.hid hrow8
        have HOW := Lib.hid hown8
        have HLL := Lib.hid hll8
        have HDL := Lib.hid hpl
        clear e6 e7 e8
        clear hown3 hB3 hrow3 hu8 hl8 hB8 hrow8 hown8 hlen8 hDl hll8 hM hP hS hsr hbst y1 y2 y3 x0 x1 x2 x4 x3 u3 hsz3
        go_upto_region 5 with (first | (at_builtin; refine wpList_append_eq _ _ rfl rfl hap rfl rfl rfl ?_; clear hap; go_frame) | fail)
        have x3 : w8.cell? ⟨w.heap.size, 3, none⟩ = some (.slice (some ad) M.length cap') := (HB8.out.cell 3).trans rfl
        have HWO := Lib.hid (without_any w8 (some ad) cap' M HRW.out hml p hpl)
        clear y0 x3' hxp
        generalize M.take p ++ M.drop (p + 1) = N at *
        go_wp2_with fail
        refine HWO.out.mono ?_
        rintro e w9 ⟨A9, c9, rfl, hr9, u9, hA9⟩
        have hB9 := HB8.out.upd u9 (fun h => h)
        have x3 : w9.cell? ⟨w.heap.size, 3, none⟩ = some (.slice (some ad) M.length cap') := (hB9.cell 3).trans rfl
        have yf := hB9.frozen 3
        have ho9 := owns_upd HOW.out u9 (fun _ _ h => h)
        have HB9 := Lib.hid hB9
        have HO9 := Lib.hid ho9
        have HR9 := Lib.hid hr9
        have HU9 := Lib.hid (HU8.out.nn u9)
        have hs9 := u9.size
        have HA9 := Lib.hid (show ∀ ad', A9 = some ad' → ad'.block ≠ w.heap.size ∧ (Value.slice B8 (D.length + 1) capb8).ownBlock ≠ some ad'.block from fun ad' e => by
          have h1 := hA9 ad' e
          have h2 := HSZ.out
          have h3 := HO.out.b0
          refine ⟨by omega, fun h => ?_⟩
          have := (own_blk HOW.out h).2
          omega)
        have HB0 := Lib.hid (show w2.heap.size ≤ w9.heap.size by have h2 := HSZ.out; have h3 := HO.out.b0; omega)
        clear hB9 ho9 hr9 u9 hA9 HWO hs9
        go_wp2_with fail
        have hB10 := HB9.out.set3 (.slice A9 N.length c9)
        have hu10 : Upd w9 (w9.setCell ⟨w.heap.size, 3, none⟩ (.slice A9 N.length c9)) (fun i => i = w.heap.size) := (Upd.refl w9 _).set _ _ (.inl rfl)
        have HF10 := Lib.hid (show OL w (w9.setCell ⟨w.heap.size, 3, none⟩ (.slice A9 N.length c9)) w2.heap.size (En.key now age) L (D ++ [x]) N (.slice B8 (D.length + 1) capb8) A9 c9 age limit room B Fl.length capB from
          ⟨by
            have := owns_upd HO9.out hu10 (fun k hk e => by have := (own_blk HO9.out hk).1; have := HO.out.b0.1; omega)
            rw [show (D ++ [x]).length = D.length + 1 by simp]
            exact this, hB10, HR9.out.away hu10 (fun ad' e k => (HA9.out ad' e).1 k), by
            rw [HO.out.srt, HSR.out]; simp, HU9.out.on hu10 (Nat.le_refl _), HA9.out, HO.out.b0.1, by have := HB0.out; simpa [World.setCell] using this⟩)
        clear x3 yf hB10 hu10
        generalize w9.setCell ⟨w.heap.size, 3, none⟩ (.slice A9 N.length c9) = w10 at *
        have hdl : (D ++ [x]).length = D.length + 1 := by simp
        go_roundw
        case rel => exact ⟨D ++ [x], N, B8, capb8, A9, c9, by rw [hdl], by rw [hdl]; exact HF10.out⟩
        case measure =>
          have := HLN.out
          simp [lenV]
          omega
    · have hm0 : M = [] := List.length_eq_zero_iff.1 (by omega)
      subst hm0
      have hid : (srtK (En.key now age) L).map (·.id) = D.map (·.id) := by rw [HO.out.srt]; simp [srtK]
      obtain ⟨B2, c2, e2, e6, hrd, e7⟩ := rd1_of_owns HO.out.own
      clear e6 e7
      injection e2 with e3 e4 e5
      subst e3
      have hln : (D.map (·.id)).length = D.length := List.length_map _
      have HF := Lib.hid (And.intro hid (And.intro hln hrd))
      clear hid hln hrd e4 e5 hlen hm
      have hmi : decide ((0 : Int) < ([] : List En).length) = false := rfl
      go_wp2_with fail
      go_ret
      rw [HF.out.1]
      refine ⟨B', cb', ?_, HF.out.2.2, HO.out.upd⟩
      rw [HF.out.2.1]
      rfl
end Go.Proofs.Ythpilbooolgkiaa
