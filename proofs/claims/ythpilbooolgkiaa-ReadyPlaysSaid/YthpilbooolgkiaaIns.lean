/- Insertion sort. -/
import Derived.Test.YthpilbooolgkiaaCmp
set_option linter.unusedVariables false
set_option linter.unusedSimpArgs false
namespace Go.Proofs.Ythpilbooolgkiaa
open Go.RowKit

/-- A row of entries at block q, that may be written. -/
def Arr (w : World) (q cap : Nat) (arr : List En) : Prop := ∃ cs : Array Value, w.heap[q]? = some (.cells cs 34 (0, 0)) ∧ arr.length ≤ cap ∧ cap ≤ maxLen ∧ cs.size = cap * 4 ∧ cs.toList.take (arr.length * 4) = arr.flatMap En.vals
theorem vals_len (e : En) : e.vals.length = 4 := rfl
section
variable {w w' : World} {q cap : Nat} {arr : List En}
theorem Arr.upd {F : Nat → Prop} (h : Arr w q cap arr) (u : Upd w w' F) (hF : ¬ F q) : Arr w' q cap arr := by
  obtain ⟨cs, h1, h2⟩ := h
  exact ⟨cs, u.blk h1 hF, h2⟩
theorem Arr.lt (h : Arr w q cap arr) : q < w.heap.size := by
  obtain ⟨cs, h1, _⟩ := h
  exact (Array.getElem?_eq_some_iff.1 h1).1
theorem Arr.le (h : Arr w q cap arr) : arr.length ≤ cap ∧ cap ≤ maxLen := by
  obtain ⟨cs, _, h2, h3, _⟩ := h
  exact ⟨h2, h3⟩
theorem Arr.frozen (h : Arr w q cap arr) (i : Nat) : w.frozen? ⟨q, i, none⟩ = false := by
  obtain ⟨cs, h1, _⟩ := h
  simp [World.frozen?, h1]
theorem Arr.cell_ (h : Arr w q cap arr) {i j : Nat} (hi : i < arr.length) (hj : j < 4) : w.cell? ⟨q, i * 4 + j, none⟩ = (arr[i].vals)[j]? := by
  obtain ⟨cs, h1, h2, h3, h4, h5⟩ := h
  rw [cell_of_row w q (i * 4 + j) cs 34 (0, 0) h1]
  have hb : i * 4 + j < arr.length * 4 := by omega
  have e : (cs.toList.take (arr.length * 4))[i * 4 + j]? = (arr[i].vals)[j]? := by rw [h5, flat_get vals_len arr i hi j hj]
  rw [List.getElem?_take_of_lt hb] at e
  rw [← e]
  simp
theorem Arr.set_ (h : Arr w q cap arr) {i j : Nat} (hi : i < arr.length) (hj : j < 4) {u : Value} {e : En} (hu : (e.vals)[j]? = some u) (hs : ∀ k, k < 4 → k ≠ j → (arr[i].vals)[k]? = (e.vals)[k]?) : Arr (w.setCell ⟨q, i * 4 + j, none⟩ u) q cap (arr.set i e) := by
  obtain ⟨cs, h1, h2, h3, h4, h5⟩ := h
  refine ⟨cs.setIfInBounds (i * 4 + j) u, by simp [World.setCell, Array.getElem?_modify, h1], by simpa using h2, h3, by simpa using h4, ?_⟩
  rw [List.length_set]
  refine List.ext_getElem? fun n => ?_
  by_cases hn : n < arr.length * 4
  · rw [List.getElem?_take_of_lt hn]
    have hi' : n / 4 < arr.length := by omega
    have hm : n % 4 < 4 := Nat.mod_lt _ (by decide)
    have en : n / 4 * 4 + n % 4 = n := by omega
    have e1 : ((arr.set i e).flatMap En.vals)[n]? = ((arr.set i e)[n / 4]'(by simpa using hi')).vals[n % 4]? := by
      conv => lhs; rw [← en]
      exact flat_get vals_len _ (n / 4) (by simpa using hi') (n % 4) hm
    have e2 : (cs.toList.take (arr.length * 4))[n]? = (arr[n / 4].vals)[n % 4]? := by
      rw [h5]
      conv => lhs; rw [← en]
      exact flat_get vals_len _ (n / 4) hi' (n % 4) hm
    rw [List.getElem?_take_of_lt hn] at e2
    rw [e1, List.getElem_set]
    simp only [Array.toList_setIfInBounds]
    by_cases hni : i = n / 4
    · subst hni
      rw [if_pos rfl]
      by_cases hnj : n % 4 = j
      · have : n / 4 * 4 + j = n := by omega
        rw [this, hnj, hu, List.getElem?_set_self (by simp; omega)]
      · rw [List.getElem?_set_ne (by omega), e2]
        exact hs _ hm hnj
    · rw [if_neg hni, List.getElem?_set_ne (by omega), e2]
  · rw [List.getElem?_eq_none (by simp; omega), List.getElem?_eq_none (by rw [flat_len vals_len]; simp; omega)]
/-- An entry is stored. -/
theorem Arr.put (h : Arr w q cap arr) {i : Nat} (hi : i < arr.length) (e : En) :
    Arr ((((w.setCell ⟨q, i * 4, none⟩ (.int .i64 e.id)).setCell ⟨q, i * 4 + 1, none⟩ (.string e.dest)).setCell ⟨q, i * 4 + 2, none⟩ (.int .i64 e.pri)).setCell ⟨q, i * 4 + 3, none⟩ (.int .i64 e.at_)) q cap (arr.set i e) := by
  have h0 := h.set_ (i := i) (j := 0) hi (by decide) (u := .int .i64 e.id) (e := ⟨e.id, arr[i].dest, arr[i].pri, arr[i].at_⟩) rfl (fun k hk hn => by match k, hk, hn with | 1, _, _ => rfl | 2, _, _ => rfl | 3, _, _ => rfl | 0, _, hn => exact absurd rfl hn)
  have h1 := h0.set_ (i := i) (j := 1) (by simpa using hi) (by decide) (u := .string e.dest) (e := ⟨e.id, e.dest, arr[i].pri, arr[i].at_⟩) rfl (fun k hk hn => by rw [List.getElem_set_self]; match k, hk, hn with | 0, _, _ => rfl | 2, _, _ => rfl | 3, _, _ => rfl | 1, _, hn => exact absurd rfl hn)
  have h2 := h1.set_ (i := i) (j := 2) (by simpa using hi) (by decide) (u := .int .i64 e.pri) (e := ⟨e.id, e.dest, e.pri, arr[i].at_⟩) rfl (fun k hk hn => by rw [List.getElem_set_self]; match k, hk, hn with | 0, _, _ => rfl | 1, _, _ => rfl | 3, _, _ => rfl | 2, _, hn => exact absurd rfl hn)
  have h3 := h2.set_ (i := i) (j := 3) (by simpa using hi) (by decide) (u := .int .i64 e.at_) (e := e) rfl (fun k hk hn => by rw [List.getElem_set_self]; match k, hk, hn with | 0, _, _ => rfl | 1, _, _ => rfl | 2, _, _ => rfl | 3, _, hn => exact absurd rfl hn)
  simpa using h3
end
def askF (pN pR : Nat) : Value := .func (.func 39) #[] #[.pointer (some ⟨pN, 0, none⟩), .pointer (some ⟨pR, 0, none⟩)]
def En.key (now age : Int) (e : En) : Int := -(e.rank now age)
theorem ask_lt {now age : Int} {x y : En} (h : x.key now age < y.key now age) : decide (cmp3 (y.rank now age) (x.rank now age) < 0) = true := by
  unfold En.key at h
  unfold cmp3
  rw [if_pos (by omega)]
  rfl
theorem ask_ge {now age : Int} {x y : En} (h : ¬ x.key now age < y.key now age) : decide (cmp3 (y.rank now age) (x.rank now age) < 0) = false := by
  unfold En.key at h
  unfold cmp3
  rw [if_neg (by omega)]
  split <;> rfl
theorem at_mid {α : Type} (A : List α) (x : α) (B : List α) : (A ++ x :: B)[A.length]? = some x := by simp
/-- The cells of an entry, in all worlds that grew. -/
theorem Arr.uw {w : World} {q cap : Nat} {arr : List En} (h : Arr w q cap arr) {i : Nat} {e : En} (he : arr[i]? = some e) :
    (∀ x : UW w, x.val.cell? ⟨q, i * 4, none⟩ = some (.int .i64 e.id)) ∧ (∀ x : UW w, x.val.cell? ⟨q, i * 4 + 1, none⟩ = some (.string e.dest)) ∧ (∀ x : UW w, x.val.cell? ⟨q, i * 4 + 2, none⟩ = some (.int .i64 e.pri)) ∧ ∀ x : UW w, x.val.cell? ⟨q, i * 4 + 3, none⟩ = some (.int .i64 e.at_) := by
  obtain ⟨hi, rfl⟩ := List.getElem?_eq_some_iff.1 he
  exact ⟨fun x => x.cell ((h.cell_ hi (j := 0) (by decide)).trans rfl), fun x => x.cell ((h.cell_ hi (j := 1) (by decide)).trans rfl), fun x => x.cell ((h.cell_ hi (j := 2) (by decide)).trans rfl), fun x => x.cell ((h.cell_ hi (j := 3) (by decide)).trans rfl)⟩
theorem ins_end {ky : En → Int} {X1 X2 T : List En} {x : En} (hs : Sd ky (X1 ++ X2)) (hgt : ∀ y ∈ X2, ky x < ky y) (hle : ∀ y ∈ X1, ky y ≤ ky x) (hm : SameBy ky (X1 ++ X2) T) : X1 ++ x :: X2 = srtK ky (T ++ [x]) := by
  obtain ⟨s1, s2, s3⟩ := sd_append.1 hs
  refine srtK_of ?_ ?_
  · refine sd_append.2 ⟨s1, List.pairwise_cons.2 ⟨fun y hy => by have := hgt y hy; omega, s2⟩, fun a ha b hb => ?_⟩
    rcases List.mem_cons.1 hb with rfl | hb
    · exact hle a ha
    · exact s3 a ha b hb
  · refine SameBy.trans (m := (X1 ++ X2) ++ [x]) ?_ (hm.append (SameBy.refl _))
    rw [List.append_assoc]
    exact (SameBy.refl X1).append (SameBy.comm (X := [x]) (Y := X2) (fun a ha b hb => by
      have : a = x := by simpa using ha
      have := hgt b hb
      subst a
      omega))
/-- A world in which two neighbours lie in a row, as they lie. -/
structure UE (q m : Nat) (x y : En) where mk ::
  val : World
  x0 : val.cell? ⟨q, (m + 1) * 4, none⟩ = some (.int .i64 x.id)
  x1 : val.cell? ⟨q, (m + 1) * 4 + 1, none⟩ = some (.string x.dest)
  x2 : val.cell? ⟨q, (m + 1) * 4 + 2, none⟩ = some (.int .i64 x.pri)
  x3 : val.cell? ⟨q, (m + 1) * 4 + 3, none⟩ = some (.int .i64 x.at_)
  y0 : val.cell? ⟨q, m * 4, none⟩ = some (.int .i64 y.id)
  y1 : val.cell? ⟨q, m * 4 + 1, none⟩ = some (.string y.dest)
  y2 : val.cell? ⟨q, m * 4 + 2, none⟩ = some (.int .i64 y.pri)
  y3 : val.cell? ⟨q, m * 4 + 3, none⟩ = some (.int .i64 y.at_)
def UE.of {w : World} {q cap m : Nat} {arr : List En} {x y : En} (h : Arr w q cap arr) (hx : arr[m + 1]? = some x) (hy : arr[m]? = some y) : UE q m x y :=
  have a := h.uw hx
  have b := h.uw hy
  have z : UW w := ⟨w, Upd.refl _ _⟩
  ⟨w, a.1 ⟨w, Upd.refl _ _⟩, a.2.1 ⟨w, Upd.refl _ _⟩, a.2.2.1 ⟨w, Upd.refl _ _⟩, a.2.2.2 ⟨w, Upd.refl _ _⟩, b.1 ⟨w, Upd.refl _ _⟩, b.2.1 ⟨w, Upd.refl _ _⟩, b.2.2.1 ⟨w, Upd.refl _ _⟩, b.2.2.2 ⟨w, Upd.refl _ _⟩⟩
theorem Arr.now {w : World} {q cap : Nat} {arr : List En} (h : Arr w q cap arr) {i : Nat} {e : En} (he : arr[i]? = some e) :
    w.cell? ⟨q, i * 4, none⟩ = some (.int .i64 e.id) ∧ w.cell? ⟨q, i * 4 + 1, none⟩ = some (.string e.dest) ∧ w.cell? ⟨q, i * 4 + 2, none⟩ = some (.int .i64 e.pri) ∧ w.cell? ⟨q, i * 4 + 3, none⟩ = some (.int .i64 e.at_) :=
  have a := h.uw he
  ⟨a.1 ⟨w, Upd.refl _ _⟩, a.2.1 ⟨w, Upd.refl _ _⟩, a.2.2.1 ⟨w, Upd.refl _ _⟩, a.2.2.2 ⟨w, Upd.refl _ _⟩⟩
theorem set_mid {α : Type} (A : List α) (x y : α) (B : List α) : (A ++ x :: B).set A.length y = A ++ y :: B := by simp
theorem swp1 {α : Type} {P Y R : List α} {x y : α} {m : Nat} (hm : m = P.length + Y.length) : (P ++ (Y ++ [y]) ++ x :: R).set (m + 1) y = P ++ Y ++ y :: y :: R := by
  have e : P ++ (Y ++ [y]) ++ x :: R = (P ++ Y ++ [y]) ++ x :: R := by simp
  have hl : (P ++ Y ++ [y]).length = m + 1 := by simp; omega
  rw [e, ← hl, set_mid]
  simp
theorem swp2 {α : Type} {P Y R : List α} {x y : α} {m : Nat} (hm : m = P.length + Y.length) : (P ++ Y ++ y :: y :: R).set m x = P ++ Y ++ x :: (y :: R) := by
  have hl : (P ++ Y).length = m := by simp; omega
  rw [← hl, set_mid]
set_option maxHeartbeats 4000000 in
theorem insort_any (w : World) (q cap : Nat) (arr P G S : List En) (hA : Arr w q cap arr) (he : arr = P ++ G ++ S) (hok : ∀ e ∈ arr, e.ok) (pN pR g : Nat) (now age : Int) (hc : Cap w pN pR g now age) (hq : pN ≠ q ∧ pR ≠ q ∧ g ≠ q) (h1 : -2199023255552 ≤ now) (h2 : now ≤ 2199023255552) (h3 : 1 ≤ age) (h4 : age ≤ 1048576) (hl : arr.length ≤ 1000) (a b n : Nat) (ha : a = P.length) (hb : b = P.length + G.length) (hn : n = arr.length) :
    Calls Try.prog 43 #[.slice (some ⟨q, 0, none⟩) n cap, .int .i64 a, .int .i64 b, askF pN pR] w
      fun e w' => e = .returned (.tuple #[]) ∧ Arr w' q cap (P ++ srtK (En.key now age) G ++ S) ∧ Upd w w' (fun i => i = q) := by
  have hlen : P.length + G.length + S.length = n := by rw [hn, he]; simp; omega
  have hn1 : n ≤ 1000 := by omega
  have hab : a ≤ b := by omega
  have hbn : b ≤ n := by omega
  have h0 : Arr w q cap (P ++ srtK (En.key now age) (G.take 1) ++ (G.drop 1 ++ S)) := by
    have e : srtK (En.key now age) (G.take 1) = G.take 1 := by
      cases G with
      | nil => rfl
      | cons x G => rfl
    rw [e, List.append_assoc, ← List.append_assoc (G.take 1), List.take_append_drop, ← List.append_assoc, ← he]
    exact hA
  have HA := Lib.hid h0
  have HOK := Lib.hid (fun e (h : e ∈ G) => hok e (by rw [he]; simp [h]))
  have HASK := Lib.hid (fun (W : World) (hc' : Cap W pN pR g now age) (x y : En) (hx : x.ok) (hy : y.ok) => ask_any W pN pR g now age hc' x y hx hy h1 h2 h3 h4)
  have HC := Lib.hid hc
  have HQ := Lib.hid hq
  have HE := Lib.hid (And.intro ha (And.intro hb hlen))
  clear hA he hok hc hq h1 h2 h3 h4 hl ha hb hn hlen h0
  have HLT := Lib.hid (fun (x y : En) (h : En.key now age x < En.key now age y) => ask_lt h)
  have HGE := Lib.hid (fun (x y : En) (h : ¬ En.key now age x < En.key now age y) => ask_ge h)
  generalize En.key now age = ky at *
  unfold askF
  go_enter Try.func43, Try.ntmps43
  go_wp2
  go_loopw [8] (fun i wr => ∃ t : Nat, (i = .int .i64 ((a + 1 + t : Nat) : Int)) ∧ t ≤ n ∧ Arr wr q cap (P ++ srtK ky (G.take (t + 1)) ++ (G.drop (t + 1) ++ S)) ∧ Upd w wr (fun i => i = q)) (fun i _ => b - (intOf i).toNat)
  case atStart => exact ⟨0, by go_num, by omega, HA.out, Upd.refl _ _⟩
  case round =>
    obtain ⟨t, rfl, ht, hA, hU⟩ := hrel
    by_cases hlt : a + 1 + t < b
    · have htl : t + 1 < G.length := by have := HE.out; omega
      have hX : (srtK ky (G.take (t + 1))).length = t + 1 := by rw [len_srtK, List.length_take]; omega
      have hdr : G.drop (t + 1) = G[t + 1] :: G.drop (t + 1 + 1) := List.drop_eq_getElem_cons htl
      have hxk : (G[t + 1]).ok := HOK.out _ (List.getElem_mem htl)
      have htk : G.take (t + 1 + 1) = G.take (t + 1) ++ [G[t + 1]] := List.take_succ_eq_append_getElem htl
      have hXok : ∀ y ∈ srtK ky (G.take (t + 1)), y.ok := fun y hy => HOK.out y (List.mem_of_mem_take ((same_srtK _).mem hy))
      have hXs := sd_srtK (ky := ky) (G.take (t + 1))
      have hXm := same_srtK (ky := ky) (G.take (t + 1))
      rw [hdr] at hA
      generalize G[t + 1] = x at *
      generalize srtK ky (G.take (t + 1)) = X at *
      have HX := Lib.hid (And.intro hX (And.intro hxk (And.intro hXok (And.intro hXs (And.intro hXm htk)))))
      have hi1 : (a + 1 + t = P.length + X.length) := by have := HE.out; omega
      have HI := Lib.hid (And.intro hi1 (And.intro hlt htl))
      obtain ⟨i, hie⟩ : ∃ i, i = a + 1 + t := ⟨_, rfl⟩
      have hin : i < n := by have := HE.out; omega
      have hia : a ≤ i := by omega
      have hib : i < b := by omega
      have HA1 := Lib.hid hA
      have HU1 := Lib.hid hU
      have HIE := Lib.hid hie
      rw [← hie]
      clear hX hdr hxk htk hXok hXs hXm hA hU hi1 hie htl hlt
      go_wp2
      go_loopw [9] (fun j wr => ∃ (X1 X2 : List En) (m : Nat), j = .int .i64 m ∧ m = P.length + X1.length ∧ X = X1 ++ X2 ∧ Arr wr q cap (P ++ X1 ++ x :: (X2 ++ (G.drop (t + 1 + 1) ++ S))) ∧ Upd w wr (fun i => i = q) ∧ (∀ y ∈ X2, ky x < ky y)) (fun j _ => (intOf j).toNat)
      case atStart => exact ⟨X, [], i, rfl, by rw [HIE.out, HI.out.1], by simp, by simpa using HA1.out, HU1.out, fun y hy => by cases hy⟩
      case round =>
        obtain ⟨X1, X2, m, rfl, hm, hX12, hA, hU, hgt⟩ := hrel
        have hdec : X1 = [] ∨ ∃ Y y, X1 = Y ++ [y] := by
          rcases List.eq_nil_or_concat X1 with h | ⟨Y, y, h⟩
          · exact .inl h
          · exact .inr ⟨Y, y, by simpa using h⟩
        rcases hdec with rfl | ⟨Y, y, rfl⟩
        · obtain rfl : m = a := by rw [hm, HE.out.1]; simp
          have HFIN := Lib.hid (show Arr _ q cap (P ++ srtK ky (G.take (t + 1 + 1)) ++ (G.drop (t + 1 + 1) ++ S)) by
            obtain ⟨e1, e2, e3, e4, e5, e6⟩ := HX.out
            have := ins_end (X1 := []) (X2 := X2) (T := G.take (t + 1)) (x := x) (by rw [← hX12]; exact e4) hgt (fun y hy => by cases hy) (by rw [← hX12]; exact e5)
            rw [e6, ← this]
            simpa using hA)
          have HUX := Lib.hid hU
          have d1 : decide ((m : Int) < (m : Int)) = false := by simp
          have d2 : ¬ m < m := Nat.lt_irrefl m
          clear hA hU hm hX12 hgt
          go_wp2_with fail
          refine region_uw (by kernel_rfl) (by kernel_rfl) ?_
          repeat (first
            | go_big_quiet_skip
            | (go_big_quiet_want; go_big_quiet_op; go_big_quiet_on))
          refine wpQuiet_nil ?_
          rintro _ ⟨z, rfl⟩
          have HUZ := Lib.hid z.ok
          have HFI2 := Lib.hid (HFIN.out.upd HUZ.out (fun h => h))
          go_wp2
          go_roundw
          case rel => exact ⟨t + 1, by rw [show ((m + 1 + (t + 1) : Nat) : Int) = (i : Int) + 1 by have := HIE.out; omega], by have := HE.out; have := HI.out; omega, HFI2.out, HUX.out.then_ (HUZ.out.mono (fun _ _ h => h.elim))⟩
          case measure => have := HIE.out; simp [intOf]; omega
        · obtain ⟨m', hm'⟩ : ∃ m', m' = P.length + Y.length := ⟨_, rfl⟩
          have hY1 : (Y ++ [y]).length = Y.length + 1 := by simp
          obtain rfl : m = m' + 1 := by omega
          clear hY1
          have hpl := HE.out.1
          have ey : (P ++ (Y ++ [y]) ++ x :: (X2 ++ (G.drop (t + 1 + 1) ++ S)))[m']? = some y := by
            have e : P ++ (Y ++ [y]) ++ x :: (X2 ++ (G.drop (t + 1 + 1) ++ S)) = (P ++ Y) ++ y :: x :: (X2 ++ (G.drop (t + 1 + 1) ++ S)) := by simp
            rw [e, List.getElem?_append_right (by rw [hm']; simp), hm']
            simp
          have ex : (P ++ (Y ++ [y]) ++ x :: (X2 ++ (G.drop (t + 1 + 1) ++ S)))[m' + 1]? = some x := by
            have e : P ++ (Y ++ [y]) ++ x :: (X2 ++ (G.drop (t + 1 + 1) ++ S)) = (P ++ Y ++ [y]) ++ x :: (X2 ++ (G.drop (t + 1 + 1) ++ S)) := by simp
            have h := at_mid (P ++ Y ++ [y]) x (X2 ++ (G.drop (t + 1 + 1) ++ S))
            have hl : (P ++ Y ++ [y]).length = m' + 1 := by rw [hm']; simp; omega
            rw [hl] at h
            rw [e]
            exact h
          have hmn : m' + 1 < n := by
            have h1 := (List.getElem?_eq_some_iff.1 ex).1
            have h2 := HX.out.1
            rw [hX12] at h2
            have h3 := HE.out.2.2
            have h4 := HI.out.2.2
            simp at h1 h2
            omega
          obtain ⟨x0, x1, x2, x3⟩ := hA.uw ex
          obtain ⟨y0, y1, y2, y3⟩ := hA.uw ey
          have hyk : y.ok := HX.out.2.2.1 y (by rw [hX12]; simp)
          have HAS := Lib.hid (fun z : UW wr => HASK.out z.val ((HC.out.upd hU HQ.out.1 HQ.out.2.1 HQ.out.2.2).upd z.ok (fun h => h) (fun h => h) (fun h => h)) x y HX.out.2.1 hyk)
          have d1 : decide ((a : Int) < (m' : Int) + 1) = true := by simp; omega
          have d2 : a < m' + 1 := by omega
          have HAW := Lib.hid hA
          have HUW := Lib.hid hU
          have HGT := Lib.hid hgt
          have HXE := Lib.hid hX12
          have HM := Lib.hid hm'
          have HEX := Lib.hid ex
          have HEY := Lib.hid ey
          clear hA hU hm hm' hgt hX12 ex ey hpl hyk
          go_wp2_with fail
          refine region_uw (by kernel_rfl) (by kernel_rfl) ?_
          repeat (first
            | go_big_quiet_skip
            | (go_big_quiet_want; go_big_quiet_op; first | go_big_quiet_on | go_big_quiet_call ((go_at_call 39; with_reducible exact UW.call (HAS.out _)))))
          refine wpQuiet_nil ?_
          rintro _ ⟨z, rfl⟩
          clear x0 x1 x2 x3 y0 y1 y2 y3
          by_cases hlt : ky x < ky y
          · have HLL := Lib.hid hlt
            have q1 : cmp3 (y.rank now age) (x.rank now age) < 0 := of_decide_eq_true (HLT.out x y hlt)
            go_upto_region 6 with (fail)
            clear q1
            have hAz := HAW.out.upd (z.ok.drew) (fun h => h)
            have hUz := HUW.out.then_ ((z.ok.drew).mono (fun _ _ h => h.elim))
            generalize z.val = wz at *
            have ey : (P ++ (Y ++ [y]) ++ x :: (X2 ++ (G.drop (t + 1 + 1) ++ S)))[m']? = some y := HEY.out
            have ex : (P ++ (Y ++ [y]) ++ x :: (X2 ++ (G.drop (t + 1 + 1) ++ S)))[m' + 1]? = some x := HEX.out
            haveI : Nonempty AnyW := ⟨⟨w⟩⟩
            obtain ⟨X, hX⟩ : ∃ X : UE q m' x y, X.val = wz.drew := ⟨UE.of hAz ex ey, rfl⟩
            haveI : Nonempty (UE q m' x y) := ⟨X⟩
            refine region_tree 15 [14, 13, 12, 11, 10, 9, 8, 7, 6, 5, 1, 0] (by kernel_rfl) (fun w' => ∃ v : UE q m' x y, w' = v.val) (by kernel_rfl) (fun _ _ d _ _ h => by cases d <;> exact h) ⟨UE.of hAz ex ey, rfl⟩ ?_
            intro hR
            have HRG := Lib.hid hR
            have X0 := fun (v : UE q m' x y) => v.x0
            have X1 := fun (v : UE q m' x y) => v.x1
            have X2' := fun (v : UE q m' x y) => v.x2
            have X3 := fun (v : UE q m' x y) => v.x3
            have Y0 := fun (v : UE q m' x y) => v.y0
            have Y1 := fun (v : UE q m' x y) => v.y1
            have Y2 := fun (v : UE q m' x y) => v.y2
            have Y3 := fun (v : UE q m' x y) => v.y3
            clear hR
            refine WA.segP HRG.out 15 [2, 3, 4] rfl (by kernel_rfl) ?_
            simp only [opsAt_cons, opsAt_nil, List.getElem?_toArray, List.getElem?_cons_zero, List.getElem?_cons_succ, consO_some]
            repeat (first | go_big_quiet_skip | (go_big_quiet_want; go_big_quiet_op; go_big_quiet_on))
            refine wpQuiet_nil ?_
            refine WA.seg HRG.out 3 [0, 1, 5, 6, 7, 8, 9, 10, 11, 12, 13, 14] rfl (by kernel_rfl) ?_
            simp only [opsAt_cons, opsAt_nil, List.getElem?_toArray, List.getElem?_cons_zero, List.getElem?_cons_succ, consO_some]
            repeat (first | go_big_quiet_skip | (go_big_quiet_want; go_big_quiet_op; go_big_quiet_on))
            refine wpQuiet_nil ?_
            clear X0 X1 X2' X3 Y0 Y1 Y2 Y3
            have hd : Arr wz.drew q cap (P ++ (Y ++ [y]) ++ x :: (X2 ++ (G.drop (t + 1 + 1) ++ S))) := hAz
            have cx0 : wz.cell? ⟨q, (m' + 1) * 4, none⟩ = some (.int .i64 x.id) := by have := X.x0; rw [hX] at this; exact this
            have fx0 : wz.frozen? ⟨q, (m' + 1) * 4, none⟩ = false := hd.frozen _
            have cx1 : wz.cell? ⟨q, (m' + 1) * 4 + 1, none⟩ = some (.string x.dest) := by have := X.x1; rw [hX] at this; exact this
            have fx1 : wz.frozen? ⟨q, (m' + 1) * 4 + 1, none⟩ = false := hd.frozen _
            have cx2 : wz.cell? ⟨q, (m' + 1) * 4 + 2, none⟩ = some (.int .i64 x.pri) := by have := X.x2; rw [hX] at this; exact this
            have fx2 : wz.frozen? ⟨q, (m' + 1) * 4 + 2, none⟩ = false := hd.frozen _
            have cx3 : wz.cell? ⟨q, (m' + 1) * 4 + 3, none⟩ = some (.int .i64 x.at_) := by have := X.x3; rw [hX] at this; exact this
            have fx3 : wz.frozen? ⟨q, (m' + 1) * 4 + 3, none⟩ = false := hd.frozen _
            have cy0 : wz.cell? ⟨q, m' * 4, none⟩ = some (.int .i64 y.id) := by have := X.y0; rw [hX] at this; exact this
            have fy0 : wz.frozen? ⟨q, m' * 4, none⟩ = false := hd.frozen _
            have cy1 : wz.cell? ⟨q, m' * 4 + 1, none⟩ = some (.string y.dest) := by have := X.y1; rw [hX] at this; exact this
            have fy1 : wz.frozen? ⟨q, m' * 4 + 1, none⟩ = false := hd.frozen _
            have cy2 : wz.cell? ⟨q, m' * 4 + 2, none⟩ = some (.int .i64 y.pri) := by have := X.y2; rw [hX] at this; exact this
            have fy2 : wz.frozen? ⟨q, m' * 4 + 2, none⟩ = false := hd.frozen _
            have cy3 : wz.cell? ⟨q, m' * 4 + 3, none⟩ = some (.int .i64 y.at_) := by have := X.y3; rw [hX] at this; exact this
            have fy3 : wz.frozen? ⟨q, m' * 4 + 3, none⟩ = false := hd.frozen _
            have HD := Lib.hid hd
            clear hX hd
            refine WA.mid 2 rfl (by kernel_rfl) ?_
            simp only [opsAt_cons, opsAt_nil, List.getElem?_toArray, List.getElem?_cons_zero, List.getElem?_cons_succ, consO_some]
            go_wp2_with fail
            clear cx0 cx1 cx2 cx3 cy0 cy1 cy2 cy3 fx0 fx1 fx2 fx3 fy0 fy1 fy2 fy3
            have hdz : Arr wz q cap (P ++ (Y ++ [y]) ++ x :: (X2 ++ (G.drop (t + 1 + 1) ++ S))) := HD.out
            have hd5 : Arr (((((wz.setCell ⟨q, (m' + 1) * 4, none⟩ (.int .i64 y.id)).setCell ⟨q, (m' + 1) * 4 + 1, none⟩ (.string y.dest)).setCell ⟨q, (m' + 1) * 4 + 2, none⟩ (.int .i64 y.pri)).setCell ⟨q, (m' + 1) * 4 + 3, none⟩ (.int .i64 y.at_)).drew) q cap (P ++ Y ++ y :: y :: (X2 ++ (G.drop (t + 1 + 1) ++ S))) := by
              have h := hdz.put (i := m' + 1) ((List.getElem?_eq_some_iff.1 ex).1) y
              rw [swp1 (P := P) (Y := Y) HM.out] at h
              exact h
            have hU5 : Upd w (((((wz.setCell ⟨q, (m' + 1) * 4, none⟩ (.int .i64 y.id)).setCell ⟨q, (m' + 1) * 4 + 1, none⟩ (.string y.dest)).setCell ⟨q, (m' + 1) * 4 + 2, none⟩ (.int .i64 y.pri)).setCell ⟨q, (m' + 1) * 4 + 3, none⟩ (.int .i64 y.at_)).drew) (fun i => i = q) := (((((show Upd w wz (fun i => i = q) from ⟨hUz.os, hUz.tape, hUz.output, hUz.size, hUz.block⟩).set ⟨q, (m' + 1) * 4, none⟩ (.int .i64 y.id) (.inl rfl)).set ⟨q, (m' + 1) * 4 + 1, none⟩ (.string y.dest) (.inl rfl)).set ⟨q, (m' + 1) * 4 + 2, none⟩ (.int .i64 y.pri) (.inl rfl)).set ⟨q, (m' + 1) * 4 + 3, none⟩ (.int .i64 y.at_) (.inl rfl)).drew
            generalize ((((wz.setCell ⟨q, (m' + 1) * 4, none⟩ (.int .i64 y.id)).setCell ⟨q, (m' + 1) * 4 + 1, none⟩ (.string y.dest)).setCell ⟨q, (m' + 1) * 4 + 2, none⟩ (.int .i64 y.pri)).setCell ⟨q, (m' + 1) * 4 + 3, none⟩ (.int .i64 y.at_)).drew = w5 at hd5 hU5 ⊢
            obtain ⟨c0, c1, c2, c3⟩ := hd5.now (i := m') (e := y) (by rw [HM.out, ← List.length_append]; exact at_mid _ _ _)
            have f0 := hd5.frozen (m' * 4)
            have f1 := hd5.frozen (m' * 4 + 1)
            have f2 := hd5.frozen (m' * 4 + 2)
            have f3 := hd5.frozen (m' * 4 + 3)
            have HD5 := Lib.hid hd5
            have HU5 := Lib.hid hU5
            clear hdz hd5 hU5 hAz hUz ex ey
            refine ⟨trivial, ?_⟩
            refine WB.one 1 16 rfl (by kernel_rfl) ?_
            simp only [opsAt_cons, opsAt_nil, List.getElem?_toArray, List.getElem?_cons_zero, List.getElem?_cons_succ, consO_some]
            go_wp2_with fail
            refine ⟨trivial, ?_⟩
            refine WB.one 0 17 rfl (by kernel_rfl) ?_
            simp only [opsAt_cons, opsAt_nil, List.getElem?_toArray, List.getElem?_cons_zero, List.getElem?_cons_succ, consO_some]
            go_wp2_with fail
            clear c0 c1 c2 c3 f0 f1 f2 f3
            have hd6 : Arr (((((w5.setCell ⟨q, m' * 4, none⟩ (.int .i64 x.id)).setCell ⟨q, m' * 4 + 1, none⟩ (.string x.dest)).setCell ⟨q, m' * 4 + 2, none⟩ (.int .i64 x.pri)).setCell ⟨q, m' * 4 + 3, none⟩ (.int .i64 x.at_))) q cap (P ++ Y ++ x :: (y :: X2 ++ (G.drop (t + 1 + 1) ++ S))) := by
              have h := HD5.out.put (i := m') (by rw [HM.out]; simp) x
              rw [swp2 (P := P) (Y := Y) HM.out] at h
              exact h
            have hU6 : Upd w (((((w5.setCell ⟨q, m' * 4, none⟩ (.int .i64 x.id)).setCell ⟨q, m' * 4 + 1, none⟩ (.string x.dest)).setCell ⟨q, m' * 4 + 2, none⟩ (.int .i64 x.pri)).setCell ⟨q, m' * 4 + 3, none⟩ (.int .i64 x.at_))) (fun i => i = q) := (((HU5.out.set ⟨q, m' * 4, none⟩ (.int .i64 x.id) (.inl rfl)).set ⟨q, m' * 4 + 1, none⟩ (.string x.dest) (.inl rfl)).set ⟨q, m' * 4 + 2, none⟩ (.int .i64 x.pri) (.inl rfl)).set ⟨q, m' * 4 + 3, none⟩ (.int .i64 x.at_) (.inl rfl)
            have HD6 := Lib.hid hd6
            have HU6 := Lib.hid hU6
            clear hd6 hU6
            generalize ((((w5.setCell ⟨q, m' * 4, none⟩ (.int .i64 x.id)).setCell ⟨q, m' * 4 + 1, none⟩ (.string x.dest)).setCell ⟨q, m' * 4 + 2, none⟩ (.int .i64 x.pri)).setCell ⟨q, m' * 4 + 3, none⟩ (.int .i64 x.at_)) = w6 at HD6 HU6 ⊢
            refine ⟨trivial, ?_⟩
            refine WB.done_ (by kernel_rfl) ?_
            go_wp2
            go_roundw
            case rel => exact ⟨Y, y :: X2, m', by go_num, HM.out, by rw [HXE.out]; simp, HD6.out, HU6.out, fun v hv => by
              rcases List.mem_cons.1 hv with rfl | hv
              · exact HLL.out
              · exact HGT.out v hv⟩
            case measure => simp [intOf]
          · have q1 : ¬ cmp3 (y.rank now age) (x.rank now age) < 0 := of_decide_eq_false (HGE.out x y (Int.not_lt.1 hlt))
            have q2 : 0 ≤ cmp3 (y.rank now age) (x.rank now age) := Int.not_lt.1 q1
            have HFIN := Lib.hid (show Arr wr q cap (P ++ srtK ky (G.take (t + 1 + 1)) ++ (G.drop (t + 1 + 1) ++ S)) by
              obtain ⟨e1, e2, e3, e4, e5, e6⟩ := HX.out
              rw [HXE.out] at e4 e5
              obtain ⟨s1, _, _⟩ := sd_append.1 e4
              obtain ⟨_, _, s3⟩ := sd_append.1 s1
              have := ins_end (X1 := Y ++ [y]) (X2 := X2) (T := G.take (t + 1)) (x := x) e4 HGT.out (fun v hv => by
                rcases List.mem_append.1 hv with hv | hv
                · have := s3 v hv y (by simp); omega
                · have : v = y := by simpa using hv
                  subst v; omega) e5
              rw [e6, ← this]
              simpa using HAW.out)
            have HUZ := Lib.hid z.ok
            have HFI2 := Lib.hid (HFIN.out.upd HUZ.out (fun h => h))
            go_wp2
            go_roundw
            case rel => exact ⟨t + 1, by rw [show ((a + 1 + (t + 1) : Nat) : Int) = (i : Int) + 1 by have := HIE.out; omega], by have := HE.out; have := HI.out; omega, HFI2.out, HUW.out.then_ (HUZ.out.mono (fun _ _ h => h.elim))⟩
            case measure => have := HIE.out; simp [intOf]; omega
    · have hfin : Arr wr q cap (P ++ srtK ky G ++ S) := by
        have h1 := HE.out
        have hk : G.length ≤ t + 1 := by omega
        rw [List.take_of_length_le hk, List.drop_eq_nil_of_le hk, List.nil_append] at hA
        exact hA
      have HF := Lib.hid (And.intro hfin hU)
      clear hA hU hfin
      go_wp2
      go_end0
      exact ⟨rfl, HF.out⟩
end Go.Proofs.Ythpilbooolgkiaa
