/- A row of entries sorted, stably. -/
import Derived.Test.YthpilbooolgkiaaMge
set_option linter.unusedVariables false
set_option linter.unusedSimpArgs false
namespace Go.Proofs.Ythpilbooolgkiaa
open Go.RowKit

/-- What sorting starts from. -/
structure So (w : World) (q cap : Nat) (arr : List En) (pN pR g : Nat) (now age : Int) (n : Nat) : Prop where
  arr_ : Arr w q cap arr
  ok : ∀ e ∈ arr, e.ok
  cap : Cap w pN pR g now age
  qn : pN ≠ q ∧ pR ≠ q ∧ g ≠ q
  t0 : -2199023255552 ≤ now
  t1 : now ≤ 2199023255552
  g0 : 1 ≤ age
  g1 : age ≤ 1048576
  hn : n = arr.length
  n1 : n ≤ 1000
theorem So.ins {w wr : World} {q cap : Nat} {arr : List En} {pN pR g : Nat} {now age : Int} {n : Nat} (h : So w q cap arr pN pR g now age n) (hU : Upd w wr (fun i => i = q)) {cur P G S : List En} (hA : Arr wr q cap cur) (he : cur = P ++ G ++ S) (hp : ∀ e ∈ cur, e ∈ arr) (hl : cur.length = n) {a b : Nat} (ha : a = P.length) (hb : b = P.length + G.length) :
    Calls Try.prog 43 #[.slice (some ⟨q, 0, none⟩) n cap, .int .i64 a, .int .i64 b, askF pN pR] wr fun e w' => e = .returned (.tuple #[]) ∧ Arr w' q cap (P ++ srtK (En.key now age) G ++ S) ∧ Upd w w' (fun i => i = q) :=
  (insort_any wr q cap cur P G S hA he (fun e he => h.ok e (hp e he)) pN pR g now age (h.cap.upd hU h.qn.1 h.qn.2.1 h.qn.2.2) h.qn h.t0 h.t1 h.g0 h.g1 (by have := h.n1; omega) a b n ha hb hl.symm).mono fun e w' ⟨h1, h2, h3⟩ => ⟨h1, h2, hU.then_ h3⟩
/-- The blocks that are sorted so far, and the rest. -/
structure Blks (w wr : World) (q cap : Nat) (arr : List En) (ky : En → Int) (bs a : Nat) : Prop where
  out : ∃ D r, Arr wr q cap (D ++ r) ∧ D.length = a ∧ BkPre ky bs D ∧ SameBy ky (D ++ r) arr ∧ (D ++ r).length = arr.length
  upd : Upd w wr (fun i => i = q)
/-- All blocks are sorted. -/
structure Blk2 (w wr : World) (q cap : Nat) (arr : List En) (ky : En → Int) (bs : Nat) : Prop where
  out : ∃ cur, Arr wr q cap cur ∧ Bk ky bs cur ∧ SameBy ky cur arr ∧ cur.length = arr.length
  upd : Upd w wr (fun i => i = q)
/-- Some blocks are merged by two, the others not yet. -/
structure Blk3 (w wr : World) (q cap : Nat) (arr : List En) (ky : En → Int) (bs a : Nat) : Prop where
  out : ∃ D r, Arr wr q cap (D ++ r) ∧ D.length = a ∧ BkPre ky (2 * bs) D ∧ Bk ky bs r ∧ SameBy ky (D ++ r) arr ∧ (D ++ r).length = arr.length
  upd : Upd w wr (fun i => i = q)
theorem So.mg {w wr : World} {q cap : Nat} {arr : List En} {pN pR g : Nat} {now age : Int} {n : Nat} (h : So w q cap arr pN pR g now age n) (hU : Upd w wr (fun i => i = q)) {D A B r : List En} (hA : Arr wr q cap (D ++ A ++ B ++ r)) (hp : ∀ e ∈ D ++ A ++ B ++ r, e ∈ arr) (hl : (D ++ A ++ B ++ r).length = arr.length)
    (sA : Sd (En.key now age) A) (sB : Sd (En.key now age) B) (lA : 0 < A.length) (lB : 0 < B.length) : Mg wr q cap D A B r pN pR g now age D.length (D.length + A.length) (D.length + A.length + B.length) n :=
  ⟨hA, sA, sB, lA, lB, fun e he => h.ok e (hp e (by rcases List.mem_append.1 he with h | h <;> simp [h])), h.cap.upd hU h.qn.1 h.qn.2.1 h.qn.2.2, h.qn, h.t0, h.t1, h.g0, h.g1, rfl, rfl, rfl, by rw [h.hn, ← hl]; simp only [List.length_append], h.n1⟩
set_option maxRecDepth 100000 in
set_option maxHeartbeats 8000000 in
theorem stable_any (w : World) (q cap : Nat) (arr : List En) (pN pR g : Nat) (now age : Int) (n : Nat) (h : So w q cap arr pN pR g now age n) :
    Calls Try.prog 41 #[.slice (some ⟨q, 0, none⟩) n cap, .int .i64 n, askF pN pR] w fun e w' => e = .returned (.tuple #[]) ∧ Arr w' q cap (srtK (En.key now age) arr) ∧ Upd w w' (fun i => i = q) := by
  have hn1 := h.n1
  have H := Lib.hid h
  have H0 := Lib.hid (show Blks w w q cap arr (En.key now age) 20 0 from ⟨⟨[], arr, by simpa using h.arr_, rfl, BkPre.nil _, by simpa using SameBy.refl _, rfl⟩, Upd.refl _ _⟩)
  clear h
  unfold askF
  go_enter Try.func41, Try.ntmps41
  go_wp2
  go_loopw [7, 8] (fun i j wr => ∃ a : Nat, i = .int .i64 a ∧ j = .int .i64 ((a + 20 : Nat) : Int) ∧ a ≤ n ∧ Blks w wr q cap arr (En.key now age) 20 a) (fun i _ _ => n - (intOf i).toNat)
  case atStart => exact ⟨0, rfl, by go_num, by omega, H0.out⟩
  case round =>
    obtain ⟨a, rfl, rfl, ha, hB⟩ := hrel
    obtain ⟨⟨D, r, hA, hD, hpre, hsame, hlen⟩, hU⟩ := hB
    by_cases hlt : a + 20 ≤ n
    · have hr20 : (r.take 20).length = 20 := by rw [List.length_take]; have := H.out.hn; simp at hlen; omega
      have HC := Lib.hid (H.out.ins hU hA (P := D) (G := r.take 20) (S := r.drop 20) (by rw [List.append_assoc, List.take_append_drop]) (fun e he => hsame.mem he) (by rw [hlen, H.out.hn]) (a := a) (b := a + 20) hD.symm (by omega))
      have HX := Lib.hid (show ∀ wx, Arr wx q cap (D ++ srtK (En.key now age) (r.take 20) ++ r.drop 20) → Upd w wx (fun i => i = q) → Blks w wx q cap arr (En.key now age) 20 (a + 20) from fun wx h1 h2 =>
        ⟨⟨D ++ srtK (En.key now age) (r.take 20), r.drop 20, h1, by rw [List.length_append, len_srtK, hr20, hD], hpre.snoc (sd_srtK _) (by rw [len_srtK, hr20]), by
          refine SameBy.trans ?_ hsame
          have := ((SameBy.refl D).append (same_srtK (ky := En.key now age) (r.take 20))).append (SameBy.refl (r.drop 20))
          rw [List.append_assoc D (r.take 20), List.take_append_drop] at this
          exact this, by rw [← hlen]; simp only [List.length_append, len_srtK]; rw [List.length_drop, hr20]; have := H.out.hn; simp at hlen; omega⟩, h2⟩)
      unfold askF at HC
      clear hA hD hpre hsame hlen hU hr20
      go_wp2_with fail
      refine HC.out.mono ?_
      rintro e w2 ⟨rfl, hA2, hU2⟩
      have HB2 := Lib.hid (HX.out w2 hA2 hU2)
      clear hA2 hU2 HC HX
      go_wp2
      go_roundw
      case rel => exact ⟨a + 20, by go_num, by go_num, by omega, HB2.out⟩
      case measure => simp [intOf]; omega
    · have hrl : D.length + r.length = n := by have := H.out.hn; simp at hlen; omega
      have HC := Lib.hid (H.out.ins hU hA (P := D) (G := r) (S := []) (by simp) (fun e he => hsame.mem he) (by rw [hlen, H.out.hn]) (a := a) (b := n) hD.symm (by omega))
      have HX := Lib.hid (show ∀ wx, Arr wx q cap (D ++ srtK (En.key now age) r ++ []) → Upd w wx (fun i => i = q) → Blk2 w wx q cap arr (En.key now age) 20 from fun wx h1 h2 =>
        ⟨⟨D ++ srtK (En.key now age) r, by simpa using h1, hpre _ (.last (sd_srtK _) (by rw [len_srtK]; omega)), ((SameBy.refl D).append (same_srtK (ky := En.key now age) r)).trans hsame, by rw [← hlen]; simp only [List.length_append, len_srtK]⟩, h2⟩)
      unfold askF at HC
      clear hA hD hpre hsame hlen hU hrl
      go_wp2_with fail
      refine HC.out.mono ?_
      rintro e w2 ⟨rfl, hA2, hU2⟩
      have HB2 := Lib.hid (HX.out w2 hA2 hU2)
      clear hA2 hU2 HC HX
      go_wp2_with fail
      go_loopw [6] (fun i wr => ∃ bs : Nat, i = .int .i64 bs ∧ 1 ≤ bs ∧ bs ≤ 2000 ∧ Blk2 w wr q cap arr (En.key now age) bs) (fun i _ => n - (intOf i).toNat)
      case atStart => exact ⟨20, rfl, by omega, by omega, HB2.out⟩
      case round =>
        clear HB2
        obtain ⟨bs, rfl, hb1, hb2, hB⟩ := hrel
        by_cases hbn : bs < n
        · have HB3 := Lib.hid (show Blk3 w _ q cap arr (En.key now age) bs 0 from by
            obtain ⟨⟨cur, e1, e2, e3, e4⟩, e5⟩ := hB
            exact ⟨⟨[], cur, by simpa using e1, rfl, BkPre.nil _, e2, by simpa using e3, by simpa using e4⟩, e5⟩)
          clear hB
          go_wp2
          go_loopw [7, 8] (fun i j wr => ∃ c : Nat, i = .int .i64 c ∧ j = .int .i64 ((c + 2 * bs : Nat) : Int) ∧ c ≤ n ∧ Blk3 w wr q cap arr (En.key now age) bs c) (fun i _ _ => n - (intOf i).toNat)
          case atStart => exact ⟨0, rfl, by go_num, by omega, HB3.out⟩
          case round =>
            clear HB3
            obtain ⟨c, rfl, rfl, hc, hB⟩ := hrel
            obtain ⟨⟨D, r, hA, hD, hpre, hbk, hsame, hlen⟩, hU⟩ := hB
            have hrl : D.length + r.length = n := by have := H.out.hn; simp at hlen; omega
            by_cases hcn : c + 2 * bs ≤ n
            · obtain ⟨X, Y, r', rfl, lX, sX, sY, lY, lY2, lY3, _, hbk'⟩ := hbk.two (by omega) (by omega)
              have lY4 := lY3 (by omega)
              have hM := H.out.mg hU (D := D) (A := X) (B := Y) (r := r') (by simpa only [List.append_assoc] using hA) (fun e he => hsame.mem (by simpa only [List.append_assoc] using he)) (by rw [← hlen]; simp only [List.append_assoc]) sX sY (by omega) lY
              rw [hD, lX, lY4] at hM
              have HC := Lib.hid (symMerge_any q cap pN pR g now age n _ _ D X Y r' c (c + bs) (c + bs + bs) (Nat.le_refl _) hM)
              have HX := Lib.hid (show ∀ wx, Arr wx q cap (D ++ srtK (En.key now age) (X ++ Y) ++ r') → Upd w wx (fun i => i = q) → Blk3 w wx q cap arr (En.key now age) bs (c + 2 * bs) from fun wx h1 h2 =>
                ⟨⟨D ++ srtK (En.key now age) (X ++ Y), r', h1, by rw [List.length_append, len_srtK, List.length_append]; omega, hpre.snoc (sd_srtK _) (by rw [len_srtK, List.length_append]; omega), hbk', by
                  refine SameBy.trans ?_ hsame
                  have := ((SameBy.refl D).append (same_srtK (ky := En.key now age) (X ++ Y))).append (SameBy.refl r')
                  simpa only [List.append_assoc] using this, by rw [← hlen]; simp only [List.length_append, len_srtK]; omega⟩, h2⟩)
              have HUU := Lib.hid hU
              unfold askF MgPost at HC
              rw [show ((c + bs + bs : Nat) : Int) = ((c + 2 * bs : Nat) : Int) by omega] at HC
              rw [show ((c + bs : Nat) : Int) = (c : Int) + bs by omega] at HC
              clear hA hD hpre hbk' hsame hlen hU hrl hM lX sX sY lY lY2 lY3 lY4
              go_wp2_with fail
              refine HC.out.mono ?_
              rintro e w3 ⟨rfl, hA3, hU3⟩
              have HB4 := Lib.hid (HX.out w3 hA3 (HUU.out.then_ hU3))
              clear hA3 hU3 HC HX HUU
              go_wp2
              go_roundw
              case rel => exact ⟨c + 2 * bs, by go_num, by go_num, by omega, HB4.out⟩
              case measure => simp [intOf]; omega
            · by_cases hm : c + bs < n
              · obtain ⟨X, Y, r', rfl, lX, sX, sY, lY, lY2, _, lY5, hbk'⟩ := hbk.two (by omega) (by omega)
                obtain rfl : r' = [] := lY5 (by omega)
                have lXY : c + bs + Y.length = n := by simp at hrl; omega
                have hM := H.out.mg hU (D := D) (A := X) (B := Y) (r := []) (by simpa only [List.append_assoc] using hA) (fun e he => hsame.mem (by simpa only [List.append_assoc] using he)) (by rw [← hlen]; simp only [List.append_assoc]) sX sY (by omega) lY
                rw [hD, lX, lXY] at hM
                have HC := Lib.hid (symMerge_any q cap pN pR g now age n _ _ D X Y [] c (c + bs) n (Nat.le_refl _) hM)
                have HX := Lib.hid (show ∀ wx, Arr wx q cap (D ++ srtK (En.key now age) (X ++ Y) ++ []) → Upd w wx (fun i => i = q) → Blk2 w wx q cap arr (En.key now age) (2 * bs) from fun wx h1 h2 =>
                  ⟨⟨D ++ srtK (En.key now age) (X ++ Y), by simpa using h1, hpre _ (.last (sd_srtK _) (by rw [len_srtK, List.length_append]; omega)), by
                    refine SameBy.trans ?_ hsame
                    have := (SameBy.refl D).append (same_srtK (ky := En.key now age) (X ++ Y))
                    simpa only [List.append_assoc, List.append_nil] using this, by rw [← hlen]; simp only [List.length_append, len_srtK, List.length_nil]; omega⟩, h2⟩)
                have HUU := Lib.hid hU
                unfold askF MgPost at HC
                rw [show ((c + bs : Nat) : Int) = (c : Int) + bs by omega] at HC
                clear hA hD hpre hbk' hsame hlen hU hrl hM lX sX sY lY lY2 lY5 lXY
                go_wp2_with fail
                refine HC.out.mono ?_
                rintro e w3 ⟨rfl, hA3, hU3⟩
                have HB4 := Lib.hid (HX.out w3 hA3 (HUU.out.then_ hU3))
                clear hA3 hU3 HC HX HUU
                go_wp2
                go_roundw
                case rel => exact ⟨2 * bs, by go_num, by omega, by omega, HB4.out⟩
                case measure => simp [intOf]; omega
              · have HB4 := Lib.hid (show Blk2 w _ q cap arr (En.key now age) (2 * bs) from ⟨⟨D ++ r, hA, hpre _ (.last (hbk.one (by omega)) (by omega)), hsame, hlen⟩, hU⟩)
                clear hA hD hpre hbk hsame hlen hU hrl
                go_wp2
                go_roundw
                case rel => exact ⟨2 * bs, by go_num, by omega, by omega, HB4.out⟩
                case measure => simp [intOf]; omega
        · obtain ⟨⟨cur, e1, e2, e3, e4⟩, e5⟩ := hB
          have hs := e2.one (by have := H.out.hn; omega)
          have hr := srtK_of hs e3
          rw [hr] at e1
          have HF := Lib.hid (And.intro e1 e5)
          clear e1 e2 e3 e4 e5 hs hr
          go_wp2
          go_end0
          exact ⟨rfl, HF.out⟩
theorem sortStable_any (w : World) (q cap : Nat) (arr : List En) (pN pR g : Nat) (now age : Int) (n : Nat) (h : So w q cap arr pN pR g now age n) :
    Calls Try.prog 38 #[.slice (some ⟨q, 0, none⟩) n cap, askF pN pR] w fun e w' => e = .returned (.tuple #[]) ∧ Arr w' q cap (srtK (En.key now age) arr) ∧ Upd w w' (fun i => i = q) := by
  have HC := Lib.hid (stable_any w q cap arr pN pR g now age n h)
  have hn1 := h.n1
  clear h
  unfold askF at HC ⊢
  go_enter Try.func38, Try.ntmps38
  go_wp2_with fail
  refine HC.out.mono ?_
  rintro e w2 ⟨rfl, h1, h2⟩
  have HF := Lib.hid (And.intro h1 h2)
  clear h1 h2
  go_wp2
  go_end0
  exact ⟨rfl, HF.out⟩
end Go.Proofs.Ythpilbooolgkiaa
