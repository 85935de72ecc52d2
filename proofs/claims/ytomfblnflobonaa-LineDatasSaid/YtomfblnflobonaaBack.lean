/- LineBack: its walk. -/
import Derived.Test.YtomfblnflobonaaAwk
set_option linter.unusedVariables false
set_option linter.unusedSimpArgs false
namespace Go.Proofs.Ytomfblnflobonaa
open Go.RowKit

theorem copyS {A : Option Addr} {c : Nat} {l : List ByteArray} {w : World} (hr : Rd1 Value.string w A l) (hn : A = none → c = 0) (hl : l.length ≤ 100000) :
    ∃ B cap w', (Builtin.append_ #[22, 22] 22 #[.slice (some ⟨w.heap.size, 0, none⟩) 0 0, .slice A l.length c]).run Try.prog (w.alloc (.cells #[] 9)) = .ok (.slice B l.length cap) w' ∧ w'.ownsRow w.heap.size 9 1 (.slice B l.length cap) l.length (l.map Value.string) ∧ Rd1 Value.string w' B l ∧ (B = none → cap = 0) ∧ Upd w w' Nope := by
  obtain ⟨i0, hi, hz0, hz1, hz2⟩ := info_parts infoS
  exact copy_row 22 Try.underlying22 hi hz0 hz1 hz2 rfl (fun _ => by simp [Value.oneCell']) hr hn (by unfold maxLen; omega) (by omega)

/-- A row of lines, read as it lies. -/
theorem lrow {w : World} {B n : Nat} {v : Value} {xs : List (List UInt8 × Nat)} (h : w.ownsRow B 49 2 v n (lcells xs)) :
    ∃ A cap, v = .slice A n cap ∧ n = xs.length ∧ n ≤ cap ∧ ∀ i (hi : i < xs.length), ∃ q, A = some ⟨q, 0, none⟩ ∧ w.cell? ⟨q, i * 2, none⟩ = some (.string ⟨(xs[i]'hi).1.toArray⟩) ∧ w.cell? ⟨q, i * 2 + 1, none⟩ = some (.int .i64 ((xs[i]'hi).2 : Int)) := by
  have hlen := h.1
  have hl : (lcells xs).length = xs.length * 2 := by
    clear h hlen
    induction xs with
    | nil => rfl
    | cons x xs ih => simp [lcells] at ih ⊢; omega
  have hn : n = xs.length := by omega
  have hget : ∀ i (hi : i < xs.length), (lcells xs)[i * 2]? = some (.string ⟨(xs[i]'hi).1.toArray⟩) ∧ (lcells xs)[i * 2 + 1]? = some (.int .i64 ((xs[i]'hi).2 : Int)) := by
    clear h hlen hl hn
    induction xs with
    | nil => intro i hi; simp at hi
    | cons x xs ih =>
      intro i hi
      have e : lcells (x :: xs) = .string ⟨x.1.toArray⟩ :: .int .i64 (x.2 : Int) :: lcells xs := by simp [lcells]
      cases i with
      | zero => rw [e]; exact ⟨rfl, rfl⟩
      | succ i =>
        rw [e, show (i + 1) * 2 = i * 2 + 1 + 1 by omega, show i * 2 + 1 + 1 + 1 = (i * 2 + 1) + 1 + 1 by omega]
        simpa using ih i (by simpa using hi)
  rcases h.2 with ⟨rfl, h0⟩ | ⟨q, cap, cur, rfl, hB, hq, hnc, rest⟩
  · exact ⟨none, 0, by rw [h0], hn, by omega, fun i hi => by omega⟩
  · refine ⟨_, cap, rfl, hn, hnc, fun i hi => ⟨q, rfl, ?_, ?_⟩⟩
    · rw [h.cellAt (i * 2) (by omega)]
      exact (hget i hi).1
    · rw [h.cellAt (i * 2 + 1) (by omega)]
      exact (hget i hi).2

theorem line_dotted {t : List UInt8} (hp : plainL t = true) (hl : t.length ≤ 998) : lineOf 65536 (dotted t ++ [13, 10]) = (dotted t, 0) := by
  unfold lineOf
  have := dotted_len t
  rw [if_neg (by simp; omega), body_end, if_pos (plain_dotted hp)]
theorem line_dot : lineOf 65536 [46, 13, 10] = ([46], 0) := by decide
theorem back_lines {l : List (List UInt8)} (hp : l.all plainL = true) (hl : ∀ t ∈ l, t.length ≤ 998) : ((l.map fun t => dotted t ++ [13, 10]) ++ [[46, 13, 10]]).map (lineOf 65536) = (l.map fun t => (dotted t, 0)) ++ [([46], 0)] := by
  rw [List.map_append, List.map_map]
  congr 1
  · apply List.map_congr_left
    intro t ht
    exact line_dotted (List.all_eq_true.1 hp t ht) (hl t ht)
theorem data_codes (l : List (List UInt8)) : (∃ c, data l = ([], c) ∧ (c = 2 ∨ c = 3)) ∨ ∃ s, data l = (s, 0) ∧ s = dataL l ++ [46, 13, 10] := by
  unfold data
  split
  · split
    · exact .inl ⟨3, rfl, .inr rfl⟩
    · exact .inr ⟨_, rfl, rfl⟩
  · exact .inl ⟨2, rfl, .inl rfl⟩
theorem strs_LL (l : List ByteArray) : strs (LL l) = l := by
  unfold strs LL
  rw [List.map_map]
  conv => rhs; rw [← List.map_id l]
  apply List.map_congr_left
  intro x _
  apply ByteArray.ext
  simp
theorem LL_length (l : List ByteArray) : (LL l).length = l.length := by simp [LL]

set_option maxHeartbeats 4000000 in
set_option maxRecDepth 100000 in
theorem back_walk (w : World) (m : Int) (hm : w.cell? ⟨0, 0, none⟩ = some (.int .i64 m)) (A : Option Addr) (cap : Nat) (l : List ByteArray) (rd : Rd1 Value.string w A l) (hc : l.length ≤ cap) (hcm : cap ≤ maxLen) (ok : ∀ y ∈ l, y.size ≤ 140737488351232) (kn : A = none → cap = 0)
    (bh : ByteArray) (hs : bh.size ≤ 140737488351232) :
    Calls Try.prog 6 #[.slice A l.length cap, .string bh] w fun e w' => e = .returned (.bool true) ∧ Below w.heap.size w w' := by
  by_cases c1 : l.length ≤ 100 ∧ total l ≤ 20000
  · by_cases c2 : 5000 < bh.size
    · go_enter Try.func6, Try.ntmps6
      go_wp2_with fail
      refine (awake_any w m hm).mono ?_
      rintro e w1 ⟨rfl, hu1⟩
      go_wp2_with fail
      refine (few_any A cap l w1 (rd.upd hu1 (fun _ h => h.elim)) (by omega) ok).mono ?_
      rintro e w2 ⟨rfl, rfl⟩
      simp only [c1, and_self, decide_true]
      go_wp2
      go_ret
      exact ⟨rfl, hu1.below (fun _ h => h.elim)⟩
    · go_enter Try.func6, Try.ntmps6
      go_wp2_with fail
      refine (awake_any w m hm).mono ?_
      rintro e w1 ⟨rfl, hu1⟩
      have rd1 := rd.upd hu1 (fun _ h => h.elim)
      go_wp2_with fail
      refine (few_any A cap l w1 rd1 (by omega) ok).mono ?_
      rintro e w2 ⟨rfl, rfl⟩
      simp only [c1, and_self, decide_true]
      have hl1 : l.length ≤ 100 := c1.1
      have hl2 : total l ≤ 20000 := c1.2
      obtain ⟨B, cb, w3, hap, -, rdB, -, hu3⟩ := copyS rd1 kn (by omega)
      go_wp2_with (first | (at_builtin; refine wpList_append_eq _ _ rfl rfl hap rfl rfl rfl ?_) | fail)
      refine (data_any B cb l w3 rdB (by omega) (by omega)).mono ?_
      rintro e w4 ⟨rfl, hu4⟩
      have hu4' := (hu1.nn hu3).nn hu4
      have rd4 := rd.upd hu4' (fun _ h => h.elim)
      clear rd rd1 hap rdB hu1 hu3 hu4 c1
      rcases data_codes (LL l) with ⟨c, hd, hcc⟩ | ⟨s, hd, hsd⟩
      · have e0 : dataRet (LL l) = .tuple #[.string ⟨#[]⟩, .int .i64 (c : Int)] := by unfold dataRet; rw [hd]
        rw [e0]
        clear hd e0 rd4
        rcases hcc with rfl | rfl
        all_goals
          go_wp2_with fail
          go_ret
          exact ⟨ret_eq (by first | rfl | simp | decide), hu4'.below (fun _ h => h.elim)⟩
      · have e0 : dataRet (LL l) = .tuple #[.string ⟨s.toArray⟩, .int .i64 0] := by unfold dataRet; rw [hd]; rfl
        rw [e0]
        obtain ⟨b1, b2, b3, b4⟩ := data_back hd bh.data.toList
        have hsl : s.length ≤ 30000 := by
          have := dataL_len (LL l)
          rw [LL_len, bytesOf_len, LL_length] at this
          rw [hsd, List.length_append]
          simp
          omega
        obtain ⟨sb, hsb⟩ : ∃ sb : ByteArray, sb = ⟨s.toArray⟩ := ⟨_, rfl⟩
        have hsb2 : sb.data.toList = s := by rw [hsb]
        have hsz : sb.size = s.length := by rw [hsb]; simp [ByteArray.size]
        rw [← hsb]
        have hcat : (sb ++ bh).data.toList = s ++ bh.data.toList := by rw [← hsb2]; simp
        have hcz : (sb ++ bh).size ≤ 40000 := by rw [ByteArray.size_append]; omega
        have hU := fun w hm => undata_any (sb ++ bh) w m hm (by omega)
        rw [hcat] at hU
        unfold UndPost at hU
        rw [b1] at hU
        simp only [strs_LL, LL_length] at hU
        rw [show (⟨bh.data.toList.toArray⟩ : ByteArray) = bh by apply ByteArray.ext; simp] at hU
        have HU := Lib.hid hU
        clear hU hcat hd e0 hsb hsd
        have hcatz := ByteArray.size_append (a := sb) (b := bh)
        go_wp2_with fail
        generalize sb ++ bh = sbb at HU hcz ⊢
        refine (HU.out w4 (hu4'.cell hm id)).mono ?_
        rintro e w5 ⟨vx, rfl, hx5, hu5⟩
        have hu5' := hu4'.nn hu5
        have rd5 := rd4.upd hu5 (fun _ h => h.elim)
        obtain ⟨Ax, cx, rfl, -, hrx, -, -⟩ := rd1_of_owns hx5
        clear hu5 hu4' rd4 HU hx5
        go_wp2_with fail
        refine (same_any Ax A cx cap l l w5 hrx rd5 (by unfold maxLen; omega) (by unfold maxLen; omega)).mono ?_
        rintro e w6 ⟨rfl, hd6⟩
        have hu6 := hu5'.dr hd6
        clear hrx rd5 hu5' hd6
        rw [show decide (l = l) = true from decide_eq_true rfl]
        go_wp2_with fail
        refine (new_any 65536 (by decide) (by decide) w6).mono ?_
        rintro e w7 ⟨g, rfl, hc7, hg7, hgl7, hu7⟩
        have hc7' : Ctr w7 w.heap.size g 65536 0 [] (.slice none 0 0) := ⟨hc7.blk, by simpa [Lib.byteCells] using World.ownsRow_nil _ _ _ _⟩
        have hg7' : w.heap.size ≤ g := Nat.le_trans hu6.size hg7
        have hu7' := hu6.nn hu7
        clear hc7 hu7 hu6 hg7
        go_wp2_with fail
        have hb8 := Blk.new w7 #[.string sb] 9
        have u8 : Upd w7 (w7.alloc (.cells #[.string sb] 9)) Nope := (Upd.refl w7 Nope).alloc _
        have hc8 := hc7'.upd u8 id (fun _ _ => id)
        have hu8 := hu7'.nn u8
        have hne8 : w7.heap.size ≠ g := by omega
        clear hc7' u8 hu7' hgl7
        generalize w7.heap.size = b8 at hb8 hne8 ⊢
        generalize w7.alloc (.cells #[.string sb] 9) = w8 at hb8 hc8 hu8 ⊢
        have hbo : bytesOf [sb] = s := by simp [bytesOf, hsb2]
        refine (feed_new (cap := 1) (l := [sb]) hc8 hu8 hg7' (by decide) (by decide) (by decide) (by decide) (fun W k => rd1_blk (hb8.upd k (by simp [Value.ownBlock]; exact hne8)) rfl) (by simp) (by rw [hbo]; omega)).mono ?_
        rintro e w9 ⟨v9, vo9, rfl, -, ho9, -, -, -, hu9⟩
        rw [hbo, b2] at ho9
        simp only [back_lines b3 b4] at ho9
        obtain ⟨Ay, cy, rfl, hyl, hyc, hy⟩ := lrow ho9
        have hyn : ((LL l).map fun t => (dotted t, (0 : Nat))).length = l.length := by rw [List.length_map, LL_length]
        have hyl2 : (((LL l).map fun t => (dotted t, (0 : Nat))) ++ [([46], 0)]).length = l.length + 1 := by rw [List.length_append, hyn]; rfl
        have hend : ∃ q, Ay = some ⟨q, 0, none⟩ ∧ w9.cell? ⟨q, l.length * 2, none⟩ = some (.string ⟨#[46]⟩) := by
          obtain ⟨q, h1, h2, -⟩ := hy l.length (by omega)
          refine ⟨q, h1, ?_⟩
          rw [h2]
          simp [hyn]
        have hmid : ∀ i (hi : i < l.length), ∃ t : ByteArray, (t.toList == [46]) = false ∧ ∃ q, Ay = some ⟨q, 0, none⟩ ∧ w9.cell? ⟨q, i * 2, none⟩ = some (.string t) ∧ w9.cell? ⟨q, i * 2 + 1, none⟩ = some (.int .i64 0) := by
          intro i hi
          obtain ⟨q, h1, h2, h3⟩ := hy i (by omega)
          rw [List.getElem_append_left (by omega), List.getElem_map] at h2 h3
          refine ⟨⟨(dotted ((LL l)[i]'(by rw [LL_length]; omega))).toArray⟩, ?_, q, h1, h2, h3⟩
          rw [ByteArray.toList_eq]
          simpa using dotted_ne _
        rw [hyl2] at hyl hyc ⊢
        obtain ⟨q, rfl, hq⟩ := hend
        have hmid2 : ∀ i (hi : i < l.length), ∃ t : ByteArray, (t.toList == [46]) = false ∧ w9.cell? ⟨q, i * 2, none⟩ = some (.string t) ∧ w9.cell? ⟨q, i * 2 + 1, none⟩ = some (.int .i64 0) := by
          intro i hi
          obtain ⟨t, h0, q', h1, h2, h3⟩ := hmid i hi
          injection h1 with h1
          injection h1 with h1
          subst h1
          exact ⟨t, h0, h2, h3⟩
        have HM := Lib.hid hmid2
        clear hmid hmid2 hy ho9 hyn hyl hc8 hb8 hyl2 hbo b1 b2 b3 b4
        go_wp2_with fail
        go_loopg [13] (l.length + 1) (fun gk i wx => ∃ k : Nat, k ≤ l.length ∧ l.length < k + gk ∧ i = .int .i64 k ∧ wx = w9)
        case atStart => exact ⟨0, by omega, by omega, rfl, rfl⟩
        case round =>
          obtain ⟨k, hk, hkg, rfl, hwr⟩ := hrel
          obtain rfl : w9 = wr := hwr.symm
          by_cases hlt : k < l.length
          · obtain ⟨gq, rfl⟩ : ∃ gq, gk = gq + 1 := ⟨gk - 1, by omega⟩
            obtain ⟨t, ht, h2, h3⟩ := HM.out k hlt
            go_wp2_with fail
            go_roundg gq
            case measure => omega
            case rel => exact ⟨k + 1, by omega, by omega, by go_num, rfl⟩
          · obtain rfl : k = l.length := by omega
            go_wp2_with fail
            go_ret
            exact ⟨ret_eq (by first | rfl | simp), hu9.below (fun _ h => h.elim)⟩
  · go_enter Try.func6, Try.ntmps6
    go_wp2_with fail
    refine (awake_any w m hm).mono ?_
    rintro e w1 ⟨rfl, hu1⟩
    go_wp2_with fail
    refine (few_any A cap l w1 (rd.upd hu1 (fun _ h => h.elim)) (by omega) ok).mono ?_
    rintro e w2 ⟨rfl, rfl⟩
    rw [decide_eq_false c1]
    go_wp2
    go_ret
    exact ⟨rfl, hu1.below (fun _ h => h.elim)⟩
end Go.Proofs.Ytomfblnflobonaa
