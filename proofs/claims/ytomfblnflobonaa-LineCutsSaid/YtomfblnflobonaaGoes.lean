/- LineGoes: its walk. -/
import Derived.Test.YtomfblnflobonaaBack
set_option linter.unusedVariables false
set_option linter.unusedSimpArgs false
namespace Go.Proofs.Ytomfblnflobonaa
open Go.RowKit

theorem cuts_noEnd {s : List UInt8} (h : NoEnd s) : cuts [] s = ([], s) := by
  have := cuts_first s [] NoEnd.nil
  cases hc : (cuts [] s).1 with
  | nil =>
    rw [hc] at this
    have h2 := this.2
    rw [List.nil_append] at h2
    calc cuts [] s = ((cuts [] s).1, (cuts [] s).2) := rfl
      _ = ([], s) := by rw [hc, h2]
  | cons x m =>
    rw [hc] at this
    obtain ⟨t, s', rfl, _, he, _⟩ := this
    rw [List.nil_append] at he
    exact absurd ⟨by rw [he]; simp, by rw [he]; simp⟩ (h t.length)
theorem goes_cuts {s : List UInt8} (h : NoEnd s) : cuts [] (s ++ [13, 10]) = ([s ++ [13, 10]], []) := by
  rw [cuts_append, cuts_noEnd h, cuts_crlf (isEnd_cr s)]
  simp

/-- Feed, of pieces that came in. -/
theorem feed_arg {w W0 : World} {g most lines : Nat} {cur : List UInt8} {v : Value} (h : Ctr w W0.heap.size g most lines cur v) (hu : Upd W0 w Nope) (hg : W0.heap.size ≤ g) (hm2 : 2 ≤ most) (hmm : most ≤ 65536) (hln : lines ≤ 500000) (hc : cur.length ≤ 400000)
    {A : Option Addr} {cap : Nat} {l : List ByteArray} (hr : Rd1 Value.string W0 A l) (hlen : l.length ≤ 1000000) (hby : (bytesOf l).length ≤ 400000) :
    Calls Try.prog 11 #[.pointer (some ⟨g, 0, none⟩), .slice A l.length cap] w fun e w' => ∃ v' vo', e = .returned vo' ∧ Ctr w' W0.heap.size g most (lines + (cuts cur (bytesOf l)).1.length) (cuts cur (bytesOf l)).2 v' ∧
      w'.ownsRow W0.heap.size 49 2 vo' ((cuts cur (bytesOf l)).1.map (lineOf most)).length (lcells ((cuts cur (bytesOf l)).1.map (lineOf most))) ∧ Upd w w' (fun k => k = g ∨ v.ownBlock = some k) ∧ (∀ k, v'.ownBlock = some k → v.ownBlock = some k ∨ w.heap.size ≤ k) ∧ (∀ k, vo'.ownBlock = some k → w.heap.size ≤ k) ∧ Upd W0 w' Nope :=
  feed_new h hu hg hm2 hmm hln hc (fun W k => hr.upd (hu.trans k (fun _ _ h => h) (H := Nope) (fun i hi hk => by
    rcases hk with hk | hk
    · omega
    · have := (h.own.lt i hk).1; omega)) (fun _ h => h.elim)) hlen hby

theorem Ctr.base {w : World} {B B' g most lines : Nat} {cur : List UInt8} (h : Ctr w B g most lines cur (.slice none 0 0)) : Ctr w B' g most lines cur (.slice none 0 0) :=
  ⟨h.blk, by
    obtain ⟨h1, h2⟩ := h.own
    refine ⟨h1, .inl ⟨rfl, ?_⟩⟩
    rcases h2 with ⟨_, h2⟩ | ⟨q, cap, c, h2, _⟩
    · exact h2
    · cases h2⟩
/-- What the line of a text is, three ways. -/
theorem line_ways (most : Nat) (s : List UInt8) : (most < s.length + 2 ∧ lineOf most (s ++ [13, 10]) = ([], 3)) ∨ (¬ most < s.length + 2 ∧ lineOf most (s ++ [13, 10]) = (s, 0)) ∨ (¬ most < s.length + 2 ∧ lineOf most (s ++ [13, 10]) = ([], 2)) := by
  unfold lineOf
  rw [body_end]
  have e : (s ++ [13, 10]).length = s.length + 2 := by simp
  rw [e]
  by_cases h : most < s.length + 2
  · exact .inl ⟨h, by rw [if_pos h]⟩
  · rw [if_neg h]
    by_cases hp : plainL s = true
    · exact .inr (.inl ⟨h, by rw [if_pos hp]⟩)
    · exact .inr (.inr ⟨h, by rw [if_neg hp]⟩)

set_option maxHeartbeats 4000000 in
set_option maxRecDepth 100000 in
theorem goes_walk (w : World) (m : Int) (hm : w.cell? ⟨0, 0, none⟩ = some (.int .i64 m)) (mo : Int) (wf : (Lit.int .i64 mo).wf = true) (bd : ByteArray) (hs : bd.size ≤ 140737488351232)
    (A : Option Addr) (cap : Nat) (l : List ByteArray) (rd : Rd1 Value.string w A l) (hc : l.length ≤ cap) (hcm : cap ≤ maxLen) (ok : ∀ y ∈ l, y.size ≤ 140737488351232) (kn : A = none → cap = 0) :
    Calls Try.prog 7 #[.int .i64 mo, .string bd, .slice A l.length cap] w fun e w' => e = .returned (.bool true) ∧ Below w.heap.size w w' := by
  by_cases c1 : l.length ≤ 100 ∧ total l ≤ 20000
  · by_cases c2 : 5000 < bd.size ∨ mo < 2 ∨ 65536 < mo
    · have hcs : (5000 < bd.size) ∨ (¬ 5000 < bd.size ∧ mo < 2) ∨ (¬ 5000 < bd.size ∧ ¬ mo < 2 ∧ 65536 < mo) := by omega
      clear c2
      rcases hcs with h | ⟨h, h'⟩ | ⟨h, h', h''⟩
      · have d1 : decide ((5000 : Int) < (bd.size : Int)) = true := by simp; omega
        clear h
        go_enter Try.func7, Try.ntmps7
        go_wp2_with fail
        refine (awake_any w m hm).mono ?_
        rintro e w1 ⟨rfl, hu1⟩
        go_wp2_with fail
        refine (few_any A cap l w1 (rd.upd hu1 (fun _ h => h.elim)) (by omega) ok).mono ?_
        rintro e w2 ⟨rfl, rfl⟩
        simp only [c1, and_self, decide_true]
        go_wp2
        go_ret
        exact ⟨rfl, hu1.below (fun _ h => h.elim)⟩
      · have d1 : decide ((5000 : Int) < (bd.size : Int)) = false := by simp; omega
        have d2 : decide (mo < 2) = true := by simpa using h'
        clear h h'
        go_enter Try.func7, Try.ntmps7
        go_wp2_with fail
        refine (awake_any w m hm).mono ?_
        rintro e w1 ⟨rfl, hu1⟩
        go_wp2_with fail
        refine (few_any A cap l w1 (rd.upd hu1 (fun _ h => h.elim)) (by omega) ok).mono ?_
        rintro e w2 ⟨rfl, rfl⟩
        simp only [c1, and_self, decide_true]
        go_wp2
        go_ret
        exact ⟨rfl, hu1.below (fun _ h => h.elim)⟩
      · have d1 : decide ((5000 : Int) < (bd.size : Int)) = false := by simp; omega
        have d2 : decide (mo < 2) = false := by simpa using h'
        have d3 : decide ((65536 : Int) < mo) = true := by simpa using h''
        clear h h' h''
        go_enter Try.func7, Try.ntmps7
        go_wp2_with fail
        refine (awake_any w m hm).mono ?_
        rintro e w1 ⟨rfl, hu1⟩
        go_wp2_with fail
        refine (few_any A cap l w1 (rd.upd hu1 (fun _ h => h.elim)) (by omega) ok).mono ?_
        rintro e w2 ⟨rfl, rfl⟩
        simp only [c1, and_self, decide_true]
        go_wp2
        go_ret
        exact ⟨rfl, hu1.below (fun _ h => h.elim)⟩
    · obtain ⟨most, rfl⟩ : ∃ k : Nat, mo = k := ⟨mo.toNat, by omega⟩
      have hm2 : 2 ≤ most := by omega
      have hmm : most ≤ 65536 := by omega
      have hbz : bd.size ≤ 5000 := by omega
      have d1 : decide ((5000 : Int) < (bd.size : Int)) = false := by simp; omega
      have d2 : decide ((most : Int) < 2) = false := by simp; omega
      have d3 : decide ((65536 : Int) < (most : Int)) = false := by simp; omega
      have hl1 : l.length ≤ 100 := c1.1
      have hl2 : total l ≤ 20000 := c1.2
      clear c2
      by_cases hz : bd.size = 0
      · have dz : decide ((0 : Int) < (bd.size : Int)) = false := by rw [hz]; rfl
        go_enter Try.func7, Try.ntmps7
        go_wp2_with fail
        refine (awake_any w m hm).mono ?_
        rintro e w1 ⟨rfl, hu1⟩
        have rd1 := rd.upd hu1 (fun _ h => h.elim)
        go_wp2_with fail
        refine (few_any A cap l w1 rd1 (by omega) ok).mono ?_
        rintro e w2 ⟨rfl, rfl⟩
        simp only [c1, and_self, decide_true]
        go_wp2_with fail
        refine (new_any most hm2 hmm w2).mono ?_
        rintro e w3 ⟨ga, rfl, hca, hga, hgal, hu3⟩
        go_wp2_with fail
        refine (new_any most hm2 hmm w3).mono ?_
        rintro e w4 ⟨gb, rfl, hcb, hgb, hgbl, hu4⟩
        have hca4 : Ctr w4 w.heap.size ga most 0 [] (.slice none 0 0) := (hca.upd hu4 id (fun _ _ => id)).base
        have hcb4 : Ctr w4 w.heap.size gb most 0 [] (.slice none 0 0) := hcb.base
        have hu4' := (hu1.nn hu3).nn hu4
        have z1 := hu1.size
        have z3 := hu3.size
        have hga' : w.heap.size ≤ ga := by omega
        have hgb' : w.heap.size ≤ gb := by omega
        have hgal4 : ga < w4.heap.size := by have := hu4.size; omega
        have hab : gb ≠ ga := by omega
        clear hca hcb hu4 hu3 hu1 rd1 hga hgb hgal z1 z3 c1
        have HA := Lib.hid hca4
        have HB := Lib.hid hcb4
        clear hca4 hcb4
        go_wp2_with fail
        go_loopg [11] (bd.size + 1) (fun gk i wx => ∃ k : Nat, k ≤ bd.size ∧ bd.size < k + gk ∧ i = .int .i64 k ∧ (∀ j : Nat, j < k → ¬ (bd.data.toList[j]? = some 13 ∧ bd.data.toList[j + 1]? = some 10)) ∧ wx = w4)
        case atStart => exact ⟨0, by omega, by omega, rfl, fun j hj => by omega, rfl⟩
        case round =>
          obtain ⟨k, hk, hkg, rfl, hno, hwr⟩ := hrel
          obtain rfl : w4 = wr := hwr.symm
          have hlen : bd.data.toList.length = bd.size := by simp
          by_cases hlt : k + 1 < bd.size
          · exact absurd hlt (by omega)
          · have hNE : NoEnd bd.data.toList := by
              intro j h
              have h2 : j + 1 < bd.data.toList.length := (List.getElem?_eq_some_iff.1 h.2).1
              exact hno j (by omega) h
            have hbo : bytesOf [bd, ⟨#[13, 10]⟩] = bd.data.toList ++ [13, 10] := by simp [bytesOf]
            have hcts := goes_cuts hNE
            have hways := line_ways most bd.data.toList
            rw [hlen] at hways
            clear hno hNE
            have hkz : ¬ ((k : Int) + 1 < (bd.size : Int)) := by omega
            have hkz2 : decide (((k : Int) + 1) < (bd.size : Int)) = false := decide_eq_false hkz
            clear hkz hlt
            go_wp2_with fail
            have hb5 := Blk.new w4 #[.string bd, .string ⟨#[13, 10]⟩] 9
            have u5 : Upd w4 (w4.alloc (.cells #[.string bd, .string ⟨#[13, 10]⟩] 9)) Nope := (Upd.refl w4 Nope).alloc _
            have hca5 := HA.out.upd u5 id (fun _ _ => id)
            have hcb5 := HB.out.upd u5 id (fun _ _ => id)
            have hu5 := hu4'.nn u5
            have hne5 : w4.heap.size ≠ ga := by omega
            clear u5 hu4' HA HB hgal4
            generalize w4.heap.size = b5 at hb5 hne5 ⊢
            generalize w4.alloc (.cells #[.string bd, .string ⟨#[13, 10]⟩] 9) = w5 at hb5 hca5 hcb5 hu5 ⊢
            refine (feed_new (cap := 2) (l := [bd, ⟨#[13, 10]⟩]) hca5 hu5 hga' hm2 hmm (by decide) (by decide) (fun W k => rd1_blk (hb5.upd k (by simp [Value.ownBlock]; exact hne5)) rfl) (by simp) (by rw [hbo]; simp; omega)).mono ?_
            rintro e w6 ⟨v6, vo6, rfl, hca6, ho6, u6, hv6, -, hu6⟩
            rw [hbo, hcts] at hca6 ho6
            have hcb6 := hcb5.upd u6 (fun h => by rcases h with h | h; exact hab h; simp [Value.ownBlock] at h) (fun _ h => by simp [Value.ownBlock] at h)
            simp only [List.map_cons, List.map_nil, List.length_cons, List.length_nil, Nat.zero_add] at ho6 hca6 ⊢
            obtain ⟨Ax, cx, rfl, hxl, -, hx⟩ := lrow ho6
            obtain ⟨q, rfl, k0, k1⟩ := hx 0 (by simp)
            simp only [List.getElem_cons_zero, Nat.zero_mul, Nat.zero_add] at k0 k1
            clear hx ho6 hcts hbo hca5 hcb5 hu5 u6 hb5 hxl
            have HCA := Lib.hid hca6
            have HCB := Lib.hid hcb6
            clear hca6 hcb6
            go_wp2_with fail
            refine (pending_any HCA.out).mono ?_
            rintro e w7 ⟨rfl, hw7⟩
            obtain rfl : w6 = w7 := hw7.symm
            have hbd : (⟨bd.data.toList.toArray⟩ : ByteArray) = bd := by apply ByteArray.ext; simp
            rcases hways with ⟨hw, e⟩ | ⟨hw, e⟩ | ⟨hw, e⟩
            all_goals try (exfalso; omega)
            all_goals
              rw [e] at k0 k1
              first | rw [hbd] at k0 | skip
              first | (have hdd : decide ((most : Int) < (bd.size : Int) + 2) = true := (by simp; omega)) | (have hdd : decide ((most : Int) < (bd.size : Int) + 2) = false := (by simp; omega))
              clear e hw
              have hbb : (bd.toList == bd.toList) = true := by simp
              go_wp2_with fail
              refine (feed_arg HCA.out hu6 hga' hm2 hmm (by decide) (by decide) rd (by omega) (by rw [bytesOf_len]; omega)).mono ?_
              rintro e w8 ⟨v8, vo8, rfl, hca8, ho8, u8, -, -, hu8⟩
              have hcb8 := HCB.out.upd u8 (fun h => by rcases h with h | h; exact hab h; exact own_ne HCA.out.own HCB.out.blk (by decide) _ h rfl) (fun _ h => by simp [Value.ownBlock] at h)
              clear u8 k0 k1
              go_wp2_with fail
              refine (feed_arg hcb8 hu8 hgb' hm2 hmm (by decide) (by decide) rd (by omega) (by rw [bytesOf_len]; omega)).mono ?_
              rintro e w9 ⟨v9, vo9, rfl, hcb9, ho9, u9, -, -, hu9⟩
              have hca9 := hca8.upd u9 (fun h => by rcases h with h | h; exact hab h.symm; simp [Value.ownBlock] at h) (fun i hi h => by rcases h with h | h; exact own_ne hca8.own hcb8.blk (by decide) i hi h; simp [Value.ownBlock] at h)
              have hoo9 := own_upd ho8 u9 (fun i hi h => by rcases h with h | h; exact own_ne ho8 hcb8.blk (by decide) i hi h; simp [Value.ownBlock] at h)
              obtain ⟨Ay, cy, rfl, hyl, hyc, hy⟩ := lrow hoo9
              obtain ⟨Az, cz, rfl, hzl, hzc, hz9⟩ := lrow ho9
              have hnl : ((cuts [] (bytesOf l)).1.map (lineOf most)).length ≤ 20000 := by
                rw [List.length_map]
                have := cuts_count (bytesOf l) []
                rw [bytesOf_len] at this
                omega
              have hpl : (cuts [] (bytesOf l)).2.length ≤ 400000 := by
                have := cuts_len (bytesOf l) []
                rw [bytesOf_len] at this
                simp at this
                omega
              clear ho8 ho9 hoo9 hcb8 hca8 u9 hu8 hu6 HCA HCB
              have hca9 := Lib.hid hca9
              have hcb9 := Lib.hid hcb9
              have HY := Lib.hid hy
              have HZ := Lib.hid hz9
              clear hy hz9 hyl hzl
              generalize (cuts [] (bytesOf l)).1.map (lineOf most) = ls at HY HZ hyc hzc hnl ⊢
              go_wp2_with fail
              go_loopg [15] (ls.length + 1) (fun gk i wx => ∃ k : Nat, k ≤ ls.length ∧ ls.length < k + gk ∧ i = .int .i64 k ∧ Drew w9 wx)
              case atStart => exact ⟨0, by omega, by omega, rfl, Drew.refl _⟩
              case round =>
                clear hkg hk
                obtain ⟨k2, hk, hkg, rfl, hd⟩ := hrel
                by_cases hlt : k2 < ls.length
                · obtain ⟨gq, rfl⟩ : ∃ gq, gk = gq + 1 := ⟨gk - 1, by omega⟩
                  obtain ⟨qy, rfl, y0, y1⟩ := HY.out k2 hlt
                  obtain ⟨qz, rfl, zz0, zz1⟩ := HZ.out k2 hlt
                  have y0' := (hd.cell _).trans y0
                  have y1' := (hd.cell _).trans y1
                  have z0' := (hd.cell _).trans zz0
                  have z1' := (hd.cell _).trans zz1
                  generalize (⟨(ls[k2]).1.toArray⟩ : ByteArray) = tt at y0' z0'
                  generalize ((ls[k2]).2 : Int) = cc at y1' z1'
                  clear y0 y1 zz0 zz1
                  go_wp2_with fail
                  go_quiet (fail)
                  go_wp2_with fail
                  go_roundg gq
                  case measure => omega
                  case rel => exact ⟨k2 + 1, by omega, by omega, by go_num, hd.step _⟩
                · have u10 := hd.upd Nope
                  have ha10 := hca9.out.upd u10 id (fun _ _ => id)
                  have hb10 := hcb9.out.upd u10 id (fun _ _ => id)
                  have hu10 := hu9.nn u10
                  obtain rfl : k2 = ls.length := by omega
                  clear hca9 hcb9 u10 hu9 hd HY HZ
                  generalize (cuts [] (bytesOf l)).2 = cu at ha10 hb10 hpl
                  have HA10 := Lib.hid ha10
                  have HB10 := Lib.hid hb10
                  clear ha10 hb10
                  go_wp2_with fail
                  refine (pending_any HA10.out).mono ?_
                  rintro e w11 ⟨rfl, hw11⟩
                  obtain rfl : wr = w11 := hw11.symm
                  go_wp2_with fail
                  refine (pending_any HB10.out).mono ?_
                  rintro e w12 ⟨rfl, hw12⟩
                  obtain rfl : wr = w12 := hw12.symm
                  go_wp2_with fail
                  go_ret
                  exact ⟨ret_eq (by first | rfl | simp), hu10.below (fun _ h => h.elim)⟩
      · have dz : decide ((0 : Int) < (bd.size : Int)) = true := by simp; omega
        have hixl := index_str (P := Try.prog) Try.underlying9 bd ((bd.size : Int) - 1) (bd.size - 1) (by omega) (by omega)
        generalize bd.data.toList.getD (bd.size - 1) 0 = xl at hixl
        have e13l : (((xl.toNat : Int)) == 13) = (xl == 13) := u8_eq' xl 13 (by decide) 13 rfl
        cases hxl : xl == 13
        · rw [hxl] at e13l
          clear hxl
          go_enter Try.func7, Try.ntmps7
          go_wp2_with fail
          refine (awake_any w m hm).mono ?_
          rintro e w1 ⟨rfl, hu1⟩
          have rd1 := rd.upd hu1 (fun _ h => h.elim)
          go_wp2_with fail
          refine (few_any A cap l w1 rd1 (by omega) ok).mono ?_
          rintro e w2 ⟨rfl, rfl⟩
          simp only [c1, and_self, decide_true]
          go_wp2_with fail
          refine (new_any most hm2 hmm w2).mono ?_
          rintro e w3 ⟨ga, rfl, hca, hga, hgal, hu3⟩
          go_wp2_with fail
          refine (new_any most hm2 hmm w3).mono ?_
          rintro e w4 ⟨gb, rfl, hcb, hgb, hgbl, hu4⟩
          have hca4 : Ctr w4 w.heap.size ga most 0 [] (.slice none 0 0) := (hca.upd hu4 id (fun _ _ => id)).base
          have hcb4 : Ctr w4 w.heap.size gb most 0 [] (.slice none 0 0) := hcb.base
          have hu4' := (hu1.nn hu3).nn hu4
          have z1 := hu1.size
          have z3 := hu3.size
          have hga' : w.heap.size ≤ ga := by omega
          have hgb' : w.heap.size ≤ gb := by omega
          have hgal4 : ga < w4.heap.size := by have := hu4.size; omega
          have hab : gb ≠ ga := by omega
          clear hca hcb hu4 hu3 hu1 rd1 hga hgb hgal z1 z3 c1
          have HA := Lib.hid hca4
          have HB := Lib.hid hcb4
          clear hca4 hcb4
          go_wp2_with fail
          go_loopg [11] (bd.size + 1) (fun gk i wx => ∃ k : Nat, k ≤ bd.size ∧ bd.size < k + gk ∧ i = .int .i64 k ∧ (∀ j : Nat, j < k → ¬ (bd.data.toList[j]? = some 13 ∧ bd.data.toList[j + 1]? = some 10)) ∧ wx = w4)
          case atStart => exact ⟨0, by omega, by omega, rfl, fun j hj => by omega, rfl⟩
          case round =>
            obtain ⟨k, hk, hkg, rfl, hno, hwr⟩ := hrel
            obtain rfl : w4 = wr := hwr.symm
            have hlen : bd.data.toList.length = bd.size := by simp
            by_cases hlt : k + 1 < bd.size
            · obtain ⟨gq, rfl⟩ : ∃ gq, gk = gq + 1 := ⟨gk - 1, by omega⟩
              have ix0 := index_str (P := Try.prog) Try.underlying9 bd (k : Int) k rfl (by omega)
              have ix1 := index_str (P := Try.prog) Try.underlying9 bd ((k : Int) + 1) (k + 1) (by omega) (by omega)
              have g0 : bd.data.toList[k]? = some (bd.data.toList.getD k 0) := by rw [List.getElem?_eq_getElem (by omega)]; simp [List.getD]; rw [Array.getElem?_eq_getElem (by show k < bd.size; omega)]; rfl
              have g1 : bd.data.toList[k + 1]? = some (bd.data.toList.getD (k + 1) 0) := by rw [List.getElem?_eq_getElem (by omega)]; simp [List.getD]; rw [Array.getElem?_eq_getElem (by show k + 1 < bd.size; omega)]; rfl
              generalize bd.data.toList.getD k 0 = x at ix0 g0
              generalize bd.data.toList.getD (k + 1) 0 = y at ix1 g1
              have e13 : (((x.toNat : Int)) == 13) = (x == 13) := u8_eq' x 13 (by decide) 13 rfl
              have e10 : (((y.toNat : Int)) == 10) = (y == 10) := u8_eq' y 10 (by decide) 10 rfl
              by_cases hend : x = 13 ∧ y = 10
              · rw [show (x == 13) = true by simp [hend.1]] at e13
                rw [show (y == 10) = true by simp [hend.2]] at e10
                clear hend g0 g1 hno
                go_wp2_with fail
                go_ret
                exact ⟨rfl, hu4'.below (fun _ h => h.elim)⟩
              · have hno2 : ∀ j : Nat, j < k + 1 → ¬ (bd.data.toList[j]? = some 13 ∧ bd.data.toList[j + 1]? = some 10) := by
                  intro j hj h
                  by_cases hjk : j < k
                  · exact hno j hjk h
                  · obtain rfl : j = k := by omega
                    rw [g0, g1] at h
                    exact hend ⟨by simpa using h.1, by simpa using h.2⟩
                have HN := Lib.hid hno2
                have hx2 : (x == 13) = false ∨ ((x == 13) = true ∧ (y == 10) = false) := by
                  cases h1 : x == 13
                  · exact .inl rfl
                  · refine .inr ⟨rfl, ?_⟩
                    cases h2 : y == 10
                    · rfl
                    · exact absurd ⟨by simpa using h1, by simpa using h2⟩ hend
                clear hend g0 g1 hno hno2
                rcases hx2 with h | ⟨h, h'⟩
                · rw [h] at e13
                  clear h e10
                  go_wp2_with fail
                  go_roundg gq
                  case measure => omega
                  case rel => exact ⟨k + 1, by omega, by omega, by go_num, HN.out, rfl⟩
                · rw [h] at e13
                  rw [h'] at e10
                  clear h h'
                  go_wp2_with fail
                  go_roundg gq
                  case measure => omega
                  case rel => exact ⟨k + 1, by omega, by omega, by go_num, HN.out, rfl⟩
            · have hNE : NoEnd bd.data.toList := by
                intro j h
                have h2 : j + 1 < bd.data.toList.length := (List.getElem?_eq_some_iff.1 h.2).1
                exact hno j (by omega) h
              have hbo : bytesOf [bd, ⟨#[13, 10]⟩] = bd.data.toList ++ [13, 10] := by simp [bytesOf]
              have hcts := goes_cuts hNE
              have hways := line_ways most bd.data.toList
              rw [hlen] at hways
              clear hno hNE
              have hkz : ¬ ((k : Int) + 1 < (bd.size : Int)) := by omega
              have hkz2 : decide (((k : Int) + 1) < (bd.size : Int)) = false := decide_eq_false hkz
              clear hkz hlt
              go_wp2_with fail
              have hb5 := Blk.new w4 #[.string bd, .string ⟨#[13, 10]⟩] 9
              have u5 : Upd w4 (w4.alloc (.cells #[.string bd, .string ⟨#[13, 10]⟩] 9)) Nope := (Upd.refl w4 Nope).alloc _
              have hca5 := HA.out.upd u5 id (fun _ _ => id)
              have hcb5 := HB.out.upd u5 id (fun _ _ => id)
              have hu5 := hu4'.nn u5
              have hne5 : w4.heap.size ≠ ga := by omega
              clear u5 hu4' HA HB hgal4
              generalize w4.heap.size = b5 at hb5 hne5 ⊢
              generalize w4.alloc (.cells #[.string bd, .string ⟨#[13, 10]⟩] 9) = w5 at hb5 hca5 hcb5 hu5 ⊢
              refine (feed_new (cap := 2) (l := [bd, ⟨#[13, 10]⟩]) hca5 hu5 hga' hm2 hmm (by decide) (by decide) (fun W k => rd1_blk (hb5.upd k (by simp [Value.ownBlock]; exact hne5)) rfl) (by simp) (by rw [hbo]; simp; omega)).mono ?_
              rintro e w6 ⟨v6, vo6, rfl, hca6, ho6, u6, hv6, -, hu6⟩
              rw [hbo, hcts] at hca6 ho6
              have hcb6 := hcb5.upd u6 (fun h => by rcases h with h | h; exact hab h; simp [Value.ownBlock] at h) (fun _ h => by simp [Value.ownBlock] at h)
              simp only [List.map_cons, List.map_nil, List.length_cons, List.length_nil, Nat.zero_add] at ho6 hca6 ⊢
              obtain ⟨Ax, cx, rfl, hxl, -, hx⟩ := lrow ho6
              obtain ⟨q, rfl, k0, k1⟩ := hx 0 (by simp)
              simp only [List.getElem_cons_zero, Nat.zero_mul, Nat.zero_add] at k0 k1
              clear hx ho6 hcts hbo hca5 hcb5 hu5 u6 hb5 hxl
              have HCA := Lib.hid hca6
              have HCB := Lib.hid hcb6
              clear hca6 hcb6
              go_wp2_with fail
              refine (pending_any HCA.out).mono ?_
              rintro e w7 ⟨rfl, hw7⟩
              obtain rfl : w6 = w7 := hw7.symm
              have hbd : (⟨bd.data.toList.toArray⟩ : ByteArray) = bd := by apply ByteArray.ext; simp
              rcases hways with ⟨hw, e⟩ | ⟨hw, e⟩ | ⟨hw, e⟩
              all_goals try (exfalso; omega)
              all_goals
                rw [e] at k0 k1
                first | rw [hbd] at k0 | skip
                first | (have hdd : decide ((most : Int) < (bd.size : Int) + 2) = true := (by simp; omega)) | (have hdd : decide ((most : Int) < (bd.size : Int) + 2) = false := (by simp; omega))
                clear e hw
                have hbb : (bd.toList == bd.toList) = true := by simp
                go_wp2_with fail
                refine (feed_arg HCA.out hu6 hga' hm2 hmm (by decide) (by decide) rd (by omega) (by rw [bytesOf_len]; omega)).mono ?_
                rintro e w8 ⟨v8, vo8, rfl, hca8, ho8, u8, -, -, hu8⟩
                have hcb8 := HCB.out.upd u8 (fun h => by rcases h with h | h; exact hab h; exact own_ne HCA.out.own HCB.out.blk (by decide) _ h rfl) (fun _ h => by simp [Value.ownBlock] at h)
                clear u8 k0 k1
                go_wp2_with fail
                refine (feed_arg hcb8 hu8 hgb' hm2 hmm (by decide) (by decide) rd (by omega) (by rw [bytesOf_len]; omega)).mono ?_
                rintro e w9 ⟨v9, vo9, rfl, hcb9, ho9, u9, -, -, hu9⟩
                have hca9 := hca8.upd u9 (fun h => by rcases h with h | h; exact hab h.symm; simp [Value.ownBlock] at h) (fun i hi h => by rcases h with h | h; exact own_ne hca8.own hcb8.blk (by decide) i hi h; simp [Value.ownBlock] at h)
                have hoo9 := own_upd ho8 u9 (fun i hi h => by rcases h with h | h; exact own_ne ho8 hcb8.blk (by decide) i hi h; simp [Value.ownBlock] at h)
                obtain ⟨Ay, cy, rfl, hyl, hyc, hy⟩ := lrow hoo9
                obtain ⟨Az, cz, rfl, hzl, hzc, hz9⟩ := lrow ho9
                have hnl : ((cuts [] (bytesOf l)).1.map (lineOf most)).length ≤ 20000 := by
                  rw [List.length_map]
                  have := cuts_count (bytesOf l) []
                  rw [bytesOf_len] at this
                  omega
                have hpl : (cuts [] (bytesOf l)).2.length ≤ 400000 := by
                  have := cuts_len (bytesOf l) []
                  rw [bytesOf_len] at this
                  simp at this
                  omega
                clear ho8 ho9 hoo9 hcb8 hca8 u9 hu8 hu6 HCA HCB
                have hca9 := Lib.hid hca9
                have hcb9 := Lib.hid hcb9
                have HY := Lib.hid hy
                have HZ := Lib.hid hz9
                clear hy hz9 hyl hzl
                generalize (cuts [] (bytesOf l)).1.map (lineOf most) = ls at HY HZ hyc hzc hnl ⊢
                go_wp2_with fail
                go_loopg [15] (ls.length + 1) (fun gk i wx => ∃ k : Nat, k ≤ ls.length ∧ ls.length < k + gk ∧ i = .int .i64 k ∧ Drew w9 wx)
                case atStart => exact ⟨0, by omega, by omega, rfl, Drew.refl _⟩
                case round =>
                  clear hkg hk
                  obtain ⟨k2, hk, hkg, rfl, hd⟩ := hrel
                  by_cases hlt : k2 < ls.length
                  · obtain ⟨gq, rfl⟩ : ∃ gq, gk = gq + 1 := ⟨gk - 1, by omega⟩
                    obtain ⟨qy, rfl, y0, y1⟩ := HY.out k2 hlt
                    obtain ⟨qz, rfl, zz0, zz1⟩ := HZ.out k2 hlt
                    have y0' := (hd.cell _).trans y0
                    have y1' := (hd.cell _).trans y1
                    have z0' := (hd.cell _).trans zz0
                    have z1' := (hd.cell _).trans zz1
                    generalize (⟨(ls[k2]).1.toArray⟩ : ByteArray) = tt at y0' z0'
                    generalize ((ls[k2]).2 : Int) = cc at y1' z1'
                    clear y0 y1 zz0 zz1
                    go_wp2_with fail
                    go_quiet (fail)
                    go_wp2_with fail
                    go_roundg gq
                    case measure => omega
                    case rel => exact ⟨k2 + 1, by omega, by omega, by go_num, hd.step _⟩
                  · have u10 := hd.upd Nope
                    have ha10 := hca9.out.upd u10 id (fun _ _ => id)
                    have hb10 := hcb9.out.upd u10 id (fun _ _ => id)
                    have hu10 := hu9.nn u10
                    obtain rfl : k2 = ls.length := by omega
                    clear hca9 hcb9 u10 hu9 hd HY HZ
                    generalize (cuts [] (bytesOf l)).2 = cu at ha10 hb10 hpl
                    have HA10 := Lib.hid ha10
                    have HB10 := Lib.hid hb10
                    clear ha10 hb10
                    go_wp2_with fail
                    refine (pending_any HA10.out).mono ?_
                    rintro e w11 ⟨rfl, hw11⟩
                    obtain rfl : wr = w11 := hw11.symm
                    go_wp2_with fail
                    refine (pending_any HB10.out).mono ?_
                    rintro e w12 ⟨rfl, hw12⟩
                    obtain rfl : wr = w12 := hw12.symm
                    go_wp2_with fail
                    go_ret
                    exact ⟨ret_eq (by first | rfl | simp), hu10.below (fun _ h => h.elim)⟩
        · rw [hxl] at e13l
          clear hxl
          go_enter Try.func7, Try.ntmps7
          go_wp2_with fail
          refine (awake_any w m hm).mono ?_
          rintro e w1 ⟨rfl, hu1⟩
          have rd1 := rd.upd hu1 (fun _ h => h.elim)
          go_wp2_with fail
          refine (few_any A cap l w1 rd1 (by omega) ok).mono ?_
          rintro e w2 ⟨rfl, rfl⟩
          simp only [c1, and_self, decide_true]
          go_wp2_with fail
          go_ret
          exact ⟨rfl, hu1.below (fun _ h => h.elim)⟩
  · go_enter Try.func7, Try.ntmps7
    go_wp2_with fail
    refine (awake_any w m hm).mono ?_
    rintro e w1 ⟨rfl, hu1⟩
    go_wp2_with fail
    refine (few_any A cap l w1 (rd.upd hu1 (fun _ h => h.elim)) (by omega) ok).mono ?_
    rintro e w2 ⟨rfl, rfl⟩
    rw [decide_eq_false c1]
    go_wp2
    go_ret
    exact ⟨rfl, hu1.below (fun _ h => h.elim)⟩
end Go.Proofs.Ytomfblnflobonaa
