/- The reference's Lines; told. -/
import Derived.Test.YtomfblnflobonaaRefc
import Derived.Test.YtomfblnflobonaaLoop
import Derived.Deep.Cut
set_option linter.unusedVariables false
set_option linter.unusedSimpArgs false
namespace Go.Proofs.Ytomfblnflobonaa
open Go.RowKit

theorem infoR : (Try.prog.info? 59).map (fun i => (i.zero, i.size, i.bytes)) = some (some (.agg #[.string ByteArray.empty, .int .i64 0]), 2, 24) := by kernel_rfl
/-- One line of the reference's more. -/
theorem app_ref {W : World} {B n : Nat} {v : Value} {xs : List (List UInt8 × Nat)} (hown : W.ownsRow B 59 2 v n (lcells xs)) (t : ByteArray) (c : Nat) (hB : B ≤ W.heap.size) (hn : n ≤ 1000000) :
    ∃ v' w', (Builtin.append_ #[31, 31] 31 #[v, .slice (some ⟨W.heap.size, 0, none⟩) 1 1]).run Try.prog (W.alloc (.cells #[.string t, .int .i64 (c : Int)] 59)) = .ok v' w' ∧ w'.ownsRow B 59 2 v' (n + 1) (lcells (xs ++ [(t.data.toList, c)])) ∧
      Upd W w' (fun k => v.ownBlock = some k) ∧ ∀ k, v'.ownBlock = some k → v.ownBlock = some k ∨ W.heap.size ≤ k := by
  obtain ⟨i1, hi, hz0, hz1, hz2⟩ := info_parts infoR
  have hnews := World.news_of_block (heap_alloc_new W (.cells #[.string t, .int .i64 (c : Int)] 59))
  obtain ⟨v', w', h1, h2, h3, _, h5⟩ := run_append_own_at (P := Try.prog) (W.alloc (.cells #[.string t, .int .i64 (c : Int)] 59)) B 31 31 59 i1 (.agg #[.string ByteArray.empty, .int .i64 0]) 2 24 Try.underlying31 hi hz0 hz1 hz2 rfl (by omega) v n (lcells xs) (hown.alloc _) ⟨W.heap.size, 0, none⟩ 1 1 [.string t, .int .i64 (c : Int)] (by simp) hnews (by simp [Value.oneCell']) (by unfold maxLen; omega) (by omega) (by simp; omega)
  have et : (⟨t.data.toList.toArray⟩ : ByteArray) = t := by apply ByteArray.ext; simp
  refine ⟨v', w', h1, by rw [lcells_snoc, et]; exact h2, ((Upd.refl W _).alloc _).grown h3 (fun k e => .inl e), fun k hk => ?_⟩
  rcases h5 with e | e
  · exact .inl (by rw [← e]; exact hk)
  · rw [e] at hk
    injection hk with hk
    right
    simp at hk
    omega

theorem own_base {w : World} {B B' e n size : Nat} {v : Value} {xs : List Value} (h : w.ownsRow B e size v n xs) (hb : B' ≤ B) : w.ownsRow B' e size v n xs := by
  refine ⟨h.1, ?_⟩
  rcases h.2 with hn | ⟨q, cap, cur, rfl, hbq, rest⟩
  · exact .inl hn
  · exact .inr ⟨q, cap, cur, rfl, Nat.le_trans hb hbq, rest⟩
theorem line_body {s : List UInt8} {x : List UInt8} (hx : x ∈ (cuts [] s).1) (most : Nat) :
    (most < (body x).length + 2 ∧ lineOf most x = ([], 3)) ∨ (¬ most < (body x).length + 2 ∧ plainL (body x) = true ∧ lineOf most x = (body x, 0)) ∨ (¬ most < (body x).length + 2 ∧ plainL (body x) = false ∧ lineOf most x = ([], 2)) := by
  have e := cuts_ends s x hx
  have hl : x.length = (body x).length + 2 := by conv => lhs; rw [e]; simp
  unfold lineOf
  rw [hl]
  by_cases h : most < (body x).length + 2
  · exact .inl ⟨h, by rw [if_pos h]⟩
  · rw [if_neg h]
    cases hp : plainL (body x)
    · exact .inr (.inr ⟨h, rfl, by simp⟩)
    · exact .inr (.inl ⟨h, rfl, by simp⟩)

def LinesPost (w : World) (most : Nat) (s : List UInt8) (e : Ending) (w' : World) : Prop :=
  ∃ v, e = .returned (.tuple #[v, .int .i64 ((cuts [] s).2.length : Int)]) ∧ w'.ownsRow w.heap.size 59 2 v ((cuts [] s).1.map (lineOf most)).length (lcells ((cuts [] s).1.map (lineOf most))) ∧ Upd w w' Nope

set_option maxHeartbeats 4000000 in
theorem reflines_any (most : Nat) (hmm : most ≤ 65536) (s : ByteArray) (w : World) (hs : s.size ≤ 100000) : Calls Try.prog 12 #[.int .i64 (most : Int), .string s] w (LinesPost w most s.data.toList) := by
  have hlen : s.data.toList.length = s.size := by simp
  go_enter Try.func12, Try.ntmps12
  go_wp2_with fail
  refine (refcut_any s w hs).mono ?_
  rintro e w1 ⟨vl, rfl, hl1, hu1⟩
  obtain ⟨A, cp, rfl, hle, hrd, -, -⟩ := rd1_of_owns hl1
  have hbz : (bodies s.data.toList).length ≤ 100000 := by
    unfold bodies
    rw [List.length_map]
    have := cuts_count s.data.toList []
    omega
  have hrest : (⟨(cuts [] s.data.toList).2.toArray⟩ : ByteArray).size = (cuts [] s.data.toList).2.length := by simp [ByteArray.size]
  have hrl : (cuts [] s.data.toList).2.length ≤ 100000 := by
    have := cuts_len s.data.toList []
    simp at this
    omega
  have HR := Lib.hid hrest
  clear hl1 hle hrest
  generalize (⟨(cuts [] s.data.toList).2.toArray⟩ : ByteArray) = rb at HR ⊢
  go_wp2_with fail
  go_loopg [8, 9] ((bodies s.data.toList).length + 1) (fun gk out i wx => ∃ (k : Nat), k ≤ (bodies s.data.toList).length ∧ (bodies s.data.toList).length < k + gk ∧ i = .int .i64 k ∧ wx.ownsRow w1.heap.size 59 2 out k (lcells (((cuts [] s.data.toList).1.take k).map (lineOf most))) ∧ Upd w1 wx Nope)
  case atStart => exact ⟨0, by omega, by omega, rfl, by simpa [lcells] using World.ownsRow_nil _ _ _ _, Upd.refl _ _⟩
  case round =>
    obtain ⟨k, hk, hkg, rfl, hown, hu⟩ := hrel
    by_cases hlt : k < (bodies s.data.toList).length
    · obtain ⟨gq, rfl⟩ : ∃ gq, gk = gq + 1 := ⟨gk - 1, by omega⟩
      have hlt2 : k < (cuts [] s.data.toList).1.length := by unfold bodies at hlt; rw [List.length_map] at hlt; exact hlt
      obtain ⟨ad, rfl, hcell⟩ := (hrd.upd hu (fun _ h => h.elim)) k hlt
      have hts : ((cuts [] s.data.toList).1.take (k + 1)).map (lineOf most) = ((cuts [] s.data.toList).1.take k).map (lineOf most) ++ [lineOf most ((cuts [] s.data.toList).1[k]'hlt2)] := by
        rw [List.take_succ_eq_append_getElem hlt2, List.map_append]
        rfl
      have hways := line_body (List.getElem_mem hlt2) most
      have hbe : (bodies s.data.toList)[k]'hlt = ⟨(body ((cuts [] s.data.toList).1[k]'hlt2)).toArray⟩ := by simp only [bodies, List.getElem_map]
      rw [hbe] at hcell
      have hxl : ((cuts [] s.data.toList).1[k]'hlt2).length ≤ 100000 := by
        have h1 := cuts_flat s.data.toList []
        have h2 := congrArg List.length h1
        have h3 : ((cuts [] s.data.toList).1[k]'hlt2).length ≤ (cuts [] s.data.toList).1.flatten.length := (List.sublist_flatten_of_mem (List.getElem_mem hlt2)).length_le
        simp at h2 h3
        omega
      generalize (cuts [] s.data.toList).1[k]'hlt2 = x at hcell hts hways hxl
      have hbx : (body x).length ≤ 100000 := by unfold body; rw [List.length_take]; omega
      obtain ⟨tb, htb⟩ : ∃ tb : ByteArray, tb = ⟨(body x).toArray⟩ := ⟨_, rfl⟩
      have htb1 : tb.data.toList = body x := by rw [htb]
      have htbs : tb.size = (body x).length := by rw [htb]; simp [ByteArray.size]
      rw [← htb] at hcell
      rw [← htbs] at hways hbx
      have hws := hu1.size
      have hwx := hu.size
      have ua : Upd wr (wr.alloc (.cells #[.string tb, .int .i64 0] 59)) Nope := (Upd.refl wr Nope).alloc _
      have hcell1 := ua.cell hcell id
      have hxs : (((cuts [] s.data.toList).1.take k).map (lineOf most)).length = k := by
        rw [List.length_map, List.length_take]
        unfold bodies at hlt
        rw [List.length_map] at hlt
        omega
      clear htb hbe hxl hlt2
      rcases hways with ⟨hw, he⟩ | ⟨hw, hp, he⟩ | ⟨hw, hp, he⟩
      · have hd : decide ((most : Int) < (tb.size : Int) + 2) = true := by simp; omega
        rw [he] at hts
        have HT := Lib.hid hts
        clear he hts hw htb1 htbs
        have ua0 : Upd wr (wr.alloc (.cells #[.string ⟨#[]⟩, .int .i64 3] 59)) Nope := (Upd.refl wr Nope).alloc _
        obtain ⟨v', w2, hap, hown2, hu2, hl2⟩ := app_ref ((hown.alloc (.cells #[.string ⟨#[]⟩, .int .i64 3] 59))) ⟨#[]⟩ 3 (by simp; omega) (by omega)
        rw [show (wr.alloc (.cells #[.string ⟨#[]⟩, .int .i64 3] 59)).heap.size = wr.heap.size + 1 by simp] at hap hl2
        go_wp2_with (first | (at_builtin; refine wpList_append_eq _ _ rfl rfl hap rfl rfl rfl ?_) | fail)
        go_roundg gq
        case measure => omega
        case rel => exact ⟨k + 1, by omega, by omega, by go_num, by rw [HT.out]; exact hown2, (hu.nn ua0).trans hu2 (fun _ _ h => h) (fun i hi h => by have := (hown.lt i h).1; omega)⟩
      · have hd : decide ((most : Int) < (tb.size : Int) + 2) = false := by simp; omega
        rw [he, ← htb1] at hts
        have HT := Lib.hid hts
        have hP := fun w => refplain_any tb w (by omega)
        rw [htb1, hp] at hP
        have HP := Lib.hid hP
        clear he hts hw htb1 htbs hp hP
        have hb0 := Blk.new wr #[.string tb, .int .i64 0] 59
        have hown0 := hown.alloc (.cells #[.string tb, .int .i64 0] 59)
        have hua := hu.nn ua
        go_wp2_with fail
        refine (HP.out _).mono ?_
        rintro e w2 ⟨rfl, hu2⟩
        have hb2 := hb0.upd hu2 id
        have hown2 := own_upd hown0 hu2 (fun _ _ => id)
        have hua2 := hua.nn hu2
        have zz := hu2.size
        clear hb0 hown0 hua hu2 ua hcell hcell1 hu
        have q0 : w2.cell? ⟨wr.heap.size, 0, none⟩ = some (.string tb) := (hb2.cell 0).trans rfl
        have q1 : w2.cell? ⟨wr.heap.size, 1, none⟩ = some (.int .i64 0) := (hb2.cell 1).trans rfl
        have zz2 : w1.heap.size ≤ w2.heap.size := hua2.size
        obtain ⟨v', w3, hap, hown3, hu3, hl3⟩ := app_ref hown2 tb 0 (by omega) (by omega)
        go_wp2_with (first | (at_builtin; refine wpList_append_eq _ _ rfl rfl hap rfl rfl rfl ?_) | fail)
        go_roundg gq
        case measure => omega
        case rel => exact ⟨k + 1, by omega, by omega, by go_num, by rw [HT.out]; exact hown3, hua2.trans hu3 (fun _ _ h => h) (fun i hi h => by have := (hown2.lt i h).1; omega)⟩
      · have hd : decide ((most : Int) < (tb.size : Int) + 2) = false := by simp; omega
        rw [he] at hts
        have HT := Lib.hid hts
        have hP := fun w => refplain_any tb w (by omega)
        rw [htb1, hp] at hP
        have HP := Lib.hid hP
        clear he hts hw htb1 htbs hp hP
        have hb0 := Blk.new wr #[.string tb, .int .i64 0] 59
        have hown0 := hown.alloc (.cells #[.string tb, .int .i64 0] 59)
        have hua := hu.nn ua
        go_wp2_with fail
        refine (HP.out _).mono ?_
        rintro e w2 ⟨rfl, hu2⟩
        have hb2 := hb0.upd hu2 id
        have hown2 := own_upd hown0 hu2 (fun _ _ => id)
        have hua2 := hua.nn hu2
        have zz := hu2.size
        clear hb0 hown0 hua hu2 ua hcell hcell1 hu
        have q0 : w2.cell? ⟨wr.heap.size, 0, none⟩ = some (.string tb) := (hb2.cell 0).trans rfl
        have q1 : w2.cell? ⟨wr.heap.size, 1, none⟩ = some (.int .i64 0) := (hb2.cell 1).trans rfl
        have qf0 := hb2.frozen 0
        have qf1 := hb2.frozen 1
        have zz2 : w1.heap.size ≤ w2.heap.size := hua2.size
        go_upto_region 11 with fail
        have hb3 : Blk ((w2.setCell ⟨wr.heap.size, 0, none⟩ (.string ⟨#[]⟩)).setCell ⟨wr.heap.size, 1, none⟩ (.int .i64 2)) wr.heap.size #[.string ⟨#[]⟩, .int .i64 2] 59 := by simpa using (hb2.set 0 (.string ⟨#[]⟩)).set 1 (.int .i64 2)
        have us : Upd w2 ((w2.setCell ⟨wr.heap.size, 0, none⟩ (.string ⟨#[]⟩)).setCell ⟨wr.heap.size, 1, none⟩ (.int .i64 2)) (· = wr.heap.size) := ((Upd.refl w2 (· = wr.heap.size)).set ⟨wr.heap.size, 0, none⟩ (.string ⟨#[]⟩) (.inl rfl)).set ⟨wr.heap.size, 1, none⟩ (.int .i64 2) (.inl rfl)
        have hown3 := own_upd hown2 us (fun i hi h => by have := (hown.lt i hi).2; omega)
        have hua3 := hua2.trans us (fun _ _ h => h) (fun i hi h => by omega)
        have zz3 := us.size
        clear hb2 hown2 hua2 us q0 q1 qf0 qf1
        generalize (w2.setCell ⟨wr.heap.size, 0, none⟩ (.string ⟨#[]⟩)).setCell ⟨wr.heap.size, 1, none⟩ (.int .i64 2) = w3 at hb3 hown3 hua3 zz3 ⊢
        have q0 : w3.cell? ⟨wr.heap.size, 0, none⟩ = some (.string ⟨#[]⟩) := (hb3.cell 0).trans rfl
        have q1 : w3.cell? ⟨wr.heap.size, 1, none⟩ = some (.int .i64 2) := (hb3.cell 1).trans rfl
        obtain ⟨v', w4, hap, hown4, hu4, hl4⟩ := app_ref hown3 ⟨#[]⟩ 2 (by omega) (by omega)
        go_wp2_with (first | (at_builtin; refine wpList_append_eq _ _ rfl rfl hap rfl rfl rfl ?_) | fail)
        go_roundg gq
        case measure => omega
        case rel => exact ⟨k + 1, by omega, by omega, by go_num, by rw [HT.out]; exact hown4, hua3.trans hu4 (fun _ _ h => h) (fun i hi h => by have := (hown3.lt i h).1; omega)⟩
    · obtain rfl : k = (bodies s.data.toList).length := by omega
      have hbe2 : (bodies s.data.toList).length = (cuts [] s.data.toList).1.length := by unfold bodies; rw [List.length_map]
      have et : (cuts [] s.data.toList).1.take (bodies s.data.toList).length = (cuts [] s.data.toList).1 := List.take_of_length_le (by omega)
      rw [et] at hown
      have hrbz := HR.out
      have hrbz2 : rb.size ≤ 100000 := by omega
      have HU := hu1.nn hu
      have hb5 := hu1.size
      have HO := Lib.hid (own_base hown hb5)
      clear hown et hrbz
      go_wp2_with fail
      go_ret2
      exact ⟨u8, ret_eq (by show Value.tuple #[u8, .int .i64 (rb.size : Int)] = _; rw [HR.out]), by rw [List.length_map, ← hbe2]; exact HO.out, HU⟩

/-- A row of the reference's lines, read as it lies. -/
theorem lrow59 {w : World} {B n : Nat} {v : Value} {xs : List (List UInt8 × Nat)} (h : w.ownsRow B 59 2 v n (lcells xs)) :
    ∃ A cap, v = .slice A n cap ∧ n = xs.length ∧ n ≤ cap ∧ ∀ i (hi : i < xs.length), ∃ q, A = some ⟨q, 0, none⟩ ∧ w.cell? ⟨q, i * 2, none⟩ = some (.string ⟨(xs[i]'hi).1.toArray⟩) ∧ w.cell? ⟨q, i * 2 + 1, none⟩ = some (.int .i64 ((xs[i]'hi).2 : Int)) := by
  have hlen := h.1
  have hl : (lcells xs).length = xs.length * 2 := by
    clear h hlen
    induction xs with
    | nil => rfl
    | cons x xs ih => simp [lcells] at ih ⊢; omega
  have hn : n = xs.length := by omega
  have hget : ∀ i (hi : i < xs.length), (lcells xs)[i * 2]? = some (.string ⟨(xs[i]'hi).1.toArray⟩) ∧ (lcells xs)[i * 2 + 1]? = some (.int .i64 ((xs[i]'hi).2 : Int)) := by
    clear h hlen hl hn
    induction xs with
    | nil => intro i hi; simp at hi
    | cons x xs ih =>
      intro i hi
      have e : lcells (x :: xs) = .string ⟨x.1.toArray⟩ :: .int .i64 (x.2 : Int) :: lcells xs := by simp [lcells]
      cases i with
      | zero => rw [e]; exact ⟨rfl, rfl⟩
      | succ i =>
        rw [e, show (i + 1) * 2 = i * 2 + 1 + 1 by omega, show i * 2 + 1 + 1 + 1 = (i * 2 + 1) + 1 + 1 by omega]
        simpa using ih i (by simpa using hi)
  rcases h.2 with ⟨rfl, h0⟩ | ⟨q, cap, cur, rfl, hB, hq, hnc, rest⟩
  · exact ⟨none, 0, by rw [h0], hn, by omega, fun i hi => by omega⟩
  · refine ⟨_, cap, rfl, hn, hnc, fun i hi => ⟨q, rfl, ?_, ?_⟩⟩
    · rw [h.cellAt (i * 2) (by omega)]
      exact (hget i hi).1
    · rw [h.cellAt (i * 2 + 1) (by omega)]
      exact (hget i hi).2


/-- told, of rows that are alike. -/
theorem told_any {w : World} {B B' n n' : Nat} {v v' : Value} {ls : List (List UInt8 × Nat)} (hx : w.ownsRow B 49 2 v n (lcells ls)) (hy : w.ownsRow B' 59 2 v' n' (lcells ls)) (hn : ls.length ≤ 1000000) :
    Calls Try.prog 13 #[v, v'] w fun e w' => e = .returned (.bool true) ∧ Drew w w' := by
  have hy2 : ∃ A cap, v' = .slice A n' cap ∧ n' = ls.length ∧ n' ≤ cap ∧ ∀ i (hi : i < ls.length), ∃ q, A = some ⟨q, 0, none⟩ ∧ w.cell? ⟨q, i * 2, none⟩ = some (.string ⟨(ls[i]'hi).1.toArray⟩) ∧ w.cell? ⟨q, i * 2 + 1, none⟩ = some (.int .i64 ((ls[i]'hi).2 : Int)) := lrow59 hy
  obtain ⟨Ax, cx, rfl, hxl, hxc, hx2⟩ := lrow hx
  obtain ⟨Ay, cy, rfl, hyl, hyc, hy3⟩ := hy2
  subst hxl hyl
  have HX := Lib.hid hx2
  have HY := Lib.hid hy3
  clear hx hy hx2 hy3
  go_enter Try.func13, Try.ntmps13
  go_wp2_with fail
  go_loopg [5] (ls.length + 1) (fun gk i wx => ∃ k : Nat, k ≤ ls.length ∧ ls.length < k + gk ∧ i = .int .i64 k ∧ Drew w wx)
  case atStart => exact ⟨0, by omega, by omega, rfl, Drew.refl _⟩
  case round =>
    obtain ⟨k3, hk, hkg, rfl, hd⟩ := hrel
    by_cases hlt3 : k3 < ls.length
    · obtain ⟨gq, rfl⟩ : ∃ gq, gk = gq + 1 := ⟨gk - 1, by omega⟩
      obtain ⟨qx, rfl, x0, x1⟩ := HX.out k3 hlt3
      obtain ⟨qy, rfl, y0, y1⟩ := HY.out k3 hlt3
      have x0' := (hd.cell _).trans x0
      have x1' := (hd.cell _).trans x1
      have y0' := (hd.cell _).trans y0
      have y1' := (hd.cell _).trans y1
      generalize (⟨(ls[k3]).1.toArray⟩ : ByteArray) = tt at x0' y0'
      generalize ((ls[k3]).2 : Int) = cc at x1' y1'
      clear x0 x1 y0 y1
      go_wp2_with fail
      go_quiet (fail)
      go_wp2_with fail
      go_roundg gq
      case measure => omega
      case rel => exact ⟨k3 + 1, by omega, by omega, by go_num, hd.step _⟩
    · obtain rfl : k3 = ls.length := by omega
      go_wp2_with fail
      go_ret
      exact ⟨ret_eq (by first | rfl | simp), hd⟩
end Go.Proofs.Ytomfblnflobonaa
