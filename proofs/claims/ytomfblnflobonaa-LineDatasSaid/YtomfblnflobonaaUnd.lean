/- Undata. -/
import Derived.Test.YtomfblnflobonaaData
set_option linter.unusedVariables false
set_option linter.unusedSimpArgs false
namespace Go.Proofs.Ytomfblnflobonaa
open Go.RowKit

theorem infoS : (Try.prog.info? 9).map (fun i => (i.zero, i.size, i.bytes)) = some (some (.string ByteArray.empty), 1, 16) := by kernel_rfl
/-- One string more, behind a row of the call's own. -/
theorem app1 {W : World} {B n : Nat} {v : Value} {xs : List ByteArray} (hown : W.ownsRow B 9 1 v n (xs.map Value.string)) (r : ByteArray) (hB : B ≤ W.heap.size) (hn : n ≤ 1000000) :
    ∃ v' w', (Builtin.append_ #[22, 22] 22 #[v, .slice (some ⟨W.heap.size, 0, none⟩) 1 1]).run Try.prog (W.alloc (.cells #[.string r] 9)) = .ok v' w' ∧ w'.ownsRow B 9 1 v' (n + 1) ((xs ++ [r]).map Value.string) ∧
      Upd W w' (fun k => v.ownBlock = some k) ∧ ∀ k, v'.ownBlock = some k → v.ownBlock = some k ∨ W.heap.size ≤ k := by
  obtain ⟨i0, hi, hz0, hz1, hz2⟩ := info_parts infoS
  have hr : Rd1 Value.string (W.alloc (.cells #[.string r] 9)) (some ⟨W.heap.size, 0, none⟩) [r] := by
    intro i hi
    obtain rfl : i = 0 := by simp at hi; omega
    exact ⟨_, rfl, by simpa using (World.news_of_block (heap_alloc_new W (.cells #[.string r] 9))) 0 (.string r) rfl⟩
  obtain ⟨v', w', h1, h2, h3, h4⟩ := append_row (P := Try.prog) B 22 Try.underlying22 hi hz0 hz1 hz2 rfl (fun _ => by simp [Value.oneCell']) (hown.alloc (.cells #[.string r] 9)) (c := 1) hr (by intro h; cases h) (by unfold maxLen; simp; omega) (by simp; omega) (by simp; omega)
  refine ⟨v', w', h1, h2, ((Upd.refl W _).alloc _).grown h3 (fun k e => .inl e), fun k hk => ?_⟩
  rcases h4 with e | e
  · exact .inl (by rw [← e]; exact hk)
  · rw [e] at hk
    injection hk with hk
    right
    simp at hk
    omega

theorem ahead_append {h : List (List UInt8)} (hh : ∀ x ∈ h, body x ≠ [46]) (m : List (List UInt8)) : ahead (h ++ m) = (ahead m).map (h ++ ·) := by
  induction h with
  | nil => simp
  | cons x h ih =>
    have h1 := hh x (by simp)
    simp only [List.cons_append, ahead, if_neg h1]
    rw [ih (fun y hy => hh y (by simp [hy]))]
    cases ahead m <;> simp
theorem trim_undot (t : List UInt8) : Lib.trimPrefix t [46] = undot t := by
  unfold Lib.trimPrefix undot
  rw [has_dot]
  by_cases h : t.head? = some 46
  · simp [h]
  · simp [h]
def wrongs (h : List (List UInt8)) : Bool := h.any (fun x => !plainL (body x))
def wides (h : List (List UInt8)) : Bool := h.any (fun x => decide (999 < (body x).length))
theorem wrongs_snoc (h : List (List UInt8)) (x : List UInt8) : wrongs (h ++ [x]) = (wrongs h || !plainL (body x)) := by simp [wrongs]
theorem wides_snoc (h : List (List UInt8)) (x : List UInt8) : wides (h ++ [x]) = (wides h || decide (999 < (body x).length)) := by simp [wides]
theorem all_wrongs (h : List (List UInt8)) : h.all (fun x => plainL (body x)) = !wrongs h := by
  unfold wrongs
  induction h with
  | nil => rfl
  | cons x h ih => simp only [List.all_cons, List.any_cons, ih]; cases plainL (body x) <;> simp
/-- The texts that are read of lines. -/
def reads (h : List (List UInt8)) : List ByteArray := h.map fun x => ⟨(undot (body x)).toArray⟩
theorem reads_snoc (h : List (List UInt8)) (x : List UInt8) : reads (h ++ [x]) = reads h ++ [⟨(undot (body x)).toArray⟩] := by simp [reads]
def strs (l : List (List UInt8)) : List ByteArray := l.map fun x => ⟨x.toArray⟩
theorem strs_reads (h : List (List UInt8)) : strs (h.map fun x => undot (body x)) = reads h := by simp [strs, reads]

/-- What is known of Undata when some lines were read. -/
structure Und (s : List UInt8) (h : List (List UInt8)) (r : List UInt8) : Prop where
  cat : s = h.flatten ++ r
  cut : (cuts [] s).1 = h ++ (cuts [] r).1
  non : ∀ x ∈ h, body x ≠ [46]
theorem Und.none {s : List UInt8} {h : List (List UInt8)} {r : List UInt8} (k : Und s h r) (hr : (cuts [] r).1 = []) : undata s = ([], [], 12) := by
  unfold undata
  rw [k.cut, ahead_append k.non, hr]
  simp [ahead]
theorem Und.dot {s : List UInt8} {h : List (List UInt8)} {r x r' : List UInt8} {m : List (List UInt8)} (k : Und s h r) (hr : (cuts [] r).1 = x :: m) (hx : body x = [46]) (hxe : x = body x ++ [13, 10]) (hrr : r = x ++ r') :
    undata s = if wrongs h then ([], [], 2) else if wides h then ([], [], 3) else (h.map fun x => undot (body x), r', 0) := by
  unfold undata
  rw [k.cut, ahead_append k.non, hr]
  simp only [ahead, hx, if_true, Option.map_some, List.append_nil]
  rw [all_wrongs]
  have hd : s.drop (h.flatten.length + 3) = r' := by
    rw [k.cat, hrr, hxe, hx]
    simp [List.drop_append]
  rw [hd]
  cases wrongs h
  · simp [wides]
  · simp
theorem Und.next {s : List UInt8} {h : List (List UInt8)} {r x r' : List UInt8} {m : List (List UInt8)} (k : Und s h r) (hr : (cuts [] r).1 = x :: m) (hx : body x ≠ [46]) (hrr : r = x ++ r') (hm : (cuts [] r').1 = m) : Und s (h ++ [x]) r' := by
  refine ⟨by rw [k.cat, hrr]; simp, by rw [k.cut, hr, hm]; simp, fun y hy => ?_⟩
  rcases List.mem_append.1 hy with hy | hy
  · exact k.non y hy
  · simp at hy
    subst hy
    exact hx

/-- What Undata answers. -/
def UndPost (w : World) (s : List UInt8) (e : Ending) (w' : World) : Prop :=
  ∃ v, e = .returned (.tuple #[v, .string ⟨(undata s).2.1.toArray⟩, .int .i64 ((undata s).2.2 : Int)]) ∧ w'.ownsRow w.heap.size 9 1 v (undata s).1.length ((strs (undata s).1).map Value.string) ∧ Upd w w' Nope

theorem cutS_any (r : List UInt8) (w : World) (m : Int) (hm : w.cell? ⟨0, 0, none⟩ = some (.int .i64 m)) (hr : r.length ≤ 100000) : Calls Try.prog 29 #[.string ⟨r.toArray⟩, .string ⟨#[13, 10]⟩] w fun e w' =>
    e = .returned (.tuple #[.string ⟨(Lib.cut r [13, 10]).1.toArray⟩, .string ⟨(Lib.cut r [13, 10]).2.1.toArray⟩, .bool (Lib.cut r [13, 10]).2.2]) ∧ Drew w w' := by
  refine (Try.strings_Cut (⟨r.toArray⟩ : ByteArray) ⟨#[13, 10]⟩ m w (by simp [ByteArray.size]; omega) hm).mono ?_
  rintro e w' ⟨rfl, hd⟩
  refine ⟨?_, ⟨hd⟩⟩
  simp

set_option maxHeartbeats 4000000 in
theorem undata_any (s : ByteArray) (w : World) (m : Int) (hm : w.cell? ⟨0, 0, none⟩ = some (.int .i64 m)) (hs : s.size ≤ 100000) : Calls Try.prog 18 #[.string s] w (UndPost w s.data.toList) := by
  go_enter Try.func18, Try.ntmps18
  go_wp2_with fail
  go_step3
  go_wp2_with fail
  go_step3
  go_wp2_with fail
  go_loopg [0, 5, 6, 7] (s.size + 1) (fun gk t out wr lg wx => ∃ (h : List (List UInt8)) (r : List UInt8), Und s.data.toList h r ∧ r.length < gk ∧ r.length ≤ 100000 ∧ h.length + r.length ≤ 100000 ∧ t = .string ⟨r.toArray⟩ ∧ wx.ownsRow w.heap.size 9 1 out h.length ((reads h).map Value.string) ∧ wr = .bool (wrongs h) ∧ lg = .bool (wides h) ∧ Upd w wx Nope)
  case atStart =>
    have hl : s.data.toList.length = s.size := by simp
    exact ⟨[], s.data.toList, ⟨by simp, by simp, by simp⟩, by omega, by omega, by simp; omega, by rw [show (⟨(s.data.toList).toArray⟩ : ByteArray) = s by apply ByteArray.ext; simp], by simpa [reads] using World.ownsRow_nil _ _ _ _, rfl, rfl, Upd.refl _ _⟩
  case round =>
    obtain ⟨h, r, hU, hrg, hr1, hh1, rfl, hown, rfl, rfl, hu⟩ := hrel
    have hC := cutS_any r wr m (hu.cell hm id) hr1
    cases hq : (cuts [] r).1 with
    | nil =>
      rw [(cut_of_nil hq).1] at hC
      have HN := Lib.hid (hU.none hq)
      have HC := Lib.hid hC
      clear hC hU hq
      generalize (⟨r.toArray⟩ : ByteArray) = rb at HC
      go_wp2_with fail
      refine (HC.out).mono ?_
      rintro e w2 ⟨rfl, hd2⟩
      go_wp2_with fail
      try simp only [Exit.noGoto, Exit.inBlock, Exit.then]
      go_ret3
      exact ⟨.slice none 0 0, ret_eq (by rw [HN.out]; rfl), by rw [HN.out]; simpa [strs] using World.ownsRow_nil _ _ _ _, hu.dr hd2⟩
    | cons x mm =>
      obtain ⟨hxe, r', hrr, hcut, hq1, hq2⟩ := cut_of_cons hq
      rw [hcut] at hC
      obtain ⟨g2, rfl⟩ : ∃ g2, gk = g2 + 1 := ⟨gk - 1, by omega⟩
      have hxl : x.length = (body x).length + 2 := by conv => lhs; rw [hxe]; simp
      have hrl : r.length = x.length + r'.length := by rw [hrr]; simp
      have HC := Lib.hid hC
      clear hC
      have htb1 := Lib.hid (show (⟨(body x).toArray⟩ : ByteArray).data.toList = body x by simp)
      have htbs : (⟨(body x).toArray⟩ : ByteArray).size = (body x).length := by simp [ByteArray.size]
      by_cases hx : body x = [46]
      · have hu2 := Lib.hid (hU.dot hq hx hxe hrr)
        have hdt : ((⟨(body x).toArray⟩ : ByteArray).toList == [46]) = true := by rw [ByteArray.toList_eq, htb1.out]; simpa using hx
        generalize (⟨(body x).toArray⟩ : ByteArray) = tb at HC htb1 htbs hdt
        generalize (⟨r.toArray⟩ : ByteArray) = rb at HC ⊢
        clear hx hq hq2 hU hxe hcut hrr hq1
        cases hwb : wrongs h
        · cases hlb : wides h
          · rw [hwb, hlb] at hu2
            clear hwb hlb
            go_wp2_with fail
            refine (HC.out).mono ?_
            rintro e w2 ⟨rfl, hd2⟩
            go_wp2_with fail
            try simp only [Exit.noGoto, Exit.inBlock, Exit.then]
            go_ret3
            exact ⟨_, ret_eq (by rw [hu2.out]; rfl), by rw [hu2.out]; simpa [strs_reads] using own_upd hown (hd2.upd Nope) (fun _ _ => id), hu.dr hd2⟩
          · rw [hwb, hlb] at hu2
            clear hwb hlb
            go_wp2_with fail
            refine (HC.out).mono ?_
            rintro e w2 ⟨rfl, hd2⟩
            go_wp2_with fail
            try simp only [Exit.noGoto, Exit.inBlock, Exit.then]
            go_ret3
            exact ⟨.slice none 0 0, ret_eq (by rw [hu2.out]; rfl), by rw [hu2.out]; simpa [strs] using World.ownsRow_nil _ _ _ _, hu.dr hd2⟩
        · rw [hwb] at hu2
          clear hwb
          go_wp2_with fail
          refine (HC.out).mono ?_
          rintro e w2 ⟨rfl, hd2⟩
          go_wp2_with fail
          try simp only [Exit.noGoto, Exit.inBlock, Exit.then]
          go_ret3
          exact ⟨.slice none 0 0, ret_eq (by rw [hu2.out]; rfl), by rw [hu2.out]; simpa [strs] using World.ownsRow_nil _ _ _ _, hu.dr hd2⟩
      · have HU2 := Lib.hid (hU.next hq hx hrr hq1)
        have hdt : ((⟨(body x).toArray⟩ : ByteArray).toList == [46]) = false := by rw [ByteArray.toList_eq, htb1.out]; simpa using hx
        generalize (⟨(body x).toArray⟩ : ByteArray) = tb at HC htb1 htbs hdt
        generalize (⟨r.toArray⟩ : ByteArray) = rb at HC ⊢
        clear hx hq hq2
        cases hwb : wrongs h
        · have HW := Lib.hid (wrongs_snoc h x)
          have HD := Lib.hid (wides_snoc h x)
          rw [show wrongs h = false from hwb] at HW
          have htl : tb.data.toList = body x := htb1.out
          have hpl := fun w => plain_any tb w (by omega)
          rw [htl] at hpl
          have HP := Lib.hid hpl
          have HTR := Lib.hid (fun w => Try.strings_TrimPrefix tb ⟨#[46]⟩ w)
          obtain ⟨dl, hdl⟩ : ∃ dl, decide ((999 : Int) < (tb.size : Int)) = dl := ⟨_, rfl⟩
          have hdl2 : decide (999 < (body x).length) = dl := by
            rw [← hdl, decide_eq_decide, ← htl, show tb.data.toList.length = tb.size by simp]
            omega
          have HD2 := Lib.hid hdl2
          obtain ⟨ub, hub0, hu0⟩ : ∃ ub : ByteArray, ub = ⟨(Lib.trimPrefix tb.data.toList [46]).toArray⟩ ∧ ub = ⟨(undot (body x)).toArray⟩ := ⟨_, rfl, by rw [htl, trim_undot]⟩
          have hub := Lib.hid hub0
          have hu1 := Lib.hid hu0
          clear hub0 hu0
          have HRR := Lib.hid hrr
          have htbs5 : tb.size ≤ 100000 := by omega
          clear hpl htl hdl2 hwb hxe hcut hrr hU hq1 htbs
          generalize wides h = lb at HD ⊢
          cases lb <;> cases dl
          all_goals
            go_wp2_with fail
            refine (HC.out).mono ?_
            rintro e w2 ⟨rfl, hd2⟩
            have hu2 := hu.dr hd2
            have ho2 := own_upd hown (hd2.upd Nope) (fun _ _ => id)
            clear hd2 hown hu
            go_wp2_with fail
            refine (HP.out _).mono ?_
            rintro e w3 ⟨rfl, hu3⟩
            have hu4 := hu2.nn hu3
            have ho4 := own_upd ho2 hu3 (fun _ _ => id)
            clear hu3 hu2 ho2
            generalize plainL (body x) = pb at HW ⊢
            cases pb
            all_goals
              generalize w3 = W4 at hu4 ho4 ⊢
              go_wp2_with fail
              refine (HTR.out _).mono ?_
              rintro e w5 ⟨rfl, hw5⟩
              obtain rfl : W4 = w5 := hw5.symm
              have hW4 := hu4.size
              obtain ⟨v', w6, hap, hown6, hu6, hl6⟩ := app1 ho4 ub (by omega) (by omega)
              rw [← hub.out]
              go_wp2_with (first | (at_builtin; refine wpList_append_eq _ _ rfl rfl hap rfl rfl rfl ?_) | fail)
              go_roundg g2
              case measure => omega
              case rel => exact ⟨h ++ [x], r', HU2.out, by omega, by omega, by simp; omega, rfl, by rw [reads_snoc, ← hu1.out, List.length_append]; exact hown6, by rw [HW.out]; rfl, by rw [HD.out, HD2.out]; rfl, hu4.trans hu6 (fun _ _ h => h) (fun i hi hk => by have := (ho4.lt i hk).1; omega)⟩
        · have HW := Lib.hid (wrongs_snoc h x)
          have HD := Lib.hid (wides_snoc h x)
          rw [show wrongs h = true from hwb] at HW
          have htl : tb.data.toList = body x := htb1.out
          have hpl := fun w => plain_any tb w (by omega)
          rw [htl] at hpl
          have HP := Lib.hid hpl
          have HTR := Lib.hid (fun w => Try.strings_TrimPrefix tb ⟨#[46]⟩ w)
          obtain ⟨dl, hdl⟩ : ∃ dl, decide ((999 : Int) < (tb.size : Int)) = dl := ⟨_, rfl⟩
          have hdl2 : decide (999 < (body x).length) = dl := by
            rw [← hdl, decide_eq_decide, ← htl, show tb.data.toList.length = tb.size by simp]
            omega
          have HD2 := Lib.hid hdl2
          obtain ⟨ub, hub0, hu0⟩ : ∃ ub : ByteArray, ub = ⟨(Lib.trimPrefix tb.data.toList [46]).toArray⟩ ∧ ub = ⟨(undot (body x)).toArray⟩ := ⟨_, rfl, by rw [htl, trim_undot]⟩
          have hub := Lib.hid hub0
          have hu1 := Lib.hid hu0
          clear hub0 hu0
          have HRR := Lib.hid hrr
          have htbs5 : tb.size ≤ 100000 := by omega
          clear hpl htl hdl2 hwb hxe hcut hrr hU hq1 htbs
          generalize wides h = lb at HD ⊢
          cases lb <;> cases dl
          all_goals
            go_wp2_with fail
            refine (HC.out).mono ?_
            rintro e w2 ⟨rfl, hd2⟩
            have hu2 := hu.dr hd2
            have ho2 := own_upd hown (hd2.upd Nope) (fun _ _ => id)
            clear hd2 hown hu
            go_wp2_with fail
            generalize w2 = W4 at hu2 ho2 ⊢
            have hu4 := hu2
            have ho4 := ho2
            clear hu2 ho2
            go_wp2_with fail
            refine (HTR.out _).mono ?_
            rintro e w5 ⟨rfl, hw5⟩
            obtain rfl : W4 = w5 := hw5.symm
            have hW4 := hu4.size
            obtain ⟨v', w6, hap, hown6, hu6, hl6⟩ := app1 ho4 ub (by omega) (by omega)
            rw [← hub.out]
            go_wp2_with (first | (at_builtin; refine wpList_append_eq _ _ rfl rfl hap rfl rfl rfl ?_) | fail)
            go_roundg g2
            case measure => omega
            case rel => exact ⟨h ++ [x], r', HU2.out, by omega, by omega, by simp; omega, rfl, by rw [reads_snoc, ← hu1.out, List.length_append]; exact hown6, by rw [HW.out]; rfl, by rw [HD.out, HD2.out]; rfl, hu4.trans hu6 (fun _ _ h => h) (fun i hi hk => by have := (ho4.lt i hk).1; omega)⟩
end Go.Proofs.Ytomfblnflobonaa
