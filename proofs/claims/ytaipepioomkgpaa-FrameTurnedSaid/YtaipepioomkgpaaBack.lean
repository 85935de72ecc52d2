/- FrameBack: its walk. -/
import Derived.Test.YtaipepioomkgpaaTells
set_option linter.unusedVariables false
set_option linter.unusedSimpArgs false
namespace Go.Proofs.Ytaipepioomkgpaa
open Go.RowKit

theorem cat2S {A A' : Option Addr} {c c' : Nat} {l m : List ByteArray} {w : World} (hr : Rd1 Value.string w A l) (hn : A = none → c = 0) (hl : l.length ≤ 100000)
    (hr' : Rd1 Value.string w A' m) (hn' : A' = none → c' = 0) (hm : m.length ≤ 100000) :
    ∃ B cap w' B2 cap2 w2, (Builtin.append_ #[22, 22] 22 #[.slice (some ⟨w.heap.size, 0, none⟩) 0 0, .slice A l.length c]).run Try.prog (w.alloc (.cells #[] 9)) = .ok (.slice B l.length cap) w' ∧
      (Builtin.append_ #[22, 22] 22 #[.slice B l.length cap, .slice A' m.length c']).run Try.prog w' = .ok (.slice B2 (l ++ m).length cap2) w2 ∧ Rd1 Value.string w2 B2 (l ++ m) ∧ Upd w w2 Nope := by
  obtain ⟨i0, hi, hz0, hz1, hz2⟩ := info_parts infoS
  obtain ⟨B, cap, w', h1, h2, h3, h4, h5⟩ := copyS hr hn hl
  obtain ⟨v', w2, k1, k2, k3, k4⟩ := append_row (P := Try.prog) (f := Value.string) w.heap.size 22 Try.underlying22 hi hz0 hz1 hz2 rfl (fun _ => by simp [Value.oneCell']) h2 (hr'.upd h5 (fun _ h => h.elim)) hn' (by unfold maxLen; omega) (by omega) h5.size
  have e : l.length + m.length = (l ++ m).length := by simp
  rw [e] at k2
  obtain ⟨B2, cap2, rfl, _, hb, hbn, _⟩ := rd1_of_owns k2
  refine ⟨B, cap, w', B2, cap2, w2, h1, k1, hb, h5.grown k3 (fun k e => .inr ?_)⟩
  exact (h2.lt k e).1

theorem back_pure (l : List ByteArray) (b : ByteArray) (h : fitsAll l) : recs ((⟨(framesOf l).toArray⟩ : ByteArray) ++ b) = l ++ recs b ∧ upto ((⟨(framesOf l).toArray⟩ : ByteArray) ++ b) = (framesOf l).length + upto b := by
  have e : ((⟨(framesOf l).toArray⟩ : ByteArray) ++ b).data.toList = framesOf l ++ b.data.toList := by simp
  obtain ⟨h1, h2⟩ := scan_frames l b.data.toList h
  unfold recs upto
  rw [e]
  exact ⟨h1, h2⟩
theorem recs_small (b : ByteArray) : total (recs b) + 10 * (recs b).length = upto b ∧ upto b ≤ b.size := by
  have h := scan_len b.data.toList
  have h2 := (scan_back b.data.toList).2.2
  have e : (recs b).length = (scanL b.data.toList).1.length := by unfold recs strs; simp
  have e2 : b.data.toList.length = b.size := data_len b
  rw [e2] at h2
  rw [e]
  exact ⟨h, h2⟩
theorem recs_print (b : ByteArray) : printRet (recs b) = .tuple #[.string ⟨(b.data.toList.take (upto b)).toArray⟩, .int .i64 0] := by
  obtain ⟨h1, h2, h3⟩ := scan_back b.data.toList
  unfold recs upto
  rw [printRet_yes h2, h1]

set_option maxHeartbeats 4000000 in
set_option maxRecDepth 100000 in
theorem back_walk (w : World) (A : Option Addr) (cap : Nat) (l : List ByteArray) (rd : Rd1 Value.string w A l) (hc : l.length ≤ cap) (hm : cap ≤ maxLen) (ok : ∀ y ∈ l, y.size ≤ 140737488351232) (kn : A = none → cap = 0)
    (s : ByteArray) (hs : s.size ≤ 140737488351232) :
    Calls Try.prog 4 #[.slice A l.length cap, .string s] w fun e w' => e = .returned (.bool true) ∧ Below w.heap.size w w' := by
  by_cases c1 : l.length ≤ 40 ∧ total l ≤ 70000
  · by_cases c2 : 20000 < s.size
    · go_enter Try.func4, Try.ntmps4
      go_wp2_with fail
      refine (awake_any w).mono ?_
      rintro e w1 ⟨rfl, hu1⟩
      go_wp2_with fail
      refine (few_any A cap l w1 (rd.upd hu1 (fun _ h => h.elim)) (by omega) ok).mono ?_
      rintro e w2 ⟨rfl, rfl⟩
      simp only [c1, and_self, decide_true]
      go_wp2
      go_ret
      exact ⟨rfl, hu1.below (fun _ h => h.elim)⟩
    · go_enter Try.func4, Try.ntmps4
      go_wp2_with fail
      refine (awake_any w).mono ?_
      rintro e w1 ⟨rfl, hu1⟩
      have rd1 := rd.upd hu1 (fun _ h => h.elim)
      go_wp2_with fail
      refine (few_any A cap l w1 rd1 (by omega) ok).mono ?_
      rintro e w2 ⟨rfl, rfl⟩
      simp only [c1, and_self, decide_true]
      obtain ⟨hl1, hl2⟩ := small_of l c1
      go_wp2_with fail
      refine (scan2 s w2 (by omega)).mono ?_
      rintro e w3 ⟨A3, c3, rfl, rd3, kn3, hc3, hu3⟩
      have rdl := rd1.upd hu3 (fun _ h => h.elim)
      have hu3' := hu1.nn hu3
      clear rd1 hu1 hu3
      obtain ⟨r1, r2⟩ := recs_small s
      have hpr := recs_print s
      have hbk := fun h => back_pure l s h
      have hpt : ∀ k, k ≤ s.size → (s.extract 0 k).toList = s.data.toList.take k := fun k hk => by rw [ByteArray.toList_eq, ext_list]; simp
      have hpz : ∀ k, k ≤ s.size → (⟨(s.data.toList.take k).toArray⟩ : ByteArray).size = k := fun k hk => by show (s.data.toList.take k).toArray.size = k; rw [List.size_toArray, List.length_take, data_len]; omega
      generalize recs s = ms at rd3 hc3 r1 hpr hbk ⊢
      generalize upto s = k at r1 r2 hpr hbk ⊢
      have hcall := print_any A3 c3 ms w3 rd3 (by omega) (by omega)
      rw [hpr] at hcall
      have HC := Lib.hid hcall
      clear hcall hpr
      go_wp2_with fail
      refine HC.out.mono ?_
      rintro e w4 ⟨rfl, hu4⟩
      have rd3' := rd3.upd hu4 (fun _ h => h.elim)
      have rdl' := rdl.upd hu4 (fun _ h => h.elim)
      have hu4' := hu3'.nn hu4
      clear rd3 rdl hu3' hu4 HC
      have ht1 := hpz k r2
      have hkk : (k : Int) ≤ s.size := by omega
      have hcmp : ((s.extract 0 k).toList == s.data.toList.take k) = true := by rw [hpt k r2]; simp
      have hno : decide (s.size < k) = false := by simp; omega
      have hno2 : decide ((s.size : Int) < k) = false := by simp; omega
      clear hpt hpz
      obtain ⟨B, cb, w5, hap, -, rdB, -, hu5⟩ := copyS rdl' kn hl1
      go_wp2_with (first | (at_builtin; refine wpList_append_eq _ _ rfl rfl hap rfl rfl rfl ?_) | fail)
      refine (print_any B cb l w5 rdB hl1 hl2).mono ?_
      rintro e w6 ⟨rfl, hu6⟩
      have rd3'' := (rd3'.upd hu5 (fun _ h => h.elim)).upd hu6 (fun _ h => h.elim)
      have rdl'' := (rdl'.upd hu5 (fun _ h => h.elim)).upd hu6 (fun _ h => h.elim)
      have hu6' := (hu4'.nn hu5).nn hu6
      clear rd3' rdl' hu4' hu5 hu6 hap rdB hcmp hno hno2
      by_cases hf : fitsAll l
      · rw [printRet_yes hf]
        obtain ⟨q1, q2⟩ := hbk hf
        have hfl := framesOf_length l
        have hz : (⟨(framesOf l).toArray⟩ : ByteArray).size = (framesOf l).length := by show (framesOf l).toArray.size = _; simp
        clear hbk
        generalize (⟨(framesOf l).toArray⟩ : ByteArray) = fr at q1 q2 hz ⊢
        rw [← hz] at hfl q2
        clear hz
        have hsz : (fr ++ s).size ≤ 1000000 := by rw [ByteArray.size_append]; omega
        have hcall := scan2 (fr ++ s) w6 hsz
        unfold SP at hcall
        rw [q1, q2] at hcall
        have HC := Lib.hid hcall
        have HL := Lib.hid hfl
        have hfz : fr.size ≤ 1000000 := by omega
        clear hcall q1 q2 hfl hsz
        go_wp2_with fail
        refine HC.out.mono ?_
        rintro e w7 ⟨A7, c7, rfl, rd7, -, -, hu7⟩
        have rdl7 := rdl''.upd hu7 (fun _ h => h.elim)
        have rd37 := rd3''.upd hu7 (fun _ h => h.elim)
        have hu7' := hu6'.nn hu7
        clear rdl'' rd3'' hu6' hu7 HC
        obtain ⟨B1, cb1, w8, B2, cb2, w9, h1, h2, rd9, hu9⟩ := cat2S rdl7 kn hl1 rd37 kn3 (by omega)
        have rd79 := rd7.upd hu9 (fun _ h => h.elim)
        have hu9' := hu7'.nn hu9
        have hll : (l ++ ms).length ≤ maxLen := by unfold maxLen; rw [List.length_append]; omega
        have hsame := same_any A7 B2 c7 cb2 (l ++ ms) (l ++ ms) w9 rd79 rd9 hll hll
        rw [decide_eq_true rfl] at hsame
        clear rdl7 rd37 rd7 hu7' hu9 rd79 rd9 hll
        generalize hx : l ++ ms = x at hsame h2 ⊢
        have HS := Lib.hid hsame
        clear hsame hx
        go_wp2_with (at_builtin; refine wpList_append_eq _ _ rfl rfl h1 rfl rfl rfl ?_; go_wp2_with (at_builtin; refine wpList_append_eq _ _ rfl rfl h2 rfl rfl rfl ?_))
        refine HS.out.mono ?_
        rintro e w10 ⟨rfl, hd10⟩
        have hu10 := hu9'.dr hd10
        go_wp2_with fail
        go_ret
        exact ⟨ret_eq (by rfl), hu10.below (fun _ h => h.elim)⟩
      · rw [printRet_no hf]
        go_wp2
        go_ret
        exact ⟨ret_eq (by rfl), hu6'.below (fun _ h => h.elim)⟩
  · go_enter Try.func4, Try.ntmps4
    go_wp2_with fail
    refine (awake_any w).mono ?_
    rintro e w1 ⟨rfl, hu1⟩
    go_wp2_with fail
    refine (few_any A cap l w1 (rd.upd hu1 (fun _ h => h.elim)) (by omega) ok).mono ?_
    rintro e w2 ⟨rfl, rfl⟩
    rw [decide_eq_false c1]
    go_wp2
    go_ret
    exact ⟨rfl, hu1.below (fun _ h => h.elim)⟩
end Go.Proofs.Ytaipepioomkgpaa
