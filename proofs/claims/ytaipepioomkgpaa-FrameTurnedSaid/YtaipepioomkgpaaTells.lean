/- FrameTells: its walk. -/
import Derived.Test.YtaipepioomkgpaaAwk
set_option linter.unusedVariables false
set_option linter.unusedSimpArgs false
namespace Go.Proofs.Ytaipepioomkgpaa
open Go.RowKit

theorem copyS {A : Option Addr} {c : Nat} {l : List ByteArray} {w : World} (hr : Rd1 Value.string w A l) (hn : A = none → c = 0) (hl : l.length ≤ 100000) :
    ∃ B cap w', (Builtin.append_ #[22, 22] 22 #[.slice (some ⟨w.heap.size, 0, none⟩) 0 0, .slice A l.length c]).run Try.prog (w.alloc (.cells #[] 9)) = .ok (.slice B l.length cap) w' ∧ w'.ownsRow w.heap.size 9 1 (.slice B l.length cap) l.length (l.map Value.string) ∧ Rd1 Value.string w' B l ∧ (B = none → cap = 0) ∧ Upd w w' Nope := by
  obtain ⟨i0, hi, hz0, hz1, hz2⟩ := info_parts infoS
  exact copy_row 22 Try.underlying22 hi hz0 hz1 hz2 rfl (fun _ => by simp [Value.oneCell']) hr hn (by unfold maxLen; omega) (by omega)

theorem recs_len (s : ByteArray) : (recs s).length ≤ s.size := by
  have h := scan_len s.data.toList
  have h2 := (scan_back s.data.toList).2.2
  have e : (recs s).length = (scanL s.data.toList).1.length := by unfold recs strs; simp
  have e2 : s.data.toList.length = s.size := data_len s
  omega
theorem small_of (l : List ByteArray) (h : l.length ≤ 40 ∧ total l ≤ 70000) : l.length ≤ 100000 ∧ total l ≤ 1000000 := by omega

set_option maxHeartbeats 4000000 in
set_option maxRecDepth 100000 in
theorem tells_walk (w : World) (A : Option Addr) (cap : Nat) (l : List ByteArray) (rd : Rd1 Value.string w A l) (hc : l.length ≤ cap) (hm : cap ≤ maxLen) (ok : ∀ y ∈ l, y.size ≤ 140737488351232) (kn : A = none → cap = 0)
    (s : ByteArray) (hs : s.size ≤ 140737488351232) :
    Calls Try.prog 3 #[.slice A l.length cap, .string s] w fun e w' => e = .returned (.bool true) ∧ Below w.heap.size w w' := by
  by_cases c1 : l.length ≤ 40 ∧ total l ≤ 70000
  · by_cases c2 : 20000 < s.size
    · go_enter Try.func3, Try.ntmps3
      go_wp2_with fail
      refine (awake_any w).mono ?_
      rintro e w1 ⟨rfl, hu1⟩
      go_wp2_with fail
      refine (few_any A cap l w1 (rd.upd hu1 (fun _ h => h.elim)) (by omega) ok).mono ?_
      rintro e w2 ⟨rfl, rfl⟩
      simp only [c1, and_self, decide_true]
      go_wp2
      go_ret
      exact ⟨rfl, hu1.below (fun _ h => h.elim)⟩
    · go_enter Try.func3, Try.ntmps3
      go_wp2_with fail
      refine (awake_any w).mono ?_
      rintro e w1 ⟨rfl, hu1⟩
      have rd1 := rd.upd hu1 (fun _ h => h.elim)
      go_wp2_with fail
      refine (few_any A cap l w1 rd1 (by omega) ok).mono ?_
      rintro e w2 ⟨rfl, rfl⟩
      simp only [c1, and_self, decide_true]
      obtain ⟨hl1, hl2⟩ := small_of l c1
      obtain ⟨B, cb, w3, hap, -, rdB, -, hu3⟩ := copyS rd1 kn hl1
      go_wp2_with (first | (at_builtin; refine wpList_append_eq _ _ rfl rfl hap rfl rfl rfl ?_) | fail)
      refine (print_any B cb l w3 rdB hl1 hl2).mono ?_
      rintro e w4 ⟨rfl, hu4⟩
      have hu4' := (hu1.nn hu3).nn hu4
      have rd4 := rd.upd hu4' (fun _ h => h.elim)
      clear rd rd1 hap rdB hu1 hu3 hu4
      obtain ⟨p1, p2, hpr⟩ : ∃ p1 p2, printRet l = .tuple #[.string p1, .int .i64 p2] := by unfold printRet; split <;> exact ⟨_, _, rfl⟩
      have hcall := refprint_any A cap l w4 rd4 hl1 hl2
      rw [hpr] at hcall ⊢
      have HC := Lib.hid hcall
      clear hcall hpr
      go_wp2_with fail
      refine HC.out.mono ?_
      rintro e w5 ⟨rfl, hu5⟩
      have hu5' := hu4'.nn hu5
      clear rd4 hu4' HC hu5
      go_wp2_with fail
      refine (scan2 s w5 (by omega)).mono ?_
      rintro e w6 ⟨A6, c6, rfl, rd6, -, hc6, hu6⟩
      have hu6' := hu5'.nn hu6
      clear hu5' hu6
      go_wp2_with fail
      refine (refscan2 s w6 (by omega)).mono ?_
      rintro e w7 ⟨A7, c7, rfl, rd7, -, hc7, hu7⟩
      have rd6' := rd6.upd hu7 (fun _ h => h.elim)
      have hu7' := hu6'.nn hu7
      clear rd6 hu6' hu7
      have hrl := recs_len s
      have hml : (recs s).length ≤ maxLen := by unfold maxLen; omega
      have hsame := same_any A6 A7 c6 c7 (recs s) (recs s) w7 rd6' rd7 hml hml
      rw [decide_eq_true rfl] at hsame
      clear rd6' rd7
      generalize recs s = rs at hsame hrl ⊢
      generalize upto s = us
      have HS := Lib.hid hsame
      clear hsame hml hrl hc6 hc7
      go_wp2_with fail
      refine HS.out.mono ?_
      rintro e w8 ⟨rfl, hd8⟩
      have hu8 := hu7'.dr hd8
      clear hu7' hd8 HS
      go_wp2_with fail
      refine (sum_any s w8 hs).mono ?_
      rintro e w9 ⟨rfl, hu9⟩
      have hu9' := hu8.nn hu9
      clear hu8 hu9
      go_wp2_with fail
      refine (refsum_any s w9 hs).mono ?_
      rintro e w10 ⟨rfl, hd10⟩
      have hu10 := hu9'.dr hd10
      clear hu9' hd10
      go_wp2_with fail
      refine (size_any s w10 hs).mono ?_
      rintro e w11 ⟨rfl, rfl⟩
      go_wp2_with fail
      go_ret
      exact ⟨ret_eq (by rfl), hu10.below (fun _ h => h.elim)⟩
  · go_enter Try.func3, Try.ntmps3
    go_wp2_with fail
    refine (awake_any w).mono ?_
    rintro e w1 ⟨rfl, hu1⟩
    go_wp2_with fail
    refine (few_any A cap l w1 (rd.upd hu1 (fun _ h => h.elim)) (by omega) ok).mono ?_
    rintro e w2 ⟨rfl, rfl⟩
    rw [decide_eq_false c1]
    go_wp2
    go_ret
    exact ⟨rfl, hu1.below (fun _ h => h.elim)⟩
end Go.Proofs.Ytaipepioomkgpaa
