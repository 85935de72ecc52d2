/- LineDatas: its walk. -/
import Derived.Test.YtomfblnflobonaaRefu
import Derived.Test.YtomfblnflobonaaBack
set_option linter.unusedVariables false
set_option linter.unusedSimpArgs false
namespace Go.Proofs.Ytomfblnflobonaa
open Go.RowKit

theorem undata_len (s : List UInt8) : (undata s).1.length ≤ (cuts [] s).1.length := by
  cases ha : ahead (cuts [] s).1 with
  | none => rw [undata_none ha]; simp
  | some h =>
    have hl : h.length ≤ (cuts [] s).1.length := by
      generalize (cuts [] s).1 = ls at ha
      induction ls generalizing h with
      | nil => simp [ahead] at ha
      | cons x ls ih =>
        simp only [ahead] at ha
        split at ha
        · simp at ha; subst ha; simp
        · cases hq : ahead ls with
          | none => rw [hq] at ha; simp at ha
          | some q =>
            rw [hq] at ha
            simp at ha
            subst ha
            have := ih q hq
            simp
            omega
    rw [undata_some ha]
    split
    · simp
    · split
      · simp
      · simpa using hl

set_option maxHeartbeats 4000000 in
set_option maxRecDepth 100000 in
theorem datas_walk (w : World) (m : Int) (hm : w.cell? ⟨0, 0, none⟩ = some (.int .i64 m)) (A : Option Addr) (cap : Nat) (l : List ByteArray) (rd : Rd1 Value.string w A l) (hc : l.length ≤ cap) (hcm : cap ≤ maxLen) (ok : ∀ y ∈ l, y.size ≤ 140737488351232) (kn : A = none → cap = 0)
    (s : ByteArray) (hs : s.size ≤ 140737488351232) :
    Calls Try.prog 4 #[.slice A l.length cap, .string s] w fun e w' => e = .returned (.bool true) ∧ Below w.heap.size w w' := by
  by_cases c1 : l.length ≤ 100 ∧ total l ≤ 20000
  · by_cases c2 : 20000 < s.size
    · go_enter Try.func4, Try.ntmps4
      go_wp2_with fail
      refine (awake_any w m hm).mono ?_
      rintro e w1 ⟨rfl, hu1⟩
      go_wp2_with fail
      refine (few_any A cap l w1 (rd.upd hu1 (fun _ h => h.elim)) (by omega) ok).mono ?_
      rintro e w2 ⟨rfl, rfl⟩
      simp only [c1, and_self, decide_true]
      go_wp2
      go_ret
      exact ⟨rfl, hu1.below (fun _ h => h.elim)⟩
    · go_enter Try.func4, Try.ntmps4
      go_wp2_with fail
      refine (awake_any w m hm).mono ?_
      rintro e w1 ⟨rfl, hu1⟩
      have rd1 := rd.upd hu1 (fun _ h => h.elim)
      go_wp2_with fail
      refine (few_any A cap l w1 rd1 (by omega) ok).mono ?_
      rintro e w2 ⟨rfl, rfl⟩
      simp only [c1, and_self, decide_true]
      have hl1 : l.length ≤ 100 := c1.1
      have hl2 : total l ≤ 20000 := c1.2
      obtain ⟨B, cb, w3, hap, -, rdB, -, hu3⟩ := copyS rd1 kn (by omega)
      go_wp2_with (first | (at_builtin; refine wpList_append_eq _ _ rfl rfl hap rfl rfl rfl ?_) | fail)
      refine (data_any B cb l w3 rdB (by omega) (by omega)).mono ?_
      rintro e w4 ⟨rfl, hu4⟩
      have hu4' := (hu1.nn hu3).nn hu4
      have rd4 := rd.upd hu4' (fun _ h => h.elim)
      clear rd rd1 hap rdB hu1 hu3 hu4 c1
      have hRD := refdata_any A cap l w4 rd4 (by omega) (by omega)
      unfold dataRet at hRD ⊢
      generalize (⟨(data (LL l)).1.toArray⟩ : ByteArray) = da at hRD ⊢
      generalize ((data (LL l)).2 : Int) = dc at hRD ⊢
      have HRD := Lib.hid hRD
      clear hRD
      go_wp2_with fail
      refine HRD.out.mono ?_
      rintro e w5 ⟨rfl, hu5⟩
      have hu5' := hu4'.nn hu5
      clear HRD hu4' hu5 rd4
      have hUA := fun w hm => undata_any s w m hm (by omega)
      have hUB := fun w => refundata_any s w (by omega)
      unfold UndPost at hUA hUB
      generalize (⟨(undata s.data.toList).2.1.toArray⟩ : ByteArray) = rs at hUA hUB
      generalize ((undata s.data.toList).2.2 : Int) = cd at hUA hUB
      have hlen2 : (undata s.data.toList).1.length = (strs (undata s.data.toList).1).length := by unfold strs; rw [List.length_map]
      rw [hlen2] at hUA hUB
      have hsl : (strs (undata s.data.toList).1).length ≤ 100000 := by
        unfold strs
        rw [List.length_map]
        have := cuts_count s.data.toList []
        have hz : s.data.toList.length = s.size := by simp
        have hle := undata_len s.data.toList
        omega
      generalize strs (undata s.data.toList).1 = ss at hUA hUB hsl
      have HUA := Lib.hid hUA
      have HUB := Lib.hid hUB
      clear hUA hUB hlen2
      have hPA := fun w => plain_any s w (by omega)
      have hPB := fun w => refplain_any s w (by omega)
      generalize plainL s.data.toList = pp at hPA hPB
      have HPA := Lib.hid hPA
      have HPB := Lib.hid hPB
      clear hPA hPB
      go_wp2_with fail
      refine (HUA.out w5 (hu5'.cell hm id)).mono ?_
      rintro e w6 ⟨vx, rfl, hx6, hu6⟩
      have hu6' := hu5'.nn hu6
      clear hu5' hu6 HUA
      have HX6 := Lib.hid hx6
      clear hx6
      go_wp2_with fail
      refine (HUB.out w6).mono ?_
      rintro e w7 ⟨vy, rfl, hy7, hu7⟩
      have hx7 := own_upd HX6.out hu7 (fun _ _ => id)
      have hu7' := hu6'.nn hu7
      obtain ⟨Ax, cx, rfl, -, hrx, -, -⟩ := rd1_of_owns hx7
      obtain ⟨Ay, cy, rfl, -, hry, -, -⟩ := rd1_of_owns hy7
      clear hu6' hu7 HUB HX6 hx7 hy7
      go_wp2_with fail
      refine (same_any Ax Ay cx cy ss ss w7 hrx hry (by unfold maxLen; omega) (by unfold maxLen; omega)).mono ?_
      rintro e w8 ⟨rfl, hd8⟩
      have hu8 := hu7'.dr hd8
      clear hrx hry hu7' hd8
      rw [show decide (ss = ss) = true from decide_eq_true rfl]
      go_wp2_with fail
      refine (HPA.out w8).mono ?_
      rintro e w9 ⟨rfl, hu9⟩
      go_wp2_with fail
      refine (HPB.out w9).mono ?_
      rintro e w10 ⟨rfl, hu10⟩
      go_wp2_with fail
      go_ret
      exact ⟨ret_eq (by first | rfl | simp), ((hu8.nn hu9).nn hu10).below (fun _ h => h.elim)⟩
  · go_enter Try.func4, Try.ntmps4
    go_wp2_with fail
    refine (awake_any w m hm).mono ?_
    rintro e w1 ⟨rfl, hu1⟩
    go_wp2_with fail
    refine (few_any A cap l w1 (rd.upd hu1 (fun _ h => h.elim)) (by omega) ok).mono ?_
    rintro e w2 ⟨rfl, rfl⟩
    rw [decide_eq_false c1]
    go_wp2
    go_ret
    exact ⟨rfl, hu1.below (fun _ h => h.elim)⟩
end Go.Proofs.Ytomfblnflobonaa
