/- FrameCut: its walk. -/
import Derived.Test.YtaipepioomkgpaaBack
set_option linter.unusedVariables false
set_option linter.unusedSimpArgs false
namespace Go.Proofs.Ytaipepioomkgpaa
open Go.RowKit

/-- l[:k], a slice of strings. -/
theorem cut_take (A : Option Addr) (n c k : Nat) (hk : k ≤ c) (W : World) : (Instr.slice 22 (.slice A n c) none (some (.int .i64 (k : Int))) none).run Try.prog W = .ok (.slice A k c) W := by
  have hel : Try.prog.elem 22 = 9 := by simp [Program.elem, Try.underlying22]
  have hu : Try.prog.underlying 22 = some (.slice (Try.prog.elem 22)) := by rw [hel]; exact Try.underlying22
  have ha : (A.map fun x => x.add 0) = A := by cases A <;> simp [Addr.add]
  obtain ⟨i0, hi, _, hz1, _⟩ := info_parts infoS
  rw [run_slice_h W 22 A n c hu .i64 (k : Int) (by omega) (by omega), hel]
  simp [sizeOf, typeInfo, hi, hz1, sliced, Result.andThen, ha]

def flen (l : List ByteArray) (k : Nat) : Nat := (framesOf (l.take k)).length
theorem flen_eq (l : List ByteArray) (k : Nat) (hk : k ≤ l.length) : flen l k = total (l.take k) + 10 * k := by
  unfold flen
  rw [framesOf_length, List.length_take, Nat.min_eq_left hk]
theorem flen_succ (l : List ByteArray) (k : Nat) (h : k < l.length) : flen l (k + 1) = flen l k + (l[k].size + 10) := by
  rw [flen_eq l k (by omega), flen_eq l (k + 1) (by omega), total_take_succ l k h]
  omega
theorem flen_all (l : List ByteArray) : flen l l.length = (framesOf l).length := by unfold flen; rw [List.take_length]
theorem frames_split (l : List ByteArray) (k : Nat) (h : k < l.length) : framesOf l = framesOf (l.take k) ++ (frameOf l[k].data.toList ++ framesOf (l.drop (k + 1))) := by
  have e : l = l.take k ++ l[k] :: l.drop (k + 1) := by simp
  have e2 : framesOf (l.take k ++ l[k] :: l.drop (k + 1)) = framesOf (l.take k) ++ (frameOf l[k].data.toList ++ framesOf (l.drop (k + 1))) := by unfold framesOf; rw [List.flatMap_append, List.flatMap_cons]
  rw [← e] at e2
  exact e2
theorem fits_take {l : List ByteArray} (h : fitsAll l) (k : Nat) : fitsAll (l.take k) := fun x hx => h x (List.mem_of_mem_take hx)
theorem scan_stop (l : List ByteArray) (k : Nat) (t : List UInt8) (b : ByteArray) (h : fitsAll l) (hb : b.data.toList = framesOf (l.take k) ++ t) (ht : frontOf t = none) : recs b = l.take k ∧ upto b = flen l k := by
  obtain ⟨h1, h2⟩ := scan_frames (l.take k) t (fits_take h k)
  unfold recs upto
  rw [hb, h1, h2, scanL_none ht]
  simp [strs, flen]
theorem cut_pure (l : List ByteArray) (k c : Nat) (b : ByteArray) (h : fitsAll l) (hk : k ≤ l.length) (hc : flen l k ≤ c) (hend : ∀ hk : k < l.length, c < flen l k + (l[k].size + 10)) (hb : b.data.toList = (framesOf l).take c) : recs b = l.take k ∧ upto b = flen l k := by
  by_cases hlt : k < l.length
  · have hx := hend hlt
    have e : b.data.toList = framesOf (l.take k) ++ (frameOf l[k].data.toList).take (c - flen l k) := by
      rw [hb, frames_split l k hlt, List.take_append, List.take_of_length_le (by exact hc)]
      congr 1
      rw [List.take_append_of_le_length (by rw [frameOf_length, data_len]; unfold flen at *; omega)]
      rfl
    have hs : l[k].size ≤ 65535 := h _ (List.getElem_mem hlt)
    exact scan_stop l k _ b h e (front_cut _ _ (by rw [data_len]; exact hs) (by rw [data_len]; omega))
  · obtain rfl : k = l.length := by omega
    have e : b.data.toList = framesOf (l.take l.length) ++ [] := by rw [hb, List.take_length, List.append_nil]; exact List.take_of_length_le (by rw [← flen_all]; exact hc)
    exact scan_stop l l.length [] b h e rfl

set_option maxHeartbeats 4000000 in
set_option maxRecDepth 100000 in
theorem cut_walk (w : World) (A : Option Addr) (cap : Nat) (l : List ByteArray) (rd : Rd1 Value.string w A l) (hc : l.length ≤ cap) (hm : cap ≤ maxLen) (ok : ∀ y ∈ l, y.size ≤ 140737488351232) (kn : A = none → cap = 0)
    (cut : Int) (wc : (Lit.int .i64 cut).wf = true) :
    Calls Try.prog 5 #[.slice A l.length cap, .int .i64 cut] w fun e w' => e = .returned (.bool true) ∧ Below w.heap.size w w' := by
  obtain ⟨wc1, wc2⟩ := wf_i64 wc
  by_cases c1 : l.length ≤ 40 ∧ total l ≤ 70000
  · by_cases c2 : cut < 0
    · go_enter Try.func5, Try.ntmps5
      go_wp2_with fail
      refine (awake_any w).mono ?_
      rintro e w1 ⟨rfl, hu1⟩
      go_wp2_with fail
      refine (few_any A cap l w1 (rd.upd hu1 (fun _ h => h.elim)) (by omega) ok).mono ?_
      rintro e w2 ⟨rfl, rfl⟩
      simp only [c1, and_self, decide_true]
      go_wp2
      go_ret
      exact ⟨rfl, hu1.below (fun _ h => h.elim)⟩
    · obtain ⟨cu, rfl⟩ : ∃ n : Nat, cut = n := ⟨cut.toNat, by omega⟩
      go_enter Try.func5, Try.ntmps5
      go_wp2_with fail
      refine (awake_any w).mono ?_
      rintro e w1 ⟨rfl, hu1⟩
      have rd1 := rd.upd hu1 (fun _ h => h.elim)
      go_wp2_with fail
      refine (few_any A cap l w1 rd1 (by omega) ok).mono ?_
      rintro e w2 ⟨rfl, rfl⟩
      simp only [c1, and_self, decide_true]
      obtain ⟨hl1, hl2⟩ := small_of l c1
      obtain ⟨B, cb, w3, hap, -, rdB, -, hu3⟩ := copyS rd1 kn hl1
      go_wp2_with (first | (at_builtin; refine wpList_append_eq _ _ rfl rfl hap rfl rfl rfl ?_) | fail)
      refine (print_any B cb l w3 rdB hl1 hl2).mono ?_
      rintro e w4 ⟨rfl, hu4⟩
      have hu4' := (hu1.nn hu3).nn hu4
      have rd4 := rd.upd hu4' (fun _ h => h.elim)
      clear rd rd1 hap rdB hu1 hu3 hu4
      by_cases hf : fitsAll l
      · rw [printRet_yes hf]
        have hfl := flen_all l
        have hz : (⟨(framesOf l).toArray⟩ : ByteArray).size = (framesOf l).length := by show (framesOf l).toArray.size = _; simp
        have hbz : (framesOf l).length ≤ 1000000 := by rw [framesOf_length]; omega
        have hcp := fun k c b => cut_pure l k c b hf
        have hdt : (⟨(framesOf l).toArray⟩ : ByteArray).data.toList = framesOf l := by simp
        rw [← hdt] at hcp
        rw [← hz] at hbz
        generalize (⟨(framesOf l).toArray⟩ : ByteArray) = fr at hz hbz hcp ⊢
        clear hdt
        have HCP := Lib.hid hcp
        have HZ := Lib.hid (hz.trans hfl.symm)
        clear hz hfl hcp
        by_cases hz0 : fr.size = 0
        · go_wp2
          go_ret
          exact ⟨ret_eq (by simp [hz0]), hu4'.below (fun _ h => h.elim)⟩
        · obtain ⟨cc, hcc⟩ : ∃ cc, cu % (fr.size + 1) = cc := ⟨_, rfl⟩
          have hcl : cc ≤ fr.size := by have := Nat.mod_lt cu (show 0 < fr.size + 1 by omega); omega
          have hmod : (cu : Int).tmod ((fr.size : Int) + 1) = cc := by rw [← hcc, Int.tmod_eq_emod_of_nonneg (by omega), Int.natCast_emod]; rfl
          clear hcc
          have hz1 : 0 < fr.size := by omega
          have hzb : ((fr.size : Int) == 0) = false := beq_false_of_ne (by omega)
          go_wp2_with fail
          go_loopw [7, 8] (fun n i wr => ∃ k : Nat, k ≤ l.length ∧ i = .int .i64 k ∧ n = .int .i64 (flen l k : Nat) ∧ flen l k ≤ cc ∧ wr = w4) (fun _ i _ => l.length - (intOf i).toNat)
          case atStart => exact ⟨0, Nat.zero_le _, rfl, by simp [flen, framesOf], by simp [flen, framesOf], rfl⟩
          case round =>
            obtain ⟨k, hk, rfl, rfl, hkc, hwr⟩ := hrel
            obtain rfl : wr = w4 := hwr
            by_cases hlt : k < l.length
            · obtain ⟨ad, rfl, hx⟩ := rd4 k hlt
              have hst := flen_succ l k hlt
              have hrs := ok _ (List.getElem_mem hlt)
              have hend := fun (h : cc < flen l k + (l[k].size + 10)) => HCP.out k cc (fr.extract 0 cc) hk hkc (fun _ => h) (by rw [ext_list]; simp)
              generalize l[k] = r at hx hst hrs hend
              generalize flen l k = m at hst hkc hend
              have HST := Lib.hid hst
              have HE := Lib.hid hend
              clear hst hend
              go_wp2_with fail
              refine (size_any r wr hrs).mono ?_
              rintro e w5 ⟨rfl, hw5⟩
              obtain rfl : wr = w5 := hw5.symm
              by_cases hgo : m + (r.size + 10) ≤ cc
              · have d1 : decide ((m : Int) + ((r.size + 10 : Nat) : Int) ≤ (cc : Int)) = true := by simp; omega
                go_wp2_with fail
                refine (size_any r wr hrs).mono ?_
                rintro e w6 ⟨rfl, hw6⟩
                obtain rfl : wr = w6 := hw6.symm
                go_wp2
                go_round
                case rel => exact ⟨k + 1, by omega, by go_num, by rw [HST.out]; go_num, by rw [HST.out]; omega, trivial⟩
                case measure => simp [intOf]; omega
              · have d1 : decide ((m : Int) + ((r.size + 10 : Nat) : Int) ≤ (cc : Int)) = false := by simp; omega
                obtain ⟨e1, e2⟩ := HE.out (by omega)
                have hcall := scan2 (fr.extract 0 cc) wr (by simp; omega)
                unfold SP at hcall
                rw [e1, e2] at hcall
                have hlk : (l.take k).length = k := by rw [List.length_take]; omega
                rw [hlk] at hcall
                have HC := Lib.hid hcall
                have HE2 := Lib.hid e2
                clear hcall e1 e2
                have hccz : (cc : Int) ≤ fr.size := by omega
                go_wp2_with fail
                refine HC.out.mono ?_
                rintro e w7 ⟨A7, c7, rfl, rd7, -, -, hu7⟩
                have hu7' := hu4'.nn hu7
                have rdk := (rd4.upd hu7 (fun _ h => h.elim)).take k
                have hlk2 : (l.take k).length = k := by rw [List.length_take]; omega
                have hsame := same_any A7 (some ad) c7 cap (l.take k) (l.take k) w7 rd7 rdk (by unfold maxLen; omega) (by unfold maxLen; omega)
                rw [decide_eq_true rfl, hlk2] at hsame
                have hct := fun W => cut_take (some ad) l.length cap k (by omega) W
                have HS := Lib.hid hsame
                clear hsame rd7 rdk hlk2 HC
                go_wp2_with fail
                refine HS.out.mono ?_
                rintro e w8 ⟨rfl, hd8⟩
                go_wp2_with fail
                go_ret
                exact ⟨ret_eq (by rfl), (hu7'.dr hd8).below (fun _ h => h.elim)⟩
            · obtain rfl : k = l.length := by omega
              obtain ⟨e1, e2⟩ := HCP.out l.length cc (fr.extract 0 cc) hk hkc (fun h => absurd h (by omega)) (by rw [ext_list]; simp)
              generalize flen l l.length = m at hkc e2
              rw [List.take_length] at e1
              have hcall := scan2 (fr.extract 0 cc) wr (by simp; omega)
              unfold SP at hcall
              rw [e1, e2] at hcall
              have HC := Lib.hid hcall
              clear hcall e1 e2
              have hccz : (cc : Int) ≤ fr.size := by omega
              go_wp2_with fail
              refine HC.out.mono ?_
              rintro e w7 ⟨A7, c7, rfl, rd7, -, -, hu7⟩
              have hu7' := hu4'.nn hu7
              have rdk := rd4.upd hu7 (fun _ h => h.elim)
              have hsame := same_any A7 A c7 cap l l w7 rd7 rdk (by omega) (by omega)
              rw [decide_eq_true rfl] at hsame
              have hct := fun W => cut_take A l.length cap l.length (by omega) W
              have HS := Lib.hid hsame
              clear hsame rd7 rdk HC
              go_wp2_with fail
              refine HS.out.mono ?_
              rintro e w8 ⟨rfl, hd8⟩
              go_wp2_with fail
              go_ret
              exact ⟨ret_eq (by rfl), (hu7'.dr hd8).below (fun _ h => h.elim)⟩
      · rw [printRet_no hf]
        go_wp2
        go_ret
        exact ⟨ret_eq (by rfl), hu4'.below (fun _ h => h.elim)⟩
  · go_enter Try.func5, Try.ntmps5
    go_wp2_with fail
    refine (awake_any w).mono ?_
    rintro e w1 ⟨rfl, hu1⟩
    go_wp2_with fail
    refine (few_any A cap l w1 (rd.upd hu1 (fun _ h => h.elim)) (by omega) ok).mono ?_
    rintro e w2 ⟨rfl, rfl⟩
    rw [decide_eq_false c1]
    go_wp2
    go_ret
    exact ⟨rfl, hu1.below (fun _ h => h.elim)⟩
end Go.Proofs.Ytaipepioomkgpaa
