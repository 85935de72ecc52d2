/- FrameTurned: its walk. -/
import Derived.Test.YtaipepioomkgpaaCut
import Derived.Test.YtaipepioomkgpaaByt
set_option linter.unusedVariables false
set_option linter.unusedSimpArgs false
namespace Go.Proofs.Ytaipepioomkgpaa
open Go.RowKit

theorem turn_pure (l : List ByteArray) (k i : Nat) (t : UInt8) (b : ByteArray) (h : fitsAll l) (hk : k < l.length) (hi : flen l k ≤ i) (hi2 : i < flen l k + (l[k].size + 10)) (ht : t ≠ 0) (hb : b.data.toList = turnAt (framesOf l) i t) : recs b = l.take k ∧ upto b = flen l k := by
  have hs : l[k].size ≤ 65535 := h _ (List.getElem_mem hk)
  have hz : l[k].data.toList.length = l[k].size := data_len _
  refine scan_stop l k (turnAt (frameOf l[k].data.toList) (i - flen l k) t ++ framesOf (l.drop (k + 1))) b h ?_ (front_turn _ _ _ _ (by omega) (by omega) ht)
  rw [hb, frames_split l k hk, turnAt_right _ _ _ _ (by exact hi), turnAt_left _ _ _ _ (by rw [frameOf_length]; unfold flen at *; omega)]
  rfl
theorem turn_set (l : List UInt8) (i : Nat) (t : UInt8) (h : i < l.length) : l.set i (l.getD i 0 ^^^ t) = turnAt l i t := by
  apply List.ext_getElem?
  intro j
  simp only [turnAt, List.getElem?_set, List.getElem?_modify, List.getD]
  by_cases hij : i = j
  · subst hij; simp [h]
  · simp [hij]
theorem u8_of (x : Int) (h : 0 ≤ x) (h' : x ≤ 255) : ∃ t : UInt8, x = (t.toNat : Int) := ⟨UInt8.ofNat x.toNat, by simp; omega⟩

set_option maxHeartbeats 4000000 in
set_option maxRecDepth 100000 in
theorem turned_walk (w : World) (A : Option Addr) (cap : Nat) (l : List ByteArray) (rd : Rd1 Value.string w A l) (hc : l.length ≤ cap) (hm : cap ≤ maxLen) (ok : ∀ y ∈ l, y.size ≤ 140737488351232) (kn : A = none → cap = 0)
    (cut : Int) (wc : (Lit.int .i64 cut).wf = true) (tn : Int) (wt : (Lit.int .u8 tn).wf = true) :
    Calls Try.prog 6 #[.slice A l.length cap, .int .i64 cut, .int .u8 tn] w fun e w' => e = .returned (.bool true) ∧ Below w.heap.size w w' := by
  obtain ⟨wc1, wc2⟩ := wf_i64 wc
  obtain ⟨wt1, wt2⟩ := wf_u8 wt
  obtain ⟨tu, rfl⟩ := u8_of tn wt1 wt2
  by_cases c1 : l.length ≤ 40 ∧ total l ≤ 70000
  · by_cases c2 : cut < 0
    · go_enter Try.func6, Try.ntmps6
      go_wp2_with fail
      refine (awake_any w).mono ?_
      rintro e w1 ⟨rfl, hu1⟩
      go_wp2_with fail
      refine (few_any A cap l w1 (rd.upd hu1 (fun _ h => h.elim)) (by omega) ok).mono ?_
      rintro e w2 ⟨rfl, rfl⟩
      simp only [c1, and_self, decide_true]
      go_wp2
      go_ret
      exact ⟨rfl, hu1.below (fun _ h => h.elim)⟩
    · obtain ⟨cu, rfl⟩ : ∃ n : Nat, cut = n := ⟨cut.toNat, by omega⟩
      by_cases c3 : tu = 0
      · subst c3
        go_enter Try.func6, Try.ntmps6
        go_wp2_with fail
        refine (awake_any w).mono ?_
        rintro e w1 ⟨rfl, hu1⟩
        go_wp2_with fail
        refine (few_any A cap l w1 (rd.upd hu1 (fun _ h => h.elim)) (by omega) ok).mono ?_
        rintro e w2 ⟨rfl, rfl⟩
        simp only [c1, and_self, decide_true]
        go_wp2
        go_ret
        exact ⟨rfl, hu1.below (fun _ h => h.elim)⟩
      have htz : ((tu.toNat : Int) == 0) = false := beq_false_of_ne (fun e => c3 (UInt8.toNat.inj (by simpa using e)))
      have htl := tu.toNat_lt
      go_enter Try.func6, Try.ntmps6
      go_wp2_with fail
      refine (awake_any w).mono ?_
      rintro e w1 ⟨rfl, hu1⟩
      have rd1 := rd.upd hu1 (fun _ h => h.elim)
      go_wp2_with fail
      refine (few_any A cap l w1 rd1 (by omega) ok).mono ?_
      rintro e w2 ⟨rfl, rfl⟩
      simp only [c1, and_self, decide_true]
      obtain ⟨hl1, hl2⟩ := small_of l c1
      obtain ⟨B, cb, w3, hap, -, rdB, -, hu3⟩ := copyS rd1 kn hl1
      go_wp2_with (first | (at_builtin; refine wpList_append_eq _ _ rfl rfl hap rfl rfl rfl ?_) | fail)
      refine (print_any B cb l w3 rdB hl1 hl2).mono ?_
      rintro e w4 ⟨rfl, hu4⟩
      have hu4' := (hu1.nn hu3).nn hu4
      have rd4 := rd.upd hu4' (fun _ h => h.elim)
      clear rd rd1 hap rdB hu1 hu3 hu4
      by_cases hf : fitsAll l
      · rw [printRet_yes hf]
        have hfl := flen_all l
        have hz : (⟨(framesOf l).toArray⟩ : ByteArray).size = (framesOf l).length := by show (framesOf l).toArray.size = _; simp
        have hbz : (framesOf l).length ≤ 1000000 := by rw [framesOf_length]; omega
        have hcp := fun k i b => turn_pure l k i tu b hf
        have hdt : (⟨(framesOf l).toArray⟩ : ByteArray).data.toList = framesOf l := by simp
        rw [← hdt] at hcp
        rw [← hz] at hbz
        generalize (⟨(framesOf l).toArray⟩ : ByteArray) = fr at hz hbz hcp ⊢
        clear hdt
        have HCP := Lib.hid hcp
        have hz' := hz.trans hfl.symm
        have HZ := Lib.hid hz'
        clear hz hfl hcp hz'
        by_cases hz0 : fr.size = 0
        · go_wp2
          go_ret
          exact ⟨ret_eq (by simp [hz0]), hu4'.below (fun _ h => h.elim)⟩
        · obtain ⟨cc, hcc⟩ : ∃ cc, cu % fr.size = cc := ⟨_, rfl⟩
          have hcl : cc < fr.size := by have := Nat.mod_lt cu (show 0 < fr.size by omega); omega
          have hmod : (cu : Int).tmod (fr.size : Int) = cc := by rw [← hcc, Int.tmod_eq_emod_of_nonneg (by omega), Int.natCast_emod]
          clear hcc
          have hz1 : 0 < fr.size := by omega
          have hzb : ((fr.size : Int) == 0) = false := beq_false_of_ne (by omega)
          go_wp2_with fail
          go_loopw [9, 10] (fun n i wr => ∃ k : Nat, k ≤ l.length ∧ i = .int .i64 k ∧ n = .int .i64 (flen l k : Nat) ∧ flen l k ≤ cc ∧ wr = w4) (fun _ i _ => l.length - (intOf i).toNat)
          case atStart => exact ⟨0, Nat.zero_le _, rfl, by simp [flen, framesOf], by simp [flen, framesOf], rfl⟩
          case round =>
            obtain ⟨k, hk, rfl, rfl, hkc, hwr⟩ := hrel
            obtain rfl : wr = w4 := hwr
            have hlt : k < l.length := by
              rcases Nat.lt_or_ge k l.length with h | h
              · exact h
              · obtain rfl : k = l.length := by omega
                have := HZ.out
                omega
            obtain ⟨ad, rfl, hx⟩ := rd4 k hlt
            have hst := flen_succ l k hlt
            have hrs := ok _ (List.getElem_mem hlt)
            have hend := fun b (h : cc < flen l k + (l[k].size + 10)) hb => HCP.out k cc b hlt hkc h c3 hb
            generalize l[k] = r at hx hst hrs hend
            generalize flen l k = m at hst hkc hend
            have HST := Lib.hid hst
            have HE := Lib.hid hend
            clear hst hend
            go_wp2_with fail
            refine (size_any r wr hrs).mono ?_
            rintro e w5 ⟨rfl, hw5⟩
            obtain rfl : wr = w5 := hw5.symm
            by_cases hgo : m + (r.size + 10) ≤ cc
            · have d1 : decide ((m : Int) + ((r.size + 10 : Nat) : Int) ≤ (cc : Int)) = true := by simp; omega
              go_wp2_with fail
              refine (size_any r wr hrs).mono ?_
              rintro e w6 ⟨rfl, hw6⟩
              obtain rfl : wr = w6 := hw6.symm
              go_wp2
              go_roundw
              case rel => exact ⟨k + 1, by omega, by go_num, by rw [HST.out]; go_num, by rw [HST.out]; omega, trivial⟩
              case measure => simp [intOf]; omega
            · have d1 : decide ((m : Int) + ((r.size + 10 : Nat) : Int) ≤ (cc : Int)) = false := by simp; omega
              have kc := Lib.run_convert_string_bytes (P := Try.prog) wr 9 38 5 fr Try.underlying9 Try.underlying38 Try.underlying5
              have hby := Byt.new wr fr
              have hub := Byt.newUpd wr fr Nope
              have hfl : fr.data.toList.length = fr.size := data_len fr
              obtain ⟨g, hg⟩ : ∃ g, g = wr.heap.size := ⟨_, rfl⟩
              rw [← hg] at kc hby
              have HG := Lib.hid hg
              clear hg
              generalize hcap : grownCap wr fr.size 0 5 = gc at kc
              clear hcap
              generalize Lib.bytesWorld wr 5 fr = wb at kc hby hub
              have hcell := hby.cell cc (by omega)
              have hfrz := hby.frz cc (by omega)
              have hxor := xor_u8 (fr.data.toList.getD cc 0).toNat tu.toNat (by have := (fr.data.toList.getD cc 0).toNat_lt; omega) (by omega)
              have hbs := hby.set cc (fr.data.toList.getD cc 0 ^^^ tu) (by omega) _ (UInt8.toNat_xor ..).symm
              rw [turn_set _ _ _ (by omega)] at hbs
              have hun : Upd wr (wb.setCell ⟨g, cc, none⟩ (.int .u8 (((fr.data.toList.getD cc 0).toNat ^^^ tu.toNat : Nat) : Int))) Nope := hub.set _ _ (.inr (by have := HG.out; simp; omega))
              have hstr := hbs.str gc
              rw [turnAt_length, hfl] at hstr
              have hfin := HE.out ⟨(turnAt fr.data.toList cc tu).toArray⟩ (by omega) (by simp)
              have hlz : (⟨(turnAt fr.data.toList cc tu).toArray⟩ : ByteArray).size = fr.size := by show (turnAt fr.data.toList cc tu).toArray.size = _; rw [List.size_toArray, turnAt_length, hfl]
              generalize (⟨(turnAt fr.data.toList cc tu).toArray⟩ : ByteArray) = fb at hstr hfin hlz
              generalize (fr.data.toList.getD cc 0).toNat = ob at hcell hxor hstr hun hbs
              clear hbs hby hub hfl
              generalize hws : wb.setCell ⟨g, cc, none⟩ (.int .u8 ((ob ^^^ tu.toNat : Nat) : Int)) = ws at hstr hun
              obtain ⟨e1, e2⟩ := hfin
              have hcall := scan2 fb ws (by omega)
              unfold SP at hcall
              rw [e1, e2] at hcall
              have hlk : (l.take k).length = k := by rw [List.length_take]; omega
              rw [hlk] at hcall
              have HC := Lib.hid hcall
              clear hcall e1 e2
              have rdw := rd4.upd hun (fun _ h => h.elim)
              have huw := hu4'.nn hun
              go_wp2_with fail
              refine HC.out.mono ?_
              rintro e w7 ⟨A7, c7, rfl, rd7, -, -, hu7⟩
              have hu7' := huw.nn hu7
              have rdk := (rdw.upd hu7 (fun _ h => h.elim)).take k
              have hlk2 : (l.take k).length = k := by rw [List.length_take]; omega
              have hsame := same_any A7 (some ad) c7 cap (l.take k) (l.take k) w7 rd7 rdk (by unfold maxLen; omega) (by unfold maxLen; omega)
              rw [decide_eq_true rfl, hlk2] at hsame
              have hct := fun W => cut_take (some ad) l.length cap k (by omega) W
              have HS := Lib.hid hsame
              clear hsame rd7 rdk hlk2 HC
              go_wp2_with fail
              refine HS.out.mono ?_
              rintro e w8 ⟨rfl, hd8⟩
              go_wp2_with fail
              go_ret
              exact ⟨ret_eq (by rfl), (hu7'.dr hd8).below (fun _ h => h.elim)⟩
      · rw [printRet_no hf]
        go_wp2
        go_ret
        exact ⟨ret_eq (by rfl), hu4'.below (fun _ h => h.elim)⟩
  · go_enter Try.func6, Try.ntmps6
    go_wp2_with fail
    refine (awake_any w).mono ?_
    rintro e w1 ⟨rfl, hu1⟩
    go_wp2_with fail
    refine (few_any A cap l w1 (rd.upd hu1 (fun _ h => h.elim)) (by omega) ok).mono ?_
    rintro e w2 ⟨rfl, rfl⟩
    rw [decide_eq_false c1]
    go_wp2
    go_ret
    exact ⟨rfl, hu1.below (fun _ h => h.elim)⟩
end Go.Proofs.Ytaipepioomkgpaa
