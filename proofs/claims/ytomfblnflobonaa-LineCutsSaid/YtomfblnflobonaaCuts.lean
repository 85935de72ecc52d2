/- LineCuts: its walk. -/
import Derived.Test.YtomfblnflobonaaRefl
set_option linter.unusedVariables false
set_option linter.unusedSimpArgs false
namespace Go.Proofs.Ytomfblnflobonaa
open Go.RowKit

set_option maxHeartbeats 4000000 in
set_option maxRecDepth 100000 in
theorem cuts_walk (w : World) (m : Int) (hm : w.cell? ⟨0, 0, none⟩ = some (.int .i64 m)) (mo : Int) (wf : (Lit.int .i64 mo).wf = true)
    (A : Option Addr) (cap : Nat) (l : List ByteArray) (rd : Rd1 Value.string w A l) (hc : l.length ≤ cap) (hcm : cap ≤ maxLen) (ok : ∀ y ∈ l, y.size ≤ 140737488351232) (kn : A = none → cap = 0) :
    Calls Try.prog 3 #[.int .i64 mo, .slice A l.length cap] w fun e w' => e = .returned (.bool true) ∧ Below w.heap.size w w' := by
  by_cases c1 : l.length ≤ 100 ∧ total l ≤ 20000
  · by_cases c2 : mo < 2 ∨ 65536 < mo
    · have hcs : mo < 2 ∨ (¬ mo < 2 ∧ 65536 < mo) := by omega
      rcases hcs with h' | ⟨h', h''⟩
      · have d2 : decide (mo < 2) = true := by simpa using h'
        have C2 := Lib.hid c2
        clear h' c2
        go_enter Try.func3, Try.ntmps3
        go_wp2_with fail
        refine (awake_any w m hm).mono ?_
        rintro e w1 ⟨rfl, hu1⟩
        have rd1 := rd.upd hu1 (fun _ h => h.elim)
        go_wp2_with fail
        refine (few_any A cap l w1 rd1 (by omega) ok).mono ?_
        rintro e w2 ⟨rfl, rfl⟩
        simp only [c1, and_self, decide_true]
        go_wp2_with fail
        refine (new_no mo C2.out w2).mono ?_
        rintro e w3 ⟨rfl, hw3⟩
        obtain rfl : w2 = w3 := hw3.symm
        go_wp2_with fail
        go_ret
        exact ⟨rfl, hu1.below (fun _ h => h.elim)⟩
      · have d2 : decide (mo < 2) = false := by simpa using h'
        have d3 : decide ((65536 : Int) < mo) = true := by simpa using h''
        have C2 := Lib.hid c2
        clear h' h'' c2
        go_enter Try.func3, Try.ntmps3
        go_wp2_with fail
        refine (awake_any w m hm).mono ?_
        rintro e w1 ⟨rfl, hu1⟩
        have rd1 := rd.upd hu1 (fun _ h => h.elim)
        go_wp2_with fail
        refine (few_any A cap l w1 rd1 (by omega) ok).mono ?_
        rintro e w2 ⟨rfl, rfl⟩
        simp only [c1, and_self, decide_true]
        go_wp2_with fail
        refine (new_no mo C2.out w2).mono ?_
        rintro e w3 ⟨rfl, hw3⟩
        obtain rfl : w2 = w3 := hw3.symm
        go_wp2_with fail
        go_ret
        exact ⟨rfl, hu1.below (fun _ h => h.elim)⟩
    · obtain ⟨most, rfl⟩ : ∃ k : Nat, mo = k := ⟨mo.toNat, by omega⟩
      have hm2 : 2 ≤ most := by omega
      have hmm : most ≤ 65536 := by omega
      have d2 : decide ((most : Int) < 2) = false := by simp; omega
      have d3 : decide ((65536 : Int) < (most : Int)) = false := by simp; omega
      have hl1 : l.length ≤ 100 := c1.1
      have hl2 : total l ≤ 20000 := c1.2
      clear c2
      go_enter Try.func3, Try.ntmps3
      go_wp2_with fail
      refine (awake_any w m hm).mono ?_
      rintro e w1 ⟨rfl, hu1⟩
      have rd1 := rd.upd hu1 (fun _ h => h.elim)
      go_wp2_with fail
      refine (few_any A cap l w1 rd1 (by omega) ok).mono ?_
      rintro e w2 ⟨rfl, rfl⟩
      simp only [c1, and_self, decide_true]
      go_wp2_with fail
      refine (new_any most hm2 hmm w2).mono ?_
      rintro e w5 ⟨ga, rfl, hca, hga, hgal, hu5⟩
      have hu5' := hu1.nn hu5
      have z1 := hu1.size
      have z5 := hu5.size
      have hga' : w.heap.size ≤ ga := by omega
      have hw5 : w.heap.size ≤ w5.heap.size := by omega
      have hca5 : Ctr w5 w.heap.size ga most 0 [] (.slice none 0 0) := hca.base
      clear hca hu5 hu1 rd1 hga z1 z5 c1
      have HA := Lib.hid hca5
      clear hca5
      go_wp2_with fail
      go_loopg [7, 8, 9] (l.length + 1) (fun gk all x i wx => ∃ (k : Nat) (ab : ByteArray) (v : Value), k ≤ l.length ∧ l.length < k + gk ∧ i = .int .i64 k ∧ all = .string ab ∧ ab.data.toList = bytesOf (l.take k) ∧ Loop w5 wx w.heap.size ga most (bytesOf (l.take k)) v x)
      case atStart => exact ⟨0, ⟨#[]⟩, .slice none 0 0, by omega, by omega, rfl, rfl, by simp [bytesOf], by rw [List.take_zero]; exact Loop.start HA.out⟩
      case round =>
        obtain ⟨k, ab, v, hk, hkg, rfl, rfl, hab2, hL⟩ := hrel
        by_cases hlt : k < l.length
        · obtain ⟨gq, rfl⟩ : ∃ gq, gk = gq + 1 := ⟨gk - 1, by omega⟩
          have hux : Upd w wr Nope := hu5'.trans hL.upd (fun _ _ h => h) (fun i hi h => by omega)
          obtain ⟨ad, rfl, hcell⟩ := (rd.upd hux (fun _ h => h.elim)) k hlt
          have hbt := bytesOf_take l k hlt
          have htt := total_take_succ l k hlt
          have htt2 := total_take l (k + 1)
          have hbl := bytesOf_len (l.take k)
          have hbl2 := bytesOf_len (l.take (k + 1))
          generalize l[k]'hlt = r at hcell hbt htt
          have hsum : (bytesOf (l.take k)).length + r.size ≤ 200000 := by omega
          have habz : ab.size ≤ 20000 := by have : ab.data.toList.length = ab.size := (by simp); rw [hab2] at this; omega
          have hrz : r.size ≤ 20000 := by omega
          have hcat : (ab ++ r).data.toList = bytesOf (l.take (k + 1)) := by rw [hbt, ← hab2]; simp
          have hcz : (ab ++ r).size ≤ 100000 := by rw [ByteArray.size_append]; omega
          have hF := loop_feed hL hw5 hgal hm2 hmm r hsum
          rw [← hbt] at hF
          have hbz : (bytesOf (l.take (k + 1))).length ≤ 20000 := by omega
          have HF := Lib.hid hF
          have HCT := Lib.hid hcat
          clear hF hL hbt htt htt2 hbl hsum hcat hab2 hbl2
          generalize hby : bytesOf (l.take (k + 1)) = by1 at HF HCT hbz
          have HBY := Lib.hid hby
          clear hby
          have hszc := ByteArray.size_append (a := ab) (b := r)
          go_wp2_with fail
          refine HF.out.mono ?_
          rintro e w6 ⟨vo, rfl, v2, w7, hap, v', hL2⟩
          have HL2 := Lib.hid hL2
          clear hL2 HF
          go_wp2_with (first | (at_builtin; refine wpList_append_eq _ _ rfl rfl hap rfl rfl rfl ?_) | fail)
          generalize ab ++ r = abr at HCT hcz ⊢
          clear hszc
          refine (reflines_any most hmm abr w7 hcz).mono ?_
          rintro e w8 ⟨vl, rfl, hl8, hu8⟩
          rw [HCT.out] at hl8 ⊢
          have hL8 := HL2.out.nope hu8
          have hnl : ((cuts [] by1).1.map (lineOf most)).length ≤ 20000 := by
            rw [List.length_map]
            have := cuts_count by1 []
            omega
          have hpl : (cuts [] by1).2.length ≤ 400000 := by
            have := cuts_len by1 []
            simp at this
            omega
          have hT := told_any hL8.own hl8 (by omega)
          have HT := Lib.hid hT
          have HL8 := Lib.hid hL8
          have hvl : ∃ A2 c2, v2 = .slice A2 ((cuts [] by1).1.map (lineOf most)).length c2 := by
            obtain ⟨A2, c2, h1, -⟩ := lrow hL8.own
            exact ⟨A2, c2, h1⟩
          clear hT hL8 hu8 hl8 HL2 hap
          go_wp2_with fail
          refine HT.out.mono ?_
          rintro e w9 ⟨rfl, hd9⟩
          have hL9 := HL8.out.nope (hd9.upd Nope)
          obtain ⟨A2, c2, rfl⟩ := hvl
          have hlm : (cuts [] by1).1.length = ((cuts [] by1).1.map (lineOf most)).length := by rw [List.length_map]
          have hpn := pending_any hL9.ctr
          have hln := lines_any hL9.ctr
          rw [hlm] at hln
          have HP := Lib.hid hpn
          have HLN := Lib.hid hln
          have HL9 := Lib.hid hL9
          clear HT HL8 hd9 hL9 hpn hln hlm
          generalize hls : ((cuts [] by1).1.map (lineOf most)).length = nl at HLN hnl ⊢
          generalize hcu : (cuts [] by1).2.length = nc at HP hpl ⊢
          have hls := Lib.hid hls
          have hcu := Lib.hid hcu
          go_wp2_with fail
          refine (HP.out).mono ?_
          rintro e w11 ⟨rfl, hw11⟩
          obtain rfl : w9 = w11 := hw11.symm
          go_wp2_with fail
          refine (HLN.out).mono ?_
          rintro e w12 ⟨rfl, hw12⟩
          obtain rfl : w9 = w12 := hw12.symm
          go_wp2_with fail
          go_roundg gq
          case measure => omega
          case rel => exact ⟨k + 1, abr, v', by omega, by omega, by go_num, rfl, by rw [HBY.out]; exact HCT.out, by rw [HBY.out, ← hls.out]; exact HL9.out⟩
        · obtain rfl : k = l.length := by omega
          have hux : Upd w wr Nope := hu5'.trans hL.upd (fun _ _ h => h) (fun i hi h => by omega)
          go_wp2_with fail
          go_ret
          exact ⟨rfl, hux.below (fun _ h => h.elim)⟩
  · go_enter Try.func3, Try.ntmps3
    go_wp2_with fail
    refine (awake_any w m hm).mono ?_
    rintro e w1 ⟨rfl, hu1⟩
    have rd1 := rd.upd hu1 (fun _ h => h.elim)
    go_wp2_with fail
    refine (few_any A cap l w1 rd1 (by omega) ok).mono ?_
    rintro e w2 ⟨rfl, rfl⟩
    rw [decide_eq_false c1]
    go_wp2
    go_ret
    exact ⟨rfl, hu1.below (fun _ h => h.elim)⟩
end Go.Proofs.Ytomfblnflobonaa
