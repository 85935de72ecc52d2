/- LineParts: its walk. -/
import Derived.Test.YtomfblnflobonaaLoop
set_option linter.unusedVariables false
set_option linter.unusedSimpArgs false
namespace Go.Proofs.Ytomfblnflobonaa
open Go.RowKit

theorem take_snoc2 (l : List UInt8) (k : Nat) (h : k < l.length) : l.take (k + 1) = l.take k ++ [l.getD k 0] := by
  rw [List.take_succ_eq_append_getElem h]
  simp [List.getD, h]

set_option maxHeartbeats 4000000 in
set_option maxRecDepth 100000 in
theorem parts_walk (w : World) (m : Int) (hm : w.cell? ⟨0, 0, none⟩ = some (.int .i64 m)) (mo : Int) (wf : (Lit.int .i64 mo).wf = true)
    (A : Option Addr) (cap : Nat) (l : List ByteArray) (rd : Rd1 Value.string w A l) (hc : l.length ≤ cap) (hcm : cap ≤ maxLen) (ok : ∀ y ∈ l, y.size ≤ 140737488351232) (kn : A = none → cap = 0) :
    Calls Try.prog 5 #[.int .i64 mo, .slice A l.length cap] w fun e w' => e = .returned (.bool true) ∧ Below w.heap.size w w' := by
  by_cases c1 : l.length ≤ 100 ∧ total l ≤ 20000
  · by_cases c2 : mo < 2 ∨ 65536 < mo
    · have hcs : mo < 2 ∨ (¬ mo < 2 ∧ 65536 < mo) := by omega
      clear c2
      rcases hcs with h' | ⟨h', h''⟩
      · have d2 : decide (mo < 2) = true := by simpa using h'
        clear h'
        go_enter Try.func5, Try.ntmps5
        go_wp2_with fail
        refine (awake_any w m hm).mono ?_
        rintro e w1 ⟨rfl, hu1⟩
        go_wp2_with fail
        refine (few_any A cap l w1 (rd.upd hu1 (fun _ h => h.elim)) (by omega) ok).mono ?_
        rintro e w2 ⟨rfl, rfl⟩
        simp only [c1, and_self, decide_true]
        go_wp2
        go_ret
        exact ⟨rfl, hu1.below (fun _ h => h.elim)⟩
      · have d2 : decide (mo < 2) = false := by simpa using h'
        have d3 : decide ((65536 : Int) < mo) = true := by simpa using h''
        clear h' h''
        go_enter Try.func5, Try.ntmps5
        go_wp2_with fail
        refine (awake_any w m hm).mono ?_
        rintro e w1 ⟨rfl, hu1⟩
        go_wp2_with fail
        refine (few_any A cap l w1 (rd.upd hu1 (fun _ h => h.elim)) (by omega) ok).mono ?_
        rintro e w2 ⟨rfl, rfl⟩
        simp only [c1, and_self, decide_true]
        go_wp2
        go_ret
        exact ⟨rfl, hu1.below (fun _ h => h.elim)⟩
    · obtain ⟨most, rfl⟩ : ∃ k : Nat, mo = k := ⟨mo.toNat, by omega⟩
      have hm2 : 2 ≤ most := by omega
      have hmm : most ≤ 65536 := by omega
      have d2 : decide ((most : Int) < 2) = false := by simp; omega
      have d3 : decide ((65536 : Int) < (most : Int)) = false := by simp; omega
      have hl1 : l.length ≤ 100 := c1.1
      have hl2 : total l ≤ 20000 := c1.2
      clear c2
      go_enter Try.func5, Try.ntmps5
      go_wp2_with fail
      refine (awake_any w m hm).mono ?_
      rintro e w1 ⟨rfl, hu1⟩
      have rd1 := rd.upd hu1 (fun _ h => h.elim)
      go_wp2_with fail
      refine (few_any A cap l w1 rd1 (by omega) ok).mono ?_
      rintro e w2 ⟨rfl, rfl⟩
      simp only [c1, and_self, decide_true]
      go_wp2_with fail
      refine (new_any most hm2 hmm w2).mono ?_
      rintro e w3 ⟨ga, rfl, hca, hga, hgal, hu3⟩
      go_wp2_with fail
      refine (new_any most hm2 hmm w3).mono ?_
      rintro e w4 ⟨gb, rfl, hcb, hgb, hgbl, hu4⟩
      go_wp2_with fail
      refine (new_any most hm2 hmm w4).mono ?_
      rintro e w5 ⟨gc, rfl, hcc, hgc, hgcl, hu5⟩
      have hca5 : Ctr w5 w.heap.size ga most 0 [] (.slice none 0 0) := ((hca.upd hu4 id (fun _ _ => id)).upd hu5 id (fun _ _ => id)).base
      have hcb5 : Ctr w5 w.heap.size gb most 0 [] (.slice none 0 0) := (hcb.upd hu5 id (fun _ _ => id)).base
      have hcc5 : Ctr w5 w.heap.size gc most 0 [] (.slice none 0 0) := hcc.base
      have hu5' := ((hu1.nn hu3).nn hu4).nn hu5
      have z1 := hu1.size
      have z3 := hu3.size
      have z4 := hu4.size
      have z5 := hu5.size
      have hga' : w.heap.size ≤ ga := by omega
      have hgb' : w.heap.size ≤ gb := by omega
      have hgc' : w.heap.size ≤ gc := by omega
      have hga5 : ga < w5.heap.size := by omega
      have hab : gb ≠ ga := by omega
      have hac : gc ≠ ga := by omega
      have hbc : gc ≠ gb := by omega
      have hw5 : w.heap.size ≤ w5.heap.size := by omega
      clear hca hcb hcc hu3 hu4 hu5 hu1 rd1 hga hgb hgc hgal hgbl z1 z3 z4 z5 c1
      have HA := Lib.hid hca5
      have HB := Lib.hid hcb5
      have HC := Lib.hid hcc5
      clear hca5 hcb5 hcc5
      go_wp2_with fail
      go_loopg [11, 12, 14] (l.length + 1) (fun gk all x i wx => ∃ (k : Nat) (ab : ByteArray) (v : Value), k ≤ l.length ∧ l.length < k + gk ∧ i = .int .i64 k ∧ all = .string ab ∧ ab.data.toList = bytesOf (l.take k) ∧ Loop w5 wx w.heap.size ga most (bytesOf (l.take k)) v x)
      case atStart => exact ⟨0, ⟨#[]⟩, .slice none 0 0, by omega, by omega, rfl, rfl, by simp [bytesOf], by rw [List.take_zero]; exact Loop.start HA.out⟩
      case round =>
        obtain ⟨k, ab, v, hk, hkg, rfl, rfl, hab2, hL⟩ := hrel
        by_cases hlt : k < l.length
        · obtain ⟨gq, rfl⟩ : ∃ gq, gk = gq + 1 := ⟨gk - 1, by omega⟩
          have hux : Upd w wr Nope := hu5'.trans hL.upd (fun _ _ h => h) (fun i hi h => by omega)
          obtain ⟨ad, rfl, hcell⟩ := (rd.upd hux (fun _ h => h.elim)) k hlt
          have hbt := bytesOf_take l k hlt
          have htt := total_take_succ l k hlt
          have htt2 := total_take l (k + 1)
          have hbl := bytesOf_len (l.take k)
          generalize l[k]'hlt = r at hcell hbt htt
          have hsum : (bytesOf (l.take k)).length + r.size ≤ 200000 := by omega
          have habz : ab.size ≤ 20000 := by have : ab.data.toList.length = ab.size := (by simp); rw [hab2] at this; omega
          have hrz : r.size ≤ 20000 := by omega
          have hcat : (ab ++ r).data.toList = bytesOf (l.take (k + 1)) := by rw [hbt, ← hab2]; simp
          have hF := loop_feed hL hw5 hga5 hm2 hmm r hsum
          rw [← hbt] at hF
          have HF := Lib.hid hF
          have HCT := Lib.hid hcat
          clear hF hL hbt htt htt2 hbl hsum hcat hab2
          go_wp2_with fail
          refine HF.out.mono ?_
          rintro e w6 ⟨vo, rfl, v2, w7, hap, v', hL2⟩
          have HL2 := Lib.hid hL2
          clear hL2 HF
          go_wp2_with (first | (at_builtin; refine wpList_append_eq _ _ rfl rfl hap rfl rfl rfl ?_) | fail)
          go_roundg gq
          case measure => omega
          case rel => exact ⟨k + 1, _, v', by omega, by omega, by go_num, rfl, HCT.out, HL2.out⟩
        · obtain rfl : k = l.length := by omega
          rw [List.take_length] at hab2 hL
          have hbl := bytesOf_len l
          have hua : Upd w wr Nope := hu5'.trans hL.upd (fun _ _ h => h) (fun i hi h => by omega)
          have hcb6 := HB.out.upd hL.upd (fun h => hab h) (fun _ h => by simp [Value.ownBlock] at h)
          have hcc6 := HC.out.upd hL.upd (fun h => hac h) (fun _ h => by simp [Value.ownBlock] at h)
          have hLx := Lib.hid hL
          have hcb6 := Lib.hid hcb6
          have hcc6 := Lib.hid hcc6
          clear hL HA HB HC hu5'
          go_wp2_with fail
          refine (feed_arg (cap := cap) hcb6.out hua hgb' hm2 hmm (by decide) (by decide) rd (by omega) (by omega)).mono ?_
          rintro e w8 ⟨vb, voy, rfl, hcb8, hoy8, u8, -, hyl, hu8⟩
          have hF8 : ∀ i T cs, Blk wr i cs T → T ≠ 53 → ¬ (i = gb ∨ (Value.slice none 0 0).ownBlock = some i) := fun i T cs hb ht h => by
            rcases h with h | h
            · subst h; exact hb.ne hcb6.out.blk ht rfl
            · simp [Value.ownBlock] at h
          have hca8 := hLx.out.ctr.upd u8 (fun h => by rcases h with h | h; exact hab h.symm; simp [Value.ownBlock] at h) (fun i hi h => by rcases h with h | h; exact own_ne hLx.out.ctr.own hcb6.out.blk (by decide) i hi h; simp [Value.ownBlock] at h)
          have hox8 := own_upd hLx.out.own u8 (fun i hi h => by rcases h with h | h; exact own_ne hLx.out.own hcb6.out.blk (by decide) i hi h; simp [Value.ownBlock] at h)
          have hcc8 := hcc6.out.upd u8 (fun h => by rcases h with h | h; exact hbc h; simp [Value.ownBlock] at h) (fun _ h => by simp [Value.ownBlock] at h)
          have z8 := u8.size
          have zr := hLx.out.upd.size
          have hgc8 : gc < w8.heap.size := by have := hcc8.blk.lt; exact this
          have hw8 : w.heap.size ≤ w8.heap.size := by omega
          have hax : (ab : ByteArray).data.toList.length = ab.size := by simp
          have habz : ab.size ≤ 20000 := by rw [← hax, hab2]; omega
          clear hF8 u8 hLx hcb6 hcc6 hua z8 zr
          have hca8 := Lib.hid hca8
          have hcb8 := Lib.hid hcb8
          have hcc8 := Lib.hid hcc8
          have hox8 := Lib.hid hox8
          have hoy8 := Lib.hid hoy8
          go_wp2_with fail
          go_loopg [13, 16] (ab.size + 1) (fun gk z i wx => ∃ (k : Nat) (v : Value), k ≤ ab.size ∧ ab.size < k + gk ∧ i = .int .i64 k ∧ Loop w8 wx w.heap.size gc most ((bytesOf l).take k) v z)
          case atStart => exact ⟨0, .slice none 0 0, by omega, by omega, rfl, by rw [List.take_zero]; exact Loop.start hcc8.out⟩
          case round =>
            clear hk hkg hlt
            obtain ⟨k2, v2, hk2, hkg2, rfl, hL⟩ := hrel
            by_cases hlt : k2 < ab.size
            · obtain ⟨gq, rfl⟩ : ∃ gq, gk = gq + 1 := ⟨gk - 1, by omega⟩
              have hsl := slice_str (P := Try.prog) Try.underlying9 ab (k2 : Int) ((k2 : Int) + 1) k2 (k2 + 1) rfl (by omega) (by omega) (by omega)
              have hex : (ab.extract k2 (k2 + 1)).data.toList = [(bytesOf l).getD k2 0] := by
                rw [ext_list, hab2, show k2 + 1 - k2 = 1 by omega]
                have h3 : k2 < (bytesOf l).length := by rw [← hab2]; omega
                rw [List.take_one]
                simp [List.getD, h3, List.head?_drop]
              have hez : (ab.extract k2 (k2 + 1)).size = 1 := by simp; omega
              have hsn : (bytesOf l).take (k2 + 1) = (bytesOf l).take k2 ++ [(bytesOf l).getD k2 0] := take_snoc2 _ _ (by rw [← hab2]; omega)
              generalize ab.extract k2 (k2 + 1) = r at hsl hex hez
              rw [← hex] at hsn
              have hF := loop_feed hL hw8 hgc8 hm2 hmm r (by rw [List.length_take, hez]; omega)
              rw [← hsn] at hF
              have HF := Lib.hid hF
              clear hF hL hsn hex
              go_wp2_with fail
              refine HF.out.mono ?_
              rintro e w9 ⟨vo, rfl, v3, w10, hap, v', hL2⟩
              have HL2 := Lib.hid hL2
              clear hL2 HF
              go_wp2_with (first | (at_builtin; refine wpList_append_eq _ _ rfl rfl hap rfl rfl rfl ?_) | fail)
              go_roundg gq
              case measure => omega
              case rel => exact ⟨k2 + 1, v', by omega, by omega, by go_num, HL2.out⟩
            · obtain rfl : k2 = ab.size := by omega
              have et : (bytesOf l).take ab.size = bytesOf l := List.take_of_length_le (by rw [← hab2]; omega)
              rw [et] at hL
              have hu := hL.upd
              have ha9 := hca8.out.upd hu (fun h => hac h.symm) (fun i hi h => own_ne hca8.out.own hcc8.out.blk (by decide) i hi h)
              have hb9 := hcb8.out.upd hu (fun h => hbc h.symm) (fun i hi h => own_ne hcb8.out.own hcc8.out.blk (by decide) i hi h)
              have hc9 := hL.ctr
              have hx9 := own_upd hox8.out hu (fun i hi h => own_ne hox8.out hcc8.out.blk (by decide) i hi h)
              have hy9 := own_upd hoy8.out hu (fun i hi h => own_ne hoy8.out hcc8.out.blk (by decide) i hi h)
              have hz9 := hL.own
              have hu9 : Upd w wr Nope := hu8.trans hu (fun _ _ h => h) (fun i hi h => by omega)
              obtain ⟨Ax, cx, rfl, hxl, hxc, hx⟩ := lrow hx9
              obtain ⟨Ay, cy, rfl, hyl, hyc, hy⟩ := lrow hy9
              obtain ⟨Az, cz, rfl, hzl, hzc, hzz⟩ := lrow hz9
              have hlm : (cuts [] (bytesOf l)).1.length = ((cuts [] (bytesOf l)).1.map (lineOf most)).length := by rw [List.length_map]
              have hnl : ((cuts [] (bytesOf l)).1.map (lineOf most)).length ≤ 20000 := by
                rw [List.length_map]
                have := cuts_count (bytesOf l) []
                omega
              have hpl : (cuts [] (bytesOf l)).2.length ≤ 400000 := by
                have := cuts_len (bytesOf l) []
                simp at this
                omega
              rw [hlm] at ha9
              have ha9 := Lib.hid ha9
              have hb9 := Lib.hid hb9
              have hc9 := Lib.hid hc9
              have HX := Lib.hid hx
              have HY := Lib.hid hy
              have HZ := Lib.hid hzz
              clear hx hy hzz hx9 hy9 hz9 hxl hyl hzl hL hu hu8 hca8 hcb8 hcc8 hox8 hoy8 hlm et hab2
              generalize (cuts [] (bytesOf l)).1.map (lineOf most) = ls at HX HY HZ hxc hyc hzc hnl ha9 ⊢
              obtain ⟨wq, rfl⟩ : ∃ wq : World, wq = wr := ⟨_, rfl⟩
              go_wp2_with fail
              go_loopg [17] (ls.length + 1) (fun gk i wx => ∃ k : Nat, k ≤ ls.length ∧ ls.length < k + gk ∧ i = .int .i64 k ∧ Drew wq wx)
              case atStart => exact ⟨0, by omega, by omega, rfl, Drew.refl _⟩
              case round =>
                clear hkg2 hk2
                obtain ⟨k3, hk, hkg, rfl, hd⟩ := hrel
                by_cases hlt3 : k3 < ls.length
                · obtain ⟨gq, rfl⟩ : ∃ gq, gk = gq + 1 := ⟨gk - 1, by omega⟩
                  obtain ⟨qx, rfl, x0, x1⟩ := HX.out k3 hlt3
                  obtain ⟨qy, rfl, y0, y1⟩ := HY.out k3 hlt3
                  obtain ⟨qz, rfl, zz0, zz1⟩ := HZ.out k3 hlt3
                  have x0' := (hd.cell _).trans x0
                  have x1' := (hd.cell _).trans x1
                  have y0' := (hd.cell _).trans y0
                  have y1' := (hd.cell _).trans y1
                  have z0' := (hd.cell _).trans zz0
                  have z1' := (hd.cell _).trans zz1
                  generalize (⟨(ls[k3]).1.toArray⟩ : ByteArray) = tt at x0' y0' z0'
                  generalize ((ls[k3]).2 : Int) = cc at x1' y1' z1'
                  clear x0 x1 y0 y1 zz0 zz1
                  go_wp2_with fail
                  go_quiet (fail)
                  go_wp2_with fail
                  go_roundg gq
                  case measure => omega
                  case rel => exact ⟨k3 + 1, by omega, by omega, by go_num, hd.step _⟩
                · have u10 := hd.upd Nope
                  have ha10 := ha9.out.upd u10 id (fun _ _ => id)
                  have hb10 := hb9.out.upd u10 id (fun _ _ => id)
                  have hc10 := hc9.out.upd u10 id (fun _ _ => id)
                  have hu10 := hu9.nn u10
                  obtain rfl : k3 = ls.length := by omega
                  clear ha9 hb9 hc9 u10 hu9 hd HX HY HZ hlt3
                  generalize (cuts [] (bytesOf l)).2 = cu at ha10 hb10 hc10 hpl
                  have HA10 := Lib.hid ha10
                  have HB10 := Lib.hid hb10
                  have HC10 := Lib.hid hc10
                  clear ha10 hb10 hc10
                  go_wp2_with fail
                  refine (pending_any HA10.out).mono ?_
                  rintro e w11 ⟨rfl, hw11⟩
                  obtain rfl : wr = w11 := hw11.symm
                  go_wp2_with fail
                  refine (pending_any HB10.out).mono ?_
                  rintro e w12 ⟨rfl, hw12⟩
                  obtain rfl : wr = w12 := hw12.symm
                  go_wp2_with fail
                  refine (pending_any HA10.out).mono ?_
                  rintro e w13 ⟨rfl, hw13⟩
                  obtain rfl : wr = w13 := hw13.symm
                  go_wp2_with fail
                  refine (pending_any HC10.out).mono ?_
                  rintro e w14 ⟨rfl, hw14⟩
                  obtain rfl : wr = w14 := hw14.symm
                  go_wp2_with fail
                  refine (lines_any HA10.out).mono ?_
                  rintro e w15 ⟨rfl, hw15⟩
                  obtain rfl : wr = w15 := hw15.symm
                  go_wp2_with fail
                  go_ret
                  exact ⟨ret_eq (by first | rfl | simp), hu10.below (fun _ h => h.elim)⟩
  · go_enter Try.func5, Try.ntmps5
    go_wp2_with fail
    refine (awake_any w m hm).mono ?_
    rintro e w1 ⟨rfl, hu1⟩
    go_wp2_with fail
    refine (few_any A cap l w1 (rd.upd hu1 (fun _ h => h.elim)) (by omega) ok).mono ?_
    rintro e w2 ⟨rfl, rfl⟩
    rw [decide_eq_false c1]
    go_wp2
    go_ret
    exact ⟨rfl, hu1.below (fun _ h => h.elim)⟩
end Go.Proofs.Ytomfblnflobonaa
