/- The reference: Parse, without a quote. -/
import Derived.Test.YthfmjiafdfoajaaDoorRf7
import Derived.Deep.RegionWith
import Derived.IntWalk
set_option linter.unusedVariables false
set_option linter.unusedSimpArgs false
namespace Go.Proofs.YthfmjiafdfoajaaDoor
open Go.RowKit Go.Shelf


set_option maxRecDepth 100000 in
set_option maxHeartbeats 32000000 in
theorem rparse_b (s : ByteArray) (hs : s.size ≤ 5000) (w : World) (h2 : 2 ≤ s.size) (h60 : s[0] = 60) (h62 : s[1] ≠ 62) (h34 : s[1] ≠ 34) : Calls Tryd.prog 12 #[.string s] w fun e w' => e = .returned (prV (parseL s.data.toList)) ∧ Upd w w' Nope := by
  have hu : Upd w (w.alloc (.cells #[.string ⟨#[]⟩, .string ⟨#[]⟩] 25)) Nope := (Upd.refl _ _).alloc _
  have kb : Blk (w.alloc (.cells #[.string ⟨#[]⟩, .string ⟨#[]⟩] 25)) w.heap.size #[.string ⟨#[]⟩, .string ⟨#[]⟩] 25 := Blk.new _ _ _
  obtain ⟨R, hR⟩ : ∃ R, parseL s.data.toList = R := ⟨_, rfl⟩
  rw [hR]
  have hsm : 2 ≤ s.size := h2
  have hp0 : 0 < s.size := by omega
  have hp1 : 1 < s.size := by omega
  have hx0 : ((s[0].toNat : Int) != 60) = false := by rw [h60]; decide
  have hx1 : ((s[1].toNat : Int) == 62) = false := by
    rw [beq_eq_false_iff_ne]; exact fun h => h62 (u8_of (n := 62) (by decide) h)
  by_cases hdum : True
  · have hx2 : ((s[1].toNat : Int) == 34) = false := by
      rw [beq_eq_false_iff_ne]; exact fun h => h34 (u8_of (n := 34) (by decide) h)
    have hb : R = bareL (s.data.toList.drop 1) := by rw [← hR, parse_bare h2 h60 h62 h34]
    have HB := Lib.hid hb
    clear hR hb h60 h62 h34 hsm
    have c0 : (w.alloc (.cells #[.string ⟨#[]⟩, .string ⟨#[]⟩] 25)).cell? ⟨w.heap.size, 0, none⟩ = some (.string ⟨#[]⟩) := (kb.cell 0).trans rfl
    go_enter Tryd.func12, Tryd.ntmps12
    go_upto_region 1 with (fail)
    obtain ⟨g, hgz⟩ : ∃ g, w.heap.size = g := ⟨_, rfl⟩
    rw [hgz] at kb
    try rw [hgz]
    clear c0
    generalize w.alloc (.cells #[.string ⟨#[]⟩, .string ⟨#[]⟩] 25) = W0 at kb hu ⊢
    have hg0 : w.heap.size ≤ g := Nat.le_of_eq hgz
    clear hgz
    have c0 := kb.cell 0
    have c1 := kb.cell 1
    have f0 := kb.frozen 0
    have f1 := kb.frozen 1
    simp only [List.getElem?_toArray, List.getElem?_cons_zero, List.getElem?_cons_succ] at c0 c1
    go_wp2_with fail
    go_loopw [5, 6] (fun ov iv wr => ∃ (k : Nat) (acc : List UInt8), 1 ≤ k ∧ k ≤ s.size ∧ iv = .int .i64 k ∧ wr.ownsRow (g + 1) 5 1 ov acc.length (acc.map u8v) ∧ acc.length ≤ k ∧ s.data.toList.drop 1 = acc ++ s.data.toList.drop k ∧ (∀ b ∈ acc, stopB b = false) ∧ Blk wr g #[.string ⟨#[]⟩, .string ⟨#[]⟩] 25 ∧ Upd w wr Nope) (fun ov iv wr => s.size - (intOf iv).toNat)
    case atStart => exact ⟨1, [], Nat.le_refl _, by omega, rfl, World.ownsRow_nil _ _ _ _, by simp, rfl, by simp, kb, hu⟩
    case round =>
      clear kb hu c0 c1 f0 f1
      obtain ⟨k, acc, hk2, hks, rfl, hown, hak, hdr1, hns, kb, hu⟩ := hrel
      have c0 := kb.cell 0
      have c1 := kb.cell 1
      have f0 := kb.frozen 0
      have f1 := kb.frozen 1
      simp only [List.getElem?_toArray, List.getElem?_cons_zero, List.getElem?_cons_succ] at c0 c1
      have hgu : g + 1 ≤ wr.heap.size := kb.lt
      have hltv := hown.lt
      by_cases hlt : k < s.size
      · have hdr := drop_cons (l := s.data.toList) (k := k) (by rw [data_len]; exact hlt)
        rw [gd_eq s k hlt] at hdr
        by_cases hstop : s[k] = 64 ∨ s[k] = 62
        · have hst : stopB s[k] = true := by rcases hstop with h | h <;> rw [h] <;> rfl
          rw [hdr] at hdr1
          have hbs := bare_some (a := acc) (c := s[k]) (r := s.data.toList.drop (k + 1)) hns hst
          rw [← hdr1, ← HB.out] at hbs
          obtain ⟨A, cap, rfl, _, hrd, hnil, _⟩ := rd1_of_owns hown
          obtain ⟨L, hL⟩ : ∃ L, bs acc = L := ⟨_, rfl⟩
          have hLd : L.data.toList = acc := by rw [← hL]; rfl
          have hLs : L.size = acc.length := by rw [← hLd, data_len]
          have hcv := strB hown
          rw [hL] at hcv
          have HA := Lib.hid (fun W => ratoms_any L (by omega) W)
          have HLO := Lib.hid (fun W => rlower_any L (by omega) W)
          rw [hLd] at HA HLO
          have hx : ((s[k].toNat : Int) != 64 && (s[k].toNat : Int) != 62) = false := by rcases hstop with h | h <;> rw [h] <;> decide
          have HLd := Lib.hid hLd
          have HDR := Lib.hid hdr
          have hLs5 : L.size ≤ 5000 := by omega
          clear hdr hdr1 hns hL hLs hst hLd hltv HB
          cases hat : atomsL acc with
          | false =>
            rw [hat] at HA hbs
            have HRn : Hid (R = .no) := Lib.hid hbs
            clear hbs hat
            rcases hstop with hs4 | hs4
            · have hx4 : ((s[k].toNat : Int) != 64) = false := by rw [hs4]; decide
              clear hs4 hx
              go_wp2_with fail
              refine (HA.out _).mono ?_
              rintro e wN ⟨rfl, hbN⟩
              clear c0 c1 f0 f1
              replace kb := kb.upd hbN id
              replace hu := hu.nn hbN
              replace hown := own_upd hown hbN (fun _ _ h => h)
              clear hbN
              have c0 := kb.cell 0
              have c1 := kb.cell 1
              have f0 := kb.frozen 0
              have f1 := kb.frozen 1
              simp only [List.getElem?_toArray, List.getElem?_cons_zero, List.getElem?_cons_succ] at c0 c1
              go_wp2_with fail
              obtain ⟨W4, hW4, d0, d1, hd4⟩ := fin25 kb hg0 hu (.string ⟨#[]⟩) (.string ⟨#[]⟩)
              rw [hW4]
              exact bodyPost_ret (v := .tuple #[.agg #[.string ⟨#[]⟩, .string ⟨#[]⟩], .string ⟨#[]⟩, .int .i64 2]) (by simp [results, Tryd.results12, go_sem, d0, d1]) rfl ⟨by rw [HRn.out]; rfl, hd4⟩
            · have hx4 : ((s[k].toNat : Int) != 64) = true := by rw [hs4]; decide
              have hx5 : ((s[k].toNat : Int) != 62) = false := by rw [hs4]; decide
              clear hs4 hx
              go_wp2_with fail
              refine (HA.out _).mono ?_
              rintro e wN ⟨rfl, hbN⟩
              clear c0 c1 f0 f1
              replace kb := kb.upd hbN id
              replace hu := hu.nn hbN
              replace hown := own_upd hown hbN (fun _ _ h => h)
              clear hbN
              have c0 := kb.cell 0
              have c1 := kb.cell 1
              have f0 := kb.frozen 0
              have f1 := kb.frozen 1
              simp only [List.getElem?_toArray, List.getElem?_cons_zero, List.getElem?_cons_succ] at c0 c1
              go_wp2_with fail
              obtain ⟨W4, hW4, d0, d1, hd4⟩ := fin25 kb hg0 hu (.string ⟨#[]⟩) (.string ⟨#[]⟩)
              rw [hW4]
              exact bodyPost_ret (v := .tuple #[.agg #[.string ⟨#[]⟩, .string ⟨#[]⟩], .string ⟨#[]⟩, .int .i64 2]) (by simp [results, Tryd.results12, go_sem, d0, d1]) rfl ⟨by rw [HRn.out]; rfl, hd4⟩
          | true =>
            rw [hat] at HA hbs
            rw [if_pos rfl] at hbs
            clear hat
            rcases hstop with hs4 | hs4
            · have hx4 : ((s[k].toNat : Int) != 64) = false := by rw [hs4]; decide
              have hx5 : ((s[k].toNat : Int) == 62) = false := by rw [hs4]; decide
              have hT0 : R = tailL acc (s.data.toList.drop k) := by
                rw [hbs, if_neg (by rw [hs4]; decide), ← HDR.out]
              have HT := Lib.hid hT0
              clear hbs hs4 hx hT0
              go_wp2_with fail
              refine (HA.out _).mono ?_
              rintro e wN ⟨rfl, hbN⟩
              clear c0 c1 f0 f1
              replace kb := kb.upd hbN id
              replace hu := hu.nn hbN
              replace hown := own_upd hown hbN (fun _ _ h => h)
              clear hbN
              have c0 := kb.cell 0
              have c1 := kb.cell 1
              have f0 := kb.frozen 0
              have f1 := kb.frozen 1
              simp only [List.getElem?_toArray, List.getElem?_cons_zero, List.getElem?_cons_succ] at c0 c1
              go_upto_region 28 with (fail)
              have hak2 : acc.length ≤ k := hak
              clear hcv hx4 hx5
              have hacc : acc.length ≤ 5000 := by omega
              rcases index_cases 62 (s.data.toList.drop k) with ⟨hi, hno⟩ | ⟨a, r, hl, hi, hna⟩
              · have HRn : Hid (R = .no) := Lib.hid (by rw [HT.out, tail_none hno])
                have HU := Lib.hid (fun W => until_no s hs 62 k hks (fun j h hj => drop_no hno h hj) W)
                clear hi hno HT
                go_wp2_with fail
                refine (HU.out _).mono ?_
                rintro e wQ ⟨rfl, hwQ⟩
                obtain rfl := hwQ
                go_wp2_with fail
                obtain ⟨W4, hW4, d0, d1, hd4⟩ := fin25 kb hg0 hu (.string ⟨#[]⟩) (.string ⟨#[]⟩)
                rw [hW4]
                exact bodyPost_ret (v := .tuple #[.agg #[.string ⟨#[]⟩, .string ⟨#[]⟩], .string ⟨#[]⟩, .int .i64 2]) (by simp [results, Tryd.results12, go_sem, d0, d1]) rfl ⟨by rw [HRn.out]; rfl, hd4⟩
              · have hsz : k + a.length + 1 + r.length = s.size := by
                  have := congrArg List.length hl
                  rw [List.length_drop, data_len] at this
                  simp only [List.length_append, List.length_cons] at this
                  omega
                obtain ⟨n, hn⟩ : ∃ n, k + a.length = n := ⟨_, rfl⟩
                have hnl : n < s.size := by omega
                have hkn : k ≤ n := by omega
                have hkl : k < s.size := by omega
                have hsn : s[n] = 62 := by rw [← gd_eq s n hnl, ← hn]; exact drop_mid hl
                have HU := Lib.hid (fun W => until_yes s hs 62 k n hnl hkn (fun j h hj hj2 => drop_pre hl hna h hj (by omega)) hsn W)
                cases a with
                | nil =>
                  have hsk : s[k] = 62 := by rw [← gd_eq s k hkl]; simpa using drop_mid (a := []) hl
                  have hx : ((s[k].toNat : Int) != 64) = true := by rw [hsk]; decide
                  have HRn : Hid (R = .no) := Lib.hid (by rw [HT.out, hl, tail_no64 hna (by simp)])
                  clear hi hl hna HT hsk hn hsn
                  go_wp2_with fail
                  refine (HU.out _).mono ?_
                  rintro e wQ ⟨rfl, hwQ⟩
                  obtain rfl := hwQ
                  go_wp2_with fail
                  obtain ⟨W4, hW4, d0, d1, hd4⟩ := fin25 kb hg0 hu (.string ⟨#[]⟩) (.string ⟨#[]⟩)
                  rw [hW4]
                  exact bodyPost_ret (v := .tuple #[.agg #[.string ⟨#[]⟩, .string ⟨#[]⟩], .string ⟨#[]⟩, .int .i64 2]) (by simp [results, Tryd.results12, go_sem, d0, d1]) rfl ⟨by rw [HRn.out]; rfl, hd4⟩
                | cons b d =>
                  have hsk : s[k] = b := by
                    rw [← gd_eq s k hkl]
                    exact drop_head (by rw [hl]; rfl)
                  by_cases h64 : b = 64
                  · subst h64
                    have hx : ((s[k].toNat : Int) != 64) = false := by rw [hsk]; decide
                    have hTD : R = tailD acc d r := by
                      rw [HT.out, hl]; exact tail_some hna
                    rw [tailD_ref] at hTD
                    have hdl : n = k + 1 + d.length := by rw [← hn, List.length_cons]; omega
                    obtain ⟨D, hD⟩ : ∃ D, s.extract (k + 1) n = D := ⟨_, rfl⟩
                    have hDd : D.data.toList = d := by
                      rw [← hD, ext_list, drop_next (by rw [hl]; rfl), show n - (k + 1) = d.length by omega]
                      exact List.take_left' rfl
                    have hDs : D.size = d.length := by rw [← hDd, data_len]
                    obtain ⟨E, hE⟩ : ∃ E, s.extract (n + 1) s.size = E := ⟨_, rfl⟩
                    have hEd : bs r = E := by
                      rw [← hE, ext_drop, ← hn]
                      apply bytes_eq
                      rw [bs_data]
                      exact (drop_behind hl).symm
                    have HLB := Lib.hid (fun W => rlabels_any D (by omega) W)
                    have HLW := Lib.hid (fun W => rlower_any D (by omega) W)
                    rw [hDd] at HLB HLW
                    obtain ⟨F, hF⟩ : ∃ F, bs (Lib.toLowerA d) = F := ⟨_, rfl⟩
                    rw [hF] at HLW
                    have h1 : (k : Int) + 1 ≤ (n : Int) := by omega
                    have h2 : (n : Int) ≤ (s.size : Int) := by omega
                    have h3 : (n : Int) + 1 ≤ (s.size : Int) := by omega
                    have hsl : ∀ W, (Instr.slice 9 (.string s) (some (.int .i64 ((k : Int) + 1))) (some (.int .i64 (n : Int))) none).run Tryd.prog W = .ok (.string D) W := fun W => by
                      rw [← hD]; exact slice_str Tryd.underlying9 s _ _ (k + 1) n (by omega) rfl (by omega) (by omega) W
                    have HH1 := Lib.hid hdl
                    have HTD := Lib.hid hTD
                    have HE := Lib.hid hE
                    have HD := Lib.hid hD
                    have HEd := Lib.hid hEd
                    have HF := Lib.hid hF
                    have HDs := Lib.hid hDs
                    clear hi hl hna HT hsk hn hsn hTD hdl hDd hE hEd hF hDs hsz
                    cases hlb : labelsL d with
                    | false =>
                      rw [hlb] at HLB
                      have HRn : Hid (R = .no) := Lib.hid (by rw [HTD.out, if_neg (by rw [hlb]; decide)])
                      clear hlb
                      go_wp2_with fail
                      refine (HU.out _).mono ?_
                      rintro e wQ ⟨rfl, hwQ⟩
                      obtain rfl := hwQ
                      go_wp2_with fail
                      refine (HLB.out _).mono ?_
                      rintro e wN ⟨rfl, hbN⟩
                      clear c0 c1 f0 f1
                      replace kb := kb.upd hbN id
                      replace hu := hu.nn hbN
                      replace hown := own_upd hown hbN (fun _ _ h => h)
                      clear hbN
                      have c0 := kb.cell 0
                      have c1 := kb.cell 1
                      have f0 := kb.frozen 0
                      have f1 := kb.frozen 1
                      simp only [List.getElem?_toArray, List.getElem?_cons_zero, List.getElem?_cons_succ] at c0 c1
                      go_wp2_with fail
                      obtain ⟨W4, hW4, d0, d1, hd4⟩ := fin25 kb hg0 hu (.string ⟨#[]⟩) (.string ⟨#[]⟩)
                      rw [hW4]
                      exact bodyPost_ret (v := .tuple #[.agg #[.string ⟨#[]⟩, .string ⟨#[]⟩], .string ⟨#[]⟩, .int .i64 2]) (by simp [results, Tryd.results12, go_sem, d0, d1]) rfl ⟨by rw [HRn.out]; rfl, hd4⟩
                    | true =>
                      rw [hlb] at HLB
                      have hTD := HTD.out
                      rw [if_pos hlb] at hTD
                      clear hlb
                      rcases (show 64 < acc.length ∨ (acc.length ≤ 64 ∧ 255 < d.length) ∨ (acc.length ≤ 64 ∧ d.length ≤ 255) by omega) with hz | ⟨hz, hz2⟩ | ⟨hz, hz2⟩
                      · have HRn : Hid (R = ⟨[], [], [], 3⟩) := Lib.hid (by rw [hTD, if_pos (.inl hz)])
                        clear hTD
                        go_wp2_with fail
                        refine (HU.out _).mono ?_
                        rintro e wQ ⟨rfl, hwQ⟩
                        obtain rfl := hwQ
                        go_wp2_with fail
                        refine (HLB.out _).mono ?_
                        rintro e wN ⟨rfl, hbN⟩
                        clear c0 c1 f0 f1
                        replace kb := kb.upd hbN id
                        replace hu := hu.nn hbN
                        replace hown := own_upd hown hbN (fun _ _ h => h)
                        clear hbN
                        have c0 := kb.cell 0
                        have c1 := kb.cell 1
                        have f0 := kb.frozen 0
                        have f1 := kb.frozen 1
                        simp only [List.getElem?_toArray, List.getElem?_cons_zero, List.getElem?_cons_succ] at c0 c1
                        go_wp2_with fail
                        obtain ⟨W4, hW4, d0, d1, hd4⟩ := fin25 kb hg0 hu (.string ⟨#[]⟩) (.string ⟨#[]⟩)
                        rw [hW4]
                        exact bodyPost_ret (v := .tuple #[.agg #[.string ⟨#[]⟩, .string ⟨#[]⟩], .string ⟨#[]⟩, .int .i64 3]) (by simp [results, Tryd.results12, go_sem, d0, d1]) rfl ⟨by rw [HRn.out]; rfl, hd4⟩
                      · have HRn : Hid (R = ⟨[], [], [], 3⟩) := Lib.hid (by rw [hTD, if_pos (.inr hz2)])
                        have hnk : (n : Int) - (k : Int) - 1 = (d.length : Int) := by have := HH1.out; omega
                        clear hTD
                        go_wp2_with fail
                        refine (HU.out _).mono ?_
                        rintro e wQ ⟨rfl, hwQ⟩
                        obtain rfl := hwQ
                        go_wp2_with fail
                        refine (HLB.out _).mono ?_
                        rintro e wN ⟨rfl, hbN⟩
                        clear c0 c1 f0 f1
                        replace kb := kb.upd hbN id
                        replace hu := hu.nn hbN
                        replace hown := own_upd hown hbN (fun _ _ h => h)
                        clear hbN
                        have c0 := kb.cell 0
                        have c1 := kb.cell 1
                        have f0 := kb.frozen 0
                        have f1 := kb.frozen 1
                        simp only [List.getElem?_toArray, List.getElem?_cons_zero, List.getElem?_cons_succ] at c0 c1
                        go_wp2_with fail
                        obtain ⟨W4, hW4, d0, d1, hd4⟩ := fin25 kb hg0 hu (.string ⟨#[]⟩) (.string ⟨#[]⟩)
                        rw [hW4]
                        exact bodyPost_ret (v := .tuple #[.agg #[.string ⟨#[]⟩, .string ⟨#[]⟩], .string ⟨#[]⟩, .int .i64 3]) (by simp [results, Tryd.results12, go_sem, d0, d1]) rfl ⟨by rw [HRn.out]; rfl, hd4⟩
                      · have HRn : Hid (R = ⟨acc, Lib.toLowerA d, r, 0⟩) := Lib.hid (by rw [hTD, if_neg (by omega)])
                        have hnk : (n : Int) - (k : Int) - 1 = (d.length : Int) := by have := HH1.out; omega
                        clear hTD
                        go_wp2_with fail
                        refine (HU.out _).mono ?_
                        rintro e wQ ⟨rfl, hwQ⟩
                        obtain rfl := hwQ
                        go_wp2_with fail
                        refine (HLB.out _).mono ?_
                        rintro e wN ⟨rfl, hbN⟩
                        clear c0 c1 f0 f1
                        replace kb := kb.upd hbN id
                        replace hu := hu.nn hbN
                        replace hown := own_upd hown hbN (fun _ _ h => h)
                        clear hbN
                        have c0 := kb.cell 0
                        have c1 := kb.cell 1
                        have f0 := kb.frozen 0
                        have f1 := kb.frozen 1
                        simp only [List.getElem?_toArray, List.getElem?_cons_zero, List.getElem?_cons_succ] at c0 c1
                        go_wp2_with fail
                        clear hnk
                        have hcv := strB (own_upd hown (Upd.refl _ Nope).drew (fun _ _ h => h))
                        have q1 : IntKind.i64.wrap ((k : Int) + 1) = (k : Int) + 1 := IntWalk.i64_in _ (by omega)
                        have q2 : IntKind.i64.wrap ((n : Int) + 1) = (n : Int) + 1 := IntWalk.i64_in _ (by omega)
                        have hsl2 : ∀ W, (Instr.slice 9 (.string s) (some (.int .i64 ((n : Int) + 1))) none none).run Tryd.prog W = .ok (.string E) W := fun W => by
                          rw [run_slice_string_from_if (P := Tryd.prog) (w := W) 9 s .i64 ((n : Int) + 1) Tryd.underlying9, if_pos (by omega), show ((n : Int) + 1).toNat = n + 1 by omega, HE.out]
                        go_region_with (go_at_call 31; refine (HLW.out _).mono ?_; rintro e wN ⟨rfl, hbN⟩; have kbN := kb.upd ((Upd.refl _ Nope).drew.nn hbN) id; have huN := hu.nn ((Upd.refl _ Nope).drew.nn hbN); have hcvN := strB (own_upd hown ((Upd.refl _ Nope).drew.nn hbN) (fun _ _ h => h)); have e0 := (kbN.cell 0).trans rfl; have e1 := (kbN.cell 1).trans rfl; have g0 := kbN.frozen 0; have g1 := kbN.frozen 1)
                        all_goals
                          clear hcv hsl2 hsl q1 q2
                          go_wp2_with fail
                          obtain ⟨W4, hW4, d0, d1, hd4⟩ := fin25 kbN hg0 huN (.string (bs acc)) (.string F)
                          rw [hW4]
                          exact bodyPost_ret (v := .tuple #[.agg #[.string (bs acc), .string F], .string E, .int .i64 0]) (by simp [results, Tryd.results12, go_sem, d0, d1]) rfl ⟨by rw [HRn.out, ← HF.out, ← HEd.out]; rfl, hd4⟩
                  · have hx : ((s[k].toNat : Int) != 64) = true := by
                      rw [hsk, bne_iff_ne]; exact fun h => h64 (u8_of (n := 64) (by decide) h)
                    have HRn : Hid (R = .no) := Lib.hid (by rw [HT.out, hl, tail_no64 hna (fun d' e => h64 (by injection e))])
                    clear hi hl hna HT hsk hn hsn h64
                    go_wp2_with fail
                    refine (HU.out _).mono ?_
                    rintro e wQ ⟨rfl, hwQ⟩
                    obtain rfl := hwQ
                    go_wp2_with fail
                    obtain ⟨W4, hW4, d0, d1, hd4⟩ := fin25 kb hg0 hu (.string ⟨#[]⟩) (.string ⟨#[]⟩)
                    rw [hW4]
                    exact bodyPost_ret (v := .tuple #[.agg #[.string ⟨#[]⟩, .string ⟨#[]⟩], .string ⟨#[]⟩, .int .i64 2]) (by simp [results, Tryd.results12, go_sem, d0, d1]) rfl ⟨by rw [HRn.out]; rfl, hd4⟩
            · have hx4 : ((s[k].toNat : Int) != 64) = true := by rw [hs4]; decide
              have hx5 : ((s[k].toNat : Int) != 62) = false := by rw [hs4]; decide
              have hx6 : ((s[k].toNat : Int) == 62) = true := by rw [hs4]; decide
              rw [if_pos hs4] at hbs
              clear hs4 hx
              obtain ⟨F, hF⟩ : ∃ F, bs (Lib.toLowerA acc) = F := ⟨_, rfl⟩
              rw [hF] at HLO
              by_cases hpo : Lib.toLowerA acc = postL
              · rw [if_pos hpo] at hbs
                have hFp : F = ⟨#[112, 111, 115, 116, 109, 97, 115, 116, 101, 114]⟩ := by rw [← hF, hpo]; rfl
                rw [hFp] at HLO
                obtain ⟨E, hE⟩ : ∃ E, s.extract (k + 1) s.size = E := ⟨_, rfl⟩
                have HEd : Hid (bs (s.data.toList.drop (k + 1)) = E) := Lib.hid (by rw [← hE, ext_drop]; rfl)
                have HRn := Lib.hid hbs
                have h1i : (k : Int) + 1 ≤ (s.size : Int) := by omega
                have hsl2 : ∀ W, (Instr.slice 9 (.string s) (some (.int .i64 ((k : Int) + 1))) none none).run Tryd.prog W = .ok (.string E) W := fun W => by
                  rw [run_slice_string_from_if (P := Tryd.prog) (w := W) 9 s .i64 ((k : Int) + 1) Tryd.underlying9, if_pos (by omega), show ((k : Int) + 1).toNat = k + 1 by omega, hE]
                clear hbs hpo hF hFp hE
                go_wp2_with fail
                refine (HA.out _).mono ?_
                rintro e wN ⟨rfl, hbN⟩
                clear c0 c1 f0 f1
                replace kb := kb.upd hbN id
                replace hu := hu.nn hbN
                replace hown := own_upd hown hbN (fun _ _ h => h)
                clear hbN
                have c0 := kb.cell 0
                have c1 := kb.cell 1
                have f0 := kb.frozen 0
                have f1 := kb.frozen 1
                simp only [List.getElem?_toArray, List.getElem?_cons_zero, List.getElem?_cons_succ] at c0 c1
                have hcv := strB hown
                rw [show bs acc = L from by rw [← HLd.out]; exact bs_of L] at hcv
                go_wp2_with fail
                refine (HLO.out _).mono ?_
                rintro e wN ⟨rfl, hbN⟩
                clear c0 c1 f0 f1
                replace kb := kb.upd hbN id
                replace hu := hu.nn hbN
                replace hown := own_upd hown hbN (fun _ _ h => h)
                clear hbN
                have c0 := kb.cell 0
                have c1 := kb.cell 1
                have f0 := kb.frozen 0
                have f1 := kb.frozen 1
                simp only [List.getElem?_toArray, List.getElem?_cons_zero, List.getElem?_cons_succ] at c0 c1
                go_wp2_with fail
                clear hcv
                go_region
                all_goals
                  go_wp2_with fail
                  obtain ⟨W4, hW4, d0, d1, hd4⟩ := fin25 kb hg0 hu (.string ⟨#[112, 111, 115, 116, 109, 97, 115, 116, 101, 114]⟩) (.string ⟨#[]⟩)
                  rw [hW4]
                  exact bodyPost_ret (v := .tuple #[.agg #[.string ⟨#[112, 111, 115, 116, 109, 97, 115, 116, 101, 114]⟩, .string ⟨#[]⟩], .string E, .int .i64 0]) (by simp [results, Tryd.results12, go_sem, d0, d1]) rfl ⟨by rw [HRn.out, ← HEd.out]; rfl, hd4.drew⟩
              · rw [if_neg hpo] at hbs
                have HRn : Hid (R = .no) := Lib.hid hbs
                have hFn : ¬ F.toList = [112, 111, 115, 116, 109, 97, 115, 116, 101, 114] := by
                  intro h
                  apply hpo
                  rw [ByteArray.toList_eq, ← hF] at h
                  exact h
                have hFn2 : (F.toList == [112, 111, 115, 116, 109, 97, 115, 116, 101, 114]) = false := by simpa using hFn
                have hFn3 : (F.toList != [112, 111, 115, 116, 109, 97, 115, 116, 101, 114]) = true := by simpa using hFn
                clear hbs hpo hF
                go_wp2_with fail
                refine (HA.out _).mono ?_
                rintro e wN ⟨rfl, hbN⟩
                clear c0 c1 f0 f1
                replace kb := kb.upd hbN id
                replace hu := hu.nn hbN
                replace hown := own_upd hown hbN (fun _ _ h => h)
                clear hbN
                have c0 := kb.cell 0
                have c1 := kb.cell 1
                have f0 := kb.frozen 0
                have f1 := kb.frozen 1
                simp only [List.getElem?_toArray, List.getElem?_cons_zero, List.getElem?_cons_succ] at c0 c1
                have hcv := strB hown
                rw [show bs acc = L from by rw [← HLd.out]; exact bs_of L] at hcv
                go_wp2_with fail
                refine (HLO.out _).mono ?_
                rintro e wN ⟨rfl, hbN⟩
                clear c0 c1 f0 f1
                replace kb := kb.upd hbN id
                replace hu := hu.nn hbN
                replace hown := own_upd hown hbN (fun _ _ h => h)
                clear hbN
                have c0 := kb.cell 0
                have c1 := kb.cell 1
                have f0 := kb.frozen 0
                have f1 := kb.frozen 1
                simp only [List.getElem?_toArray, List.getElem?_cons_zero, List.getElem?_cons_succ] at c0 c1
                go_wp2_with fail
                obtain ⟨W4, hW4, d0, d1, hd4⟩ := fin25 kb hg0 hu (.string ⟨#[]⟩) (.string ⟨#[]⟩)
                rw [hW4]
                exact bodyPost_ret (v := .tuple #[.agg #[.string ⟨#[]⟩, .string ⟨#[]⟩], .string ⟨#[]⟩, .int .i64 2]) (by simp [results, Tryd.results12, go_sem, d0, d1]) rfl ⟨by rw [HRn.out]; rfl, hd4⟩
        · have n64 : ¬ s[k] = 64 := fun h => hstop (.inl h)
          have n62 : ¬ s[k] = 62 := fun h => hstop (.inr h)
          have hx4 : ((s[k].toNat : Int) != 64) = true := by
            rw [bne_iff_ne]; exact fun h => n64 (u8_of (n := 64) (by decide) h)
          have hx5 : ((s[k].toNat : Int) != 62) = true := by
            rw [bne_iff_ne]; exact fun h => n62 (u8_of (n := 62) (by decide) h)
          have HD1 : Hid (s.data.toList.drop 1 = (acc ++ [s[k]]) ++ s.data.toList.drop (k + 1)) := Lib.hid (by rw [hdr1, hdr]; simp)
          have HNS : Hid (∀ b ∈ acc ++ [s[k]], stopB b = false) := Lib.hid (by
            intro b hb
            rcases List.mem_append.1 hb with hb | hb
            · exact hns b hb
            · rw [List.mem_singleton.1 hb]; simp [stopB, n64, n62])
          obtain ⟨v', w2, hap, hown2, hu2, _⟩ := appB hown [s[k]] (by simp) hgu (by simp; omega) #[.int .u8 s[k].toNat] rfl 1 rfl
          have kb2 := kb.upd hu2 (fun e => by have := (hltv g e).1; omega)
          have hu3 : Upd w w2 Nope := hu.trans hu2 (fun _ _ h => h) (fun i hi e => by have h1 := (hltv i e).1; omega)
          have HO2 : Hid (w2.ownsRow (g + 1) 5 1 v' (acc ++ [s[k]]).length ((acc ++ [s[k]]).map u8v)) := Lib.hid (by rw [List.length_append]; exact hown2)
          clear hdr hdr1 hns hstop n64 n62 hown hown2 hltv hu2 hu HB
          go_wp2_with (at_builtin; refine wpList_append_eq _ _ rfl rfl hap rfl rfl rfl ?_)
          go_roundw
          case rel => exact ⟨k + 1, acc ++ [s[k]], by omega, by omega, by go_num, HO2.out, by rw [List.length_append]; simp; omega, HD1.out, HNS.out, kb2, hu3⟩
          case measure => simp [intOf]; omega
      · obtain rfl : k = s.size := by omega
        have hdr : s.data.toList.drop s.size = [] := List.drop_of_length_le (by rw [data_len]; exact Nat.le_refl _)
        rw [hdr, List.append_nil] at hdr1
        have HRn : Hid (R = .no) := Lib.hid (by rw [HB.out, hdr1, bare_none hns])
        obtain ⟨A, cap, rfl, _⟩ := rd1_of_owns hown
        clear hdr hdr1 hns HB
        go_wp2_with fail
        obtain ⟨W4, hW4, d0, d1, hd4⟩ := fin25 kb hg0 hu (.string ⟨#[]⟩) (.string ⟨#[]⟩)
        rw [hW4]
        exact bodyPost_ret (v := .tuple #[.agg #[.string ⟨#[]⟩, .string ⟨#[]⟩], .string ⟨#[]⟩, .int .i64 2]) (by simp [results, Tryd.results12, go_sem, d0, d1]) rfl ⟨by rw [HRn.out]; rfl, hd4⟩
  · exact absurd trivial hdum
end Go.Proofs.YthfmjiafdfoajaaDoor
