/- The reference: Parse. -/
import Derived.Test.YthfmjiafdfoajaaDoorRf6
import Derived.Deep.RegionWith
import Derived.IntWalk
set_option linter.unusedVariables false
set_option linter.unusedSimpArgs false
namespace Go.Proofs.YthfmjiafdfoajaaDoor
open Go.RowKit Go.Shelf

def qtR : Option (List UInt8 × List UInt8) → PR
  | none => .no
  | some x => if x.1 = [] then .no else tailL x.1 x.2
theorem parse_bare {s : ByteArray} (h : 2 ≤ s.size) (h0 : s[0] = 60) (h1 : s[1] ≠ 62) (h2 : s[1] ≠ 34) : parseL s.data.toList = bareL (s.data.toList.drop 1) := by
  have e0 : s.data.toList = 60 :: s.data.toList.drop 1 := by
    have := drop_cons (l := s.data.toList) (k := 0) (by rw [data_len]; omega)
    rwa [gd_eq s 0 (by omega), h0, List.drop_zero] at this
  have e1 : s.data.toList.drop 1 = s[1] :: s.data.toList.drop 2 := by
    have := drop_cons (l := s.data.toList) (k := 1) (by rw [data_len]; omega)
    rwa [gd_eq s 1 (by omega)] at this
  rw [e0, e1]
  unfold parseL
  dsimp only
  rw [if_pos rfl, if_neg h1, if_neg h2]
  rfl
theorem parse_qt {s : ByteArray} (h : 2 ≤ s.size) (h0 : s[0] = 60) (h1 : s[1] = 34) : parseL s.data.toList = qtR (qtL (s.data.toList.drop 2)) := by
  have e0 : s.data.toList = 60 :: s.data.toList.drop 1 := by
    have := drop_cons (l := s.data.toList) (k := 0) (by rw [data_len]; omega)
    rwa [gd_eq s 0 (by omega), h0, List.drop_zero] at this
  have e1 : s.data.toList.drop 1 = 34 :: s.data.toList.drop 2 := by
    have := drop_cons (l := s.data.toList) (k := 1) (by rw [data_len]; omega)
    rwa [gd_eq s 1 (by omega), h1] at this
  rw [e0, e1]
  unfold parseL
  dsimp only
  rw [if_pos rfl, if_neg (by decide), if_pos rfl]
  show _ = qtR (qtL (s.data.toList.drop 2))
  cases qtL (s.data.toList.drop 2) <;> rfl
theorem parse_null {s : ByteArray} (h : 2 ≤ s.size) (h0 : s[0] = 60) (h1 : s[1] = 62) : parseL s.data.toList = ⟨[], [], s.data.toList.drop 2, 0⟩ := by
  have e0 : s.data.toList = 60 :: s.data.toList.drop 1 := by
    have := drop_cons (l := s.data.toList) (k := 0) (by rw [data_len]; omega)
    rwa [gd_eq s 0 (by omega), h0, List.drop_zero] at this
  have e1 : s.data.toList.drop 1 = 62 :: s.data.toList.drop 2 := by
    have := drop_cons (l := s.data.toList) (k := 1) (by rw [data_len]; omega)
    rwa [gd_eq s 1 (by omega), h1] at this
  rw [e0, e1]
  rfl
theorem parse_not {s : ByteArray} (h : 0 < s.size) (h0 : s[0] ≠ 60) : parseL s.data.toList = .no := by
  have e0 : s.data.toList = s[0] :: s.data.toList.drop 1 := by
    have := drop_cons (l := s.data.toList) (k := 0) (by rw [data_len]; omega)
    rwa [gd_eq s 0 (by omega), List.drop_zero] at this
  rw [e0]
  unfold parseL
  dsimp only
  rw [if_neg h0]
theorem parse_short {s : ByteArray} (h : s.size < 2) : parseL s.data.toList = .no := by
  have hl : s.data.toList.length < 2 := h
  match s.data.toList, hl with
  | [], _ => rfl
  | [a], _ =>
    unfold parseL
    dsimp only
    split <;> rfl

set_option maxRecDepth 100000 in
set_option maxHeartbeats 32000000 in
theorem rparse_q (s : ByteArray) (hs : s.size ≤ 5000) (w : World) (h2 : 2 ≤ s.size) (h60 : s[0] = 60) (h62 : s[1] ≠ 62) (h34 : s[1] = 34) : Calls Tryd.prog 12 #[.string s] w fun e w' => e = .returned (prV (parseL s.data.toList)) ∧ Upd w w' Nope := by
  have hu : Upd w (w.alloc (.cells #[.string ⟨#[]⟩, .string ⟨#[]⟩] 25)) Nope := (Upd.refl _ _).alloc _
  have kb : Blk (w.alloc (.cells #[.string ⟨#[]⟩, .string ⟨#[]⟩] 25)) w.heap.size #[.string ⟨#[]⟩, .string ⟨#[]⟩] 25 := Blk.new _ _ _
  obtain ⟨R, hR⟩ : ∃ R, parseL s.data.toList = R := ⟨_, rfl⟩
  rw [hR]
  have hsm : 2 ≤ s.size := h2
  have hp0 : 0 < s.size := by omega
  have hp1 : 1 < s.size := by omega
  have hx0 : ((s[0].toNat : Int) != 60) = false := by rw [h60]; decide
  have hx1 : ((s[1].toNat : Int) == 62) = false := by
    rw [beq_eq_false_iff_ne]; exact fun h => h62 (u8_of (n := 62) (by decide) h)
  by_cases hdum : True
  · have hx2 : ((s[1].toNat : Int) == 34) = true := by rw [h34]; decide
    have hq : R = qtR (qtA [] (qtL (s.data.toList.drop 2))) := by rw [qtA_nil, ← hR, parse_qt h2 h60 h34]
    have HQ := Lib.hid hq
    clear hR hq h60 h62 h34 hsm
    have c0 : (w.alloc (.cells #[.string ⟨#[]⟩, .string ⟨#[]⟩] 25)).cell? ⟨w.heap.size, 0, none⟩ = some (.string ⟨#[]⟩) := (kb.cell 0).trans rfl
    go_enter Tryd.func12, Tryd.ntmps12
    go_upto_region 1 with (fail)
    obtain ⟨g, hgz⟩ : ∃ g, w.heap.size = g := ⟨_, rfl⟩
    rw [hgz] at kb
    try rw [hgz]
    clear c0
    generalize w.alloc (.cells #[.string ⟨#[]⟩, .string ⟨#[]⟩] 25) = W0 at kb hu ⊢
    have hg0 : w.heap.size ≤ g := Nat.le_of_eq hgz
    clear hgz
    have c0 := kb.cell 0
    have c1 := kb.cell 1
    have f0 := kb.frozen 0
    have f1 := kb.frozen 1
    simp only [List.getElem?_toArray, List.getElem?_cons_zero, List.getElem?_cons_succ] at c0 c1
    go_wp2_with fail
    go_loopw [5, 6] (fun ov iv wr => ∃ (k : Nat) (acc : List UInt8), 2 ≤ k ∧ k ≤ s.size ∧ iv = .int .i64 k ∧ wr.ownsRow (g + 1) 5 1 ov acc.length (acc.map u8v) ∧ acc.length ≤ k ∧ R = qtR (qtA acc (qtL (s.data.toList.drop k))) ∧ Blk wr g #[.string ⟨#[]⟩, .string ⟨#[]⟩] 25 ∧ Upd w wr Nope) (fun ov iv wr => s.size - (intOf iv).toNat)
    case atStart => exact ⟨2, [], Nat.le_refl _, h2, rfl, World.ownsRow_nil _ _ _ _, by simp, HQ.out, kb, hu⟩
    case round =>
      clear kb hu c0 c1 f0 f1 HQ
      obtain ⟨k, acc, hk2, hks, rfl, hown, hak, hq, kb, hu⟩ := hrel
      have c0 := kb.cell 0
      have c1 := kb.cell 1
      have f0 := kb.frozen 0
      have f1 := kb.frozen 1
      simp only [List.getElem?_toArray, List.getElem?_cons_zero, List.getElem?_cons_succ] at c0 c1
      have hgu : g + 1 ≤ wr.heap.size := kb.lt
      have hltv := hown.lt
      by_cases hlt : k < s.size
      · have hdr := drop_cons (l := s.data.toList) (k := k) (by rw [data_len]; exact hlt)
        rw [gd_eq s k hlt] at hdr
        rw [hdr] at hq
        by_cases h34 : s[k] = 34
        · rw [h34, qt_34] at hq
          have hx : ((s[k].toNat : Int) != 34) = false := by rw [h34]; decide
          have hq2 : R = if acc = [] then .no else tailL acc (s.data.toList.drop (k + 1)) := by rw [hq]; simp [qtA, qtR]
          obtain ⟨A, cap, rfl, _, hrd, hnil, _⟩ := rd1_of_owns hown
          clear hq hdr h34 hltv
          cases acc with
          | nil =>
            have HRn : Hid (R = .no) := Lib.hid hq2
            clear hq2
            go_wp2_with fail
            obtain ⟨W4, hW4, d0, d1, hd4⟩ := fin25 kb hg0 hu (.string ⟨#[]⟩) (.string ⟨#[]⟩)
            rw [hW4]
            exact bodyPost_ret (v := .tuple #[.agg #[.string ⟨#[]⟩, .string ⟨#[]⟩], .string ⟨#[]⟩, .int .i64 2]) (by simp [results, Tryd.results12, go_sem, d0, d1]) rfl ⟨by rw [HRn.out]; rfl, hd4⟩
          | cons b0 accr =>
            rw [if_neg (by simp)] at hq2
            have hal : ¬ ((b0 :: accr).length = 0) := by simp
            have hal2 : (((b0 :: accr).length : Int) == 0) = false := by rw [beq_eq_false_iff_ne]; simp only [List.length_cons]; omega
            generalize (b0 :: accr) = acc at hown hak hq2 hrd hal hal2 ⊢
            go_upto_region 28 with (fail)
            have HT := Lib.hid hq2
            have hkn : ((k : Int) + 1) = ((k + 1 : Nat) : Int) := by omega
            clear hq2 hal hal2 hgu
            have hks2 : k + 1 ≤ s.size := by omega
            try simp only [hkn]
            have hak2 : acc.length ≤ k + 1 := by omega
            clear hkn hk2 hks hak
            generalize k + 1 = k at HT hks2 hak2 ⊢
            have hks := hks2
            clear hks2
            have hacc : acc.length ≤ 5000 := by omega
            rcases index_cases 62 (s.data.toList.drop k) with ⟨hi, hno⟩ | ⟨a, r, hl, hi, hna⟩
            · have HRn : Hid (R = .no) := Lib.hid (by rw [HT.out, tail_none hno])
              have HU := Lib.hid (fun W => until_no s hs 62 k hks (fun j h hj => drop_no hno h hj) W)
              clear hi hno HT
              go_wp2_with fail
              refine (HU.out _).mono ?_
              rintro e wQ ⟨rfl, hwQ⟩
              obtain rfl := hwQ
              go_wp2_with fail
              obtain ⟨W4, hW4, d0, d1, hd4⟩ := fin25 kb hg0 hu (.string ⟨#[]⟩) (.string ⟨#[]⟩)
              rw [hW4]
              exact bodyPost_ret (v := .tuple #[.agg #[.string ⟨#[]⟩, .string ⟨#[]⟩], .string ⟨#[]⟩, .int .i64 2]) (by simp [results, Tryd.results12, go_sem, d0, d1]) rfl ⟨by rw [HRn.out]; rfl, hd4⟩
            · have hsz : k + a.length + 1 + r.length = s.size := by
                have := congrArg List.length hl
                rw [List.length_drop, data_len] at this
                simp only [List.length_append, List.length_cons] at this
                omega
              obtain ⟨n, hn⟩ : ∃ n, k + a.length = n := ⟨_, rfl⟩
              have hnl : n < s.size := by omega
              have hkn : k ≤ n := by omega
              have hkl : k < s.size := by omega
              have hsn : s[n] = 62 := by rw [← gd_eq s n hnl, ← hn]; exact drop_mid hl
              have HU := Lib.hid (fun W => until_yes s hs 62 k n hnl hkn (fun j h hj hj2 => drop_pre hl hna h hj (by omega)) hsn W)
              cases a with
              | nil =>
                have hsk : s[k] = 62 := by rw [← gd_eq s k hkl]; simpa using drop_mid (a := []) hl
                have hx : ((s[k].toNat : Int) != 64) = true := by rw [hsk]; decide
                have HRn : Hid (R = .no) := Lib.hid (by rw [HT.out, hl, tail_no64 hna (by simp)])
                clear hi hl hna HT hsk hn hsn
                go_wp2_with fail
                refine (HU.out _).mono ?_
                rintro e wQ ⟨rfl, hwQ⟩
                obtain rfl := hwQ
                go_wp2_with fail
                obtain ⟨W4, hW4, d0, d1, hd4⟩ := fin25 kb hg0 hu (.string ⟨#[]⟩) (.string ⟨#[]⟩)
                rw [hW4]
                exact bodyPost_ret (v := .tuple #[.agg #[.string ⟨#[]⟩, .string ⟨#[]⟩], .string ⟨#[]⟩, .int .i64 2]) (by simp [results, Tryd.results12, go_sem, d0, d1]) rfl ⟨by rw [HRn.out]; rfl, hd4⟩
              | cons b d =>
                have hsk : s[k] = b := by
                  rw [← gd_eq s k hkl]
                  exact drop_head (by rw [hl]; rfl)
                by_cases h64 : b = 64
                · subst h64
                  have hx : ((s[k].toNat : Int) != 64) = false := by rw [hsk]; decide
                  have hTD : R = tailD acc d r := by
                    rw [HT.out, hl]; exact tail_some hna
                  rw [tailD_ref] at hTD
                  have hdl : n = k + 1 + d.length := by rw [← hn, List.length_cons]; omega
                  obtain ⟨D, hD⟩ : ∃ D, s.extract (k + 1) n = D := ⟨_, rfl⟩
                  have hDd : D.data.toList = d := by
                    rw [← hD, ext_list, drop_next (by rw [hl]; rfl), show n - (k + 1) = d.length by omega]
                    exact List.take_left' rfl
                  have hDs : D.size = d.length := by rw [← hDd, data_len]
                  obtain ⟨E, hE⟩ : ∃ E, s.extract (n + 1) s.size = E := ⟨_, rfl⟩
                  have hEd : bs r = E := by
                    rw [← hE, ext_drop, ← hn]
                    apply bytes_eq
                    rw [bs_data]
                    exact (drop_behind hl).symm
                  have HLB := Lib.hid (fun W => rlabels_any D (by omega) W)
                  have HLW := Lib.hid (fun W => rlower_any D (by omega) W)
                  rw [hDd] at HLB HLW
                  obtain ⟨F, hF⟩ : ∃ F, bs (Lib.toLowerA d) = F := ⟨_, rfl⟩
                  rw [hF] at HLW
                  have h1 : (k : Int) + 1 ≤ (n : Int) := by omega
                  have h2 : (n : Int) ≤ (s.size : Int) := by omega
                  have h3 : (n : Int) + 1 ≤ (s.size : Int) := by omega
                  have hsl : ∀ W, (Instr.slice 9 (.string s) (some (.int .i64 ((k : Int) + 1))) (some (.int .i64 (n : Int))) none).run Tryd.prog W = .ok (.string D) W := fun W => by
                    rw [← hD]; exact slice_str Tryd.underlying9 s _ _ (k + 1) n (by omega) rfl (by omega) (by omega) W
                  have HH1 := Lib.hid hdl
                  have HTD := Lib.hid hTD
                  have HE := Lib.hid hE
                  have HD := Lib.hid hD
                  have HEd := Lib.hid hEd
                  have HF := Lib.hid hF
                  have HDs := Lib.hid hDs
                  clear hi hl hna HT hsk hn hsn hTD hdl hDd hE hEd hF hDs hsz
                  cases hlb : labelsL d with
                  | false =>
                    rw [hlb] at HLB
                    have HRn : Hid (R = .no) := Lib.hid (by rw [HTD.out, if_neg (by rw [hlb]; decide)])
                    clear hlb
                    go_wp2_with fail
                    refine (HU.out _).mono ?_
                    rintro e wQ ⟨rfl, hwQ⟩
                    obtain rfl := hwQ
                    go_wp2_with fail
                    refine (HLB.out _).mono ?_
                    rintro e wN ⟨rfl, hbN⟩
                    clear c0 c1 f0 f1
                    replace kb := kb.upd hbN id
                    replace hu := hu.nn hbN
                    replace hown := own_upd hown hbN (fun _ _ h => h)
                    clear hbN
                    have c0 := kb.cell 0
                    have c1 := kb.cell 1
                    have f0 := kb.frozen 0
                    have f1 := kb.frozen 1
                    simp only [List.getElem?_toArray, List.getElem?_cons_zero, List.getElem?_cons_succ] at c0 c1
                    go_wp2_with fail
                    obtain ⟨W4, hW4, d0, d1, hd4⟩ := fin25 kb hg0 hu (.string ⟨#[]⟩) (.string ⟨#[]⟩)
                    rw [hW4]
                    exact bodyPost_ret (v := .tuple #[.agg #[.string ⟨#[]⟩, .string ⟨#[]⟩], .string ⟨#[]⟩, .int .i64 2]) (by simp [results, Tryd.results12, go_sem, d0, d1]) rfl ⟨by rw [HRn.out]; rfl, hd4⟩
                  | true =>
                    rw [hlb] at HLB
                    have hTD := HTD.out
                    rw [if_pos hlb] at hTD
                    clear hlb
                    rcases (show 64 < acc.length ∨ (acc.length ≤ 64 ∧ 255 < d.length) ∨ (acc.length ≤ 64 ∧ d.length ≤ 255) by omega) with hz | ⟨hz, hz2⟩ | ⟨hz, hz2⟩
                    · have HRn : Hid (R = ⟨[], [], [], 3⟩) := Lib.hid (by rw [hTD, if_pos (.inl hz)])
                      clear hTD
                      go_wp2_with fail
                      refine (HU.out _).mono ?_
                      rintro e wQ ⟨rfl, hwQ⟩
                      obtain rfl := hwQ
                      go_wp2_with fail
                      refine (HLB.out _).mono ?_
                      rintro e wN ⟨rfl, hbN⟩
                      clear c0 c1 f0 f1
                      replace kb := kb.upd hbN id
                      replace hu := hu.nn hbN
                      replace hown := own_upd hown hbN (fun _ _ h => h)
                      clear hbN
                      have c0 := kb.cell 0
                      have c1 := kb.cell 1
                      have f0 := kb.frozen 0
                      have f1 := kb.frozen 1
                      simp only [List.getElem?_toArray, List.getElem?_cons_zero, List.getElem?_cons_succ] at c0 c1
                      go_wp2_with fail
                      obtain ⟨W4, hW4, d0, d1, hd4⟩ := fin25 kb hg0 hu (.string ⟨#[]⟩) (.string ⟨#[]⟩)
                      rw [hW4]
                      exact bodyPost_ret (v := .tuple #[.agg #[.string ⟨#[]⟩, .string ⟨#[]⟩], .string ⟨#[]⟩, .int .i64 3]) (by simp [results, Tryd.results12, go_sem, d0, d1]) rfl ⟨by rw [HRn.out]; rfl, hd4⟩
                    · have HRn : Hid (R = ⟨[], [], [], 3⟩) := Lib.hid (by rw [hTD, if_pos (.inr hz2)])
                      have hnk : (n : Int) - (k : Int) - 1 = (d.length : Int) := by have := HH1.out; omega
                      clear hTD
                      go_wp2_with fail
                      refine (HU.out _).mono ?_
                      rintro e wQ ⟨rfl, hwQ⟩
                      obtain rfl := hwQ
                      go_wp2_with fail
                      refine (HLB.out _).mono ?_
                      rintro e wN ⟨rfl, hbN⟩
                      clear c0 c1 f0 f1
                      replace kb := kb.upd hbN id
                      replace hu := hu.nn hbN
                      replace hown := own_upd hown hbN (fun _ _ h => h)
                      clear hbN
                      have c0 := kb.cell 0
                      have c1 := kb.cell 1
                      have f0 := kb.frozen 0
                      have f1 := kb.frozen 1
                      simp only [List.getElem?_toArray, List.getElem?_cons_zero, List.getElem?_cons_succ] at c0 c1
                      go_wp2_with fail
                      obtain ⟨W4, hW4, d0, d1, hd4⟩ := fin25 kb hg0 hu (.string ⟨#[]⟩) (.string ⟨#[]⟩)
                      rw [hW4]
                      exact bodyPost_ret (v := .tuple #[.agg #[.string ⟨#[]⟩, .string ⟨#[]⟩], .string ⟨#[]⟩, .int .i64 3]) (by simp [results, Tryd.results12, go_sem, d0, d1]) rfl ⟨by rw [HRn.out]; rfl, hd4⟩
                    · have HRn : Hid (R = ⟨acc, Lib.toLowerA d, r, 0⟩) := Lib.hid (by rw [hTD, if_neg (by omega)])
                      have hnk : (n : Int) - (k : Int) - 1 = (d.length : Int) := by have := HH1.out; omega
                      clear hTD
                      go_wp2_with fail
                      refine (HU.out _).mono ?_
                      rintro e wQ ⟨rfl, hwQ⟩
                      obtain rfl := hwQ
                      go_wp2_with fail
                      refine (HLB.out _).mono ?_
                      rintro e wN ⟨rfl, hbN⟩
                      clear c0 c1 f0 f1
                      replace kb := kb.upd hbN id
                      replace hu := hu.nn hbN
                      replace hown := own_upd hown hbN (fun _ _ h => h)
                      clear hbN
                      have c0 := kb.cell 0
                      have c1 := kb.cell 1
                      have f0 := kb.frozen 0
                      have f1 := kb.frozen 1
                      simp only [List.getElem?_toArray, List.getElem?_cons_zero, List.getElem?_cons_succ] at c0 c1
                      go_wp2_with fail
                      clear hnk
                      have hcv := strB (own_upd hown (Upd.refl _ Nope).drew (fun _ _ h => h))
                      have q1 : IntKind.i64.wrap ((k : Int) + 1) = (k : Int) + 1 := IntWalk.i64_in _ (by omega)
                      have q2 : IntKind.i64.wrap ((n : Int) + 1) = (n : Int) + 1 := IntWalk.i64_in _ (by omega)
                      have hsl2 : ∀ W, (Instr.slice 9 (.string s) (some (.int .i64 ((n : Int) + 1))) none none).run Tryd.prog W = .ok (.string E) W := fun W => by
                        rw [run_slice_string_from_if (P := Tryd.prog) (w := W) 9 s .i64 ((n : Int) + 1) Tryd.underlying9, if_pos (by omega), show ((n : Int) + 1).toNat = n + 1 by omega, HE.out]
                      go_region_with (go_at_call 31; refine (HLW.out _).mono ?_; rintro e wN ⟨rfl, hbN⟩; have kbN := kb.upd ((Upd.refl _ Nope).drew.nn hbN) id; have huN := hu.nn ((Upd.refl _ Nope).drew.nn hbN); have hcvN := strB (own_upd hown ((Upd.refl _ Nope).drew.nn hbN) (fun _ _ h => h)); have e0 := (kbN.cell 0).trans rfl; have e1 := (kbN.cell 1).trans rfl; have g0 := kbN.frozen 0; have g1 := kbN.frozen 1)
                      all_goals
                        clear hcv hsl2 hsl q1 q2
                        go_wp2_with fail
                        obtain ⟨W4, hW4, d0, d1, hd4⟩ := fin25 kbN hg0 huN (.string (bs acc)) (.string F)
                        rw [hW4]
                        exact bodyPost_ret (v := .tuple #[.agg #[.string (bs acc), .string F], .string E, .int .i64 0]) (by simp [results, Tryd.results12, go_sem, d0, d1]) rfl ⟨by rw [HRn.out, ← HF.out, ← HEd.out]; rfl, hd4⟩
                · have hx : ((s[k].toNat : Int) != 64) = true := by
                    rw [hsk, bne_iff_ne]; exact fun h => h64 (u8_of (n := 64) (by decide) h)
                  have HRn : Hid (R = .no) := Lib.hid (by rw [HT.out, hl, tail_no64 hna (fun d' e => h64 (by injection e))])
                  clear hi hl hna HT hsk hn hsn h64
                  go_wp2_with fail
                  refine (HU.out _).mono ?_
                  rintro e wQ ⟨rfl, hwQ⟩
                  obtain rfl := hwQ
                  go_wp2_with fail
                  obtain ⟨W4, hW4, d0, d1, hd4⟩ := fin25 kb hg0 hu (.string ⟨#[]⟩) (.string ⟨#[]⟩)
                  rw [hW4]
                  exact bodyPost_ret (v := .tuple #[.agg #[.string ⟨#[]⟩, .string ⟨#[]⟩], .string ⟨#[]⟩, .int .i64 2]) (by simp [results, Tryd.results12, go_sem, d0, d1]) rfl ⟨by rw [HRn.out]; rfl, hd4⟩
        · have hx : ((s[k].toNat : Int) != 34) = true := by
            rw [bne_iff_ne]; exact fun h => h34 (u8_of (n := 34) (by decide) h)
          by_cases h92 : s[k] = 92
          · have hx9 : ((s[k].toNat : Int) == 92) = true := by rw [h92]; decide
            rw [h92] at hq
            by_cases hlt2 : k + 1 < s.size
            · have hdr2 := drop_cons (l := s.data.toList) (k := k + 1) (by rw [data_len]; exact hlt2)
              rw [gd_eq s (k + 1) hlt2] at hdr2
              rw [hdr2, qt_92] at hq
              have hlt2i : (k : Int) + 1 < (s.size : Int) := by omega
              by_cases hod : (s[k + 1].toNat < 32 ∨ 126 < s[k + 1].toNat)
              · have ho : outP s[k + 1] = true := by simpa [outP] using hod
                rw [ho] at hq
                have HRn : Hid (R = .no) := Lib.hid hq
                clear hq hdr hdr2 ho h34 h92
                rcases (show s[k + 1].toNat < 32 ∨ (32 ≤ s[k + 1].toNat ∧ 126 < s[k + 1].toNat) by omega) with y1 | ⟨y1, y2⟩
                all_goals
                  clear hod
                  go_wp2_with fail
                  obtain ⟨W4, hW4, d0, d1, hd4⟩ := fin25 kb hg0 hu (.string ⟨#[]⟩) (.string ⟨#[]⟩)
                  rw [hW4]
                  exact bodyPost_ret (v := .tuple #[.agg #[.string ⟨#[]⟩, .string ⟨#[]⟩], .string ⟨#[]⟩, .int .i64 2]) (by simp [results, Tryd.results12, go_sem, d0, d1]) rfl ⟨by rw [HRn.out]; rfl, hd4⟩
              · have ho : outP s[k + 1] = false := by simp [outP]; omega
                rw [ho] at hq
                have hq2 : R = qtR (qtA (acc ++ [s[k + 1]]) (qtL (s.data.toList.drop (k + 2)))) := by rw [hq, ← qtA_one]; rfl
                have y1 : 32 ≤ s[k + 1].toNat := by omega
                have y2 : s[k + 1].toNat ≤ 126 := by omega
                obtain ⟨v', w2, hap, hown2, hu2, _⟩ := appB hown [s[k + 1]] (by simp) hgu (by simp; omega) #[.int .u8 s[k + 1].toNat] rfl 1 rfl
                have kb2 := kb.upd hu2 (fun e => by have := (hltv g e).1; omega)
                have hu3 : Upd w w2 Nope := hu.trans hu2 (fun _ _ h => h) (fun i hi e => by have h1 := (hltv i e).1; omega)
                have HO2 : Hid (w2.ownsRow (g + 1) 5 1 v' (acc ++ [s[k + 1]]).length ((acc ++ [s[k + 1]]).map u8v)) := Lib.hid (by rw [List.length_append]; exact hown2)
                have HQ2 := Lib.hid hq2
                clear hq hq2 hdr hdr2 ho hod h34 h92 hown hown2 hltv hu2 hu
                go_wp2_with (at_builtin; refine wpList_append_eq _ _ rfl rfl hap rfl rfl rfl ?_)
                go_roundw
                case rel => exact ⟨k + 2, acc ++ [s[k + 1]], by omega, by omega, by go_num, HO2.out, by rw [List.length_append]; simp; omega, HQ2.out, kb2, hu3⟩
                case measure => simp [intOf]; omega
            · have hdr2 : s.data.toList.drop (k + 1) = [] := List.drop_of_length_le (by rw [data_len]; omega)
              rw [hdr2, qt_92n] at hq
              have HRn : Hid (R = .no) := Lib.hid hq
              have hlt2i : ¬ ((k : Int) + 1 < (s.size : Int)) := by omega
              have hlt2j : (s.size : Int) ≤ (k : Int) + 1 := by omega
              clear hq hdr hdr2 h34 h92 hlt2
              go_wp2_with fail
              obtain ⟨W4, hW4, d0, d1, hd4⟩ := fin25 kb hg0 hu (.string ⟨#[]⟩) (.string ⟨#[]⟩)
              rw [hW4]
              exact bodyPost_ret (v := .tuple #[.agg #[.string ⟨#[]⟩, .string ⟨#[]⟩], .string ⟨#[]⟩, .int .i64 2]) (by simp [results, Tryd.results12, go_sem, d0, d1]) rfl ⟨by rw [HRn.out]; rfl, hd4⟩
          · have hx9 : ((s[k].toNat : Int) == 92) = false := by
              rw [beq_eq_false_iff_ne]; exact fun h => h92 (u8_of (n := 92) (by decide) h)
            rw [qt_o _ h34 h92] at hq
            by_cases hod : (s[k].toNat < 32 ∨ 126 < s[k].toNat)
            · have ho : outP s[k] = true := by simpa [outP] using hod
              rw [ho] at hq
              have HRn : Hid (R = .no) := Lib.hid hq
              clear hq hdr ho h34 h92
              rcases (show s[k].toNat < 32 ∨ (32 ≤ s[k].toNat ∧ 126 < s[k].toNat) by omega) with y1 | ⟨y1, y2⟩
              all_goals
                clear hod
                go_wp2_with fail
                obtain ⟨W4, hW4, d0, d1, hd4⟩ := fin25 kb hg0 hu (.string ⟨#[]⟩) (.string ⟨#[]⟩)
                rw [hW4]
                exact bodyPost_ret (v := .tuple #[.agg #[.string ⟨#[]⟩, .string ⟨#[]⟩], .string ⟨#[]⟩, .int .i64 2]) (by simp [results, Tryd.results12, go_sem, d0, d1]) rfl ⟨by rw [HRn.out]; rfl, hd4⟩
            · have ho : outP s[k] = false := by simp [outP]; omega
              rw [ho] at hq
              have hq2 : R = qtR (qtA (acc ++ [s[k]]) (qtL (s.data.toList.drop (k + 1)))) := by rw [hq, ← qtA_one]; rfl
              have y1 : 32 ≤ s[k].toNat := by omega
              have y2 : s[k].toNat ≤ 126 := by omega
              obtain ⟨v', w2, hap, hown2, hu2, _⟩ := appB hown [s[k]] (by simp) hgu (by simp; omega) #[.int .u8 s[k].toNat] rfl 1 rfl
              have kb2 := kb.upd hu2 (fun e => by have := (hltv g e).1; omega)
              have hu3 : Upd w w2 Nope := hu.trans hu2 (fun _ _ h => h) (fun i hi e => by have h1 := (hltv i e).1; omega)
              have HO2 : Hid (w2.ownsRow (g + 1) 5 1 v' (acc ++ [s[k]]).length ((acc ++ [s[k]]).map u8v)) := Lib.hid (by rw [List.length_append]; exact hown2)
              have HQ2 := Lib.hid hq2
              clear hq hq2 hdr ho hod h34 h92 hown hown2 hltv hu2 hu
              go_wp2_with (at_builtin; refine wpList_append_eq _ _ rfl rfl hap rfl rfl rfl ?_)
              go_roundw
              case rel => exact ⟨k + 1, acc ++ [s[k]], by omega, by omega, by go_num, HO2.out, by rw [List.length_append]; simp; omega, HQ2.out, kb2, hu3⟩
              case measure => simp [intOf]; omega
      · obtain rfl : k = s.size := by omega
        have hdr : s.data.toList.drop s.size = [] := List.drop_of_length_le (by rw [data_len]; exact Nat.le_refl _)
        rw [hdr] at hq
        have HRn : Hid (R = .no) := Lib.hid hq
        obtain ⟨A, cap, rfl, _⟩ := rd1_of_owns hown
        clear hq hdr
        go_wp2_with fail
        obtain ⟨W4, hW4, d0, d1, hd4⟩ := fin25 kb hg0 hu (.string ⟨#[]⟩) (.string ⟨#[]⟩)
        rw [hW4]
        exact bodyPost_ret (v := .tuple #[.agg #[.string ⟨#[]⟩, .string ⟨#[]⟩], .string ⟨#[]⟩, .int .i64 2]) (by simp [results, Tryd.results12, go_sem, d0, d1]) rfl ⟨by rw [HRn.out]; rfl, hd4⟩
  · exact absurd trivial hdum
end Go.Proofs.YthfmjiafdfoajaaDoor
