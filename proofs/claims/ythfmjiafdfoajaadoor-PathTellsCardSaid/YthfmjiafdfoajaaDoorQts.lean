/- PathQuotes: its walk. -/
import Derived.Test.YthfmjiafdfoajaaDoorRf1
import Derived.Deep.RegionWith
import Derived.Deep.Cut
import Derived.Laws.IdiomStrings
import Derived.Laws.BytesArg
set_option linter.unusedVariables false
set_option linter.unusedSimpArgs false
namespace Go.Proofs.YthfmjiafdfoajaaDoor
open Go.RowKit Go.Shelf

theorem infoB5 : (Tryd.prog.info? 5).map (fun i => (i.zero, i.size, i.bytes)) = some (some (.int .u8 0), 1, 1) := by kernel_rfl
/-- A byte's cell. -/
def u8v (b : UInt8) : Value := .int .u8 b.toNat
/-- Bytes more, behind a row of the call's own. -/
theorem appB {W : World} {B n : Nat} {v : Value} {xs : List UInt8} (hown : W.ownsRow B 5 1 v n (xs.map u8v)) (ys : List UInt8) (hy : ys ≠ []) (hB : B ≤ W.heap.size) (hn : n + ys.length ≤ 1000000) (cs : Array Value) (hcs : cs.toList = ys.map u8v) (m : Nat) (hm : m = ys.length) :
    ∃ v' w', (Builtin.append_ #[42, 42] 42 #[v, .slice (some ⟨W.heap.size, 0, none⟩) m m]).run Tryd.prog (W.alloc (.cells cs 5)) = .ok v' w' ∧ w'.ownsRow B 5 1 v' (n + m) ((xs ++ ys).map u8v) ∧
      Upd W w' (fun k => v.ownBlock = some k) ∧ ∀ k, v'.ownBlock = some k → v.ownBlock = some k ∨ W.heap.size ≤ k := by
  obtain ⟨i0, hi, hz0, hz1, hz2⟩ := info_parts infoB5
  subst hm
  have hr : Rd1 u8v (W.alloc (.cells cs 5)) (some ⟨W.heap.size, 0, none⟩) ys := rd1_blk (Blk.new W cs 5) hcs
  obtain ⟨v', w', h1, h2, h3, h4⟩ := append_row (P := Tryd.prog) B 42 Tryd.underlying42 hi hz0 hz1 hz2 rfl (fun _ => by simp [u8v, Value.oneCell']) (hown.alloc (.cells cs 5)) (c := ys.length) hr (by intro h; cases h) (by unfold maxLen; omega) (by omega) (by simp; omega)
  refine ⟨v', w', h1, h2, ((Upd.refl W _).alloc _).grown h3 (fun k e => .inl e), fun k hk => ?_⟩
  rcases h4 with e | e
  · exact .inl (by rw [← e]; exact hk)
  · rw [e] at hk
    injection hk with hk
    right
    simp at hk
    omega
/-- string(b) of a row of the call's own. -/
theorem strB {W : World} {B n : Nat} {v : Value} {xs : List UInt8} (hown : W.ownsRow B 5 1 v n (xs.map u8v)) : (convert 42 9 v).run Tryd.prog W = .ok (.string (bs xs)) W := by
  obtain ⟨A, cap, rfl, hn, hrd, hnil, _⟩ := rd1_of_owns hown
  cases A with
  | none =>
    have hx : xs = [] := by
      cases xs with
      | nil => rfl
      | cons x l => obtain ⟨ad, h, _⟩ := hrd 0 (by simp); cases h
    subst hx
    exact run_convert_bytes_nil W 42 5 Tryd.underlying42 Tryd.underlying5 _ _ 9 Tryd.underlying9
  | some ad =>
    subst hn
    exact run_convert_bytes_back W 42 9 5 ad cap xs Tryd.underlying42 Tryd.underlying5 Tryd.underlying9 (fun j hj => hrd.at_ j hj)
theorem bs_snoc (l : List UInt8) (k : Nat) (h : k < l.length) : bsL (l.take (k + 1)) = bsL (l.take k) ++ [92, l.getD k 0] := by
  rw [take_snoc l k h]
  simp [bsL]

theorem bsL_len (l : List UInt8) : (bsL l).length = 2 * l.length := by
  induction l with
  | nil => rfl
  | cons b r ih => simp only [bsL, List.flatMap_cons, List.length_append, List.length_cons, List.length_nil] at *; omega
theorem parse_bs {lo dom : List UInt8} (h1 : lo ≠ []) (h2 : lo.length ≤ 64) (h3 : lo.any outP = false) (h4 : (domL dom).2 = 0) : parseL (60 :: 34 :: (bsL lo ++ 34 :: 64 :: (dom ++ [62]))) = ⟨lo, (domL dom).1, [], 0⟩ := by
  unfold parseL
  dsimp only
  rw [if_pos rfl, if_neg (by decide), if_pos rfl, qt_bs _ _ h3]
  dsimp only
  rw [if_neg h1]
  exact tail_ok h2 h4
theorem right_dom {lo dom : List UInt8} (h1 : lo ≠ []) (h2 : lo.length ≤ 64) (h4 : (domL dom).2 = 0) : rightL lo (domL dom).1 = if lo.any outP then 2 else 0 := by
  have h5 := domL_lower h4
  have h6 := (domL_ok (d := (domL dom).1) (by rw [h5])).1
  have h7 : (domL dom).1 ≠ [] := labels_ne (domL_ok (d := (domL dom).1) (by rw [h5])).2.1
  unfold rightL
  rw [if_neg (by omega), if_neg (fun h => h7 h.1), if_neg (by rw [h5]; simp [h1])]
theorem print_second {lo d : List UInt8} (h1 : lo ≠ []) (h2 : d ≠ []) : ((printT lo d).getD 1 0 == 34) = !atomsL lo := by
  unfold printT
  rw [if_neg h2]
  cases ha : atomsL lo with
  | false => rfl
  | true =>
    obtain ⟨b, r, rfl⟩ := List.exists_cons_of_ne_nil h1
    rw [if_pos rfl]
    show (b == 34) = false
    rw [beq_eq_false_iff_ne]
    rcases atoms_ok ha b (by simp) with rfl | hb
    · decide
    · exact (at_in b hb).2.2.2
theorem any_snoc {l : List UInt8} {k : Nat} (h : k < l.length) : (l.take (k + 1)).any outP = ((l.take k).any outP || outP (l.getD k 0)) := by
  rw [take_snoc l k h, List.any_append]
  simp

set_option maxRecDepth 100000 in
set_option maxHeartbeats 8000000 in
theorem quotes_out (w : World) (lo dom : ByteArray) (hbig : lo.size = 0 ∨ 64 < lo.size ∨ 255 < dom.size) : Calls Tryd.prog 7 #[.string lo, .string dom] w fun e w' => e = .returned (.bool true) ∧ Below w.heap.size w w' := by
  rcases (show lo.size = 0 ∨ (0 < lo.size ∧ 64 < lo.size) ∨ (0 < lo.size ∧ lo.size ≤ 64 ∧ 255 < dom.size) by omega) with h | ⟨h, h2⟩ | ⟨h, h2, h3⟩
  · have hb : ((lo.size : Int) == 0) = true := by rw [h]; rfl
    have HS := Lib.hid h
    clear hbig h
    go_enter Tryd.func7, Tryd.ntmps7
    go_wp2_with fail
    refine (awake_any _).mono ?_
    rintro e wN ⟨rfl, hbN⟩
    go_wp2_with fail
    go_ret
    exact ⟨rfl, hbN⟩
  all_goals
    have hb : ((lo.size : Int) == 0) = false := by rw [beq_eq_false_iff_ne]; omega
    clear hbig
    go_enter Tryd.func7, Tryd.ntmps7
    go_wp2_with fail
    refine (awake_any _).mono ?_
    rintro e wN ⟨rfl, hbN⟩
    go_wp2_with fail
    go_ret
    exact ⟨rfl, hbN⟩

set_option maxRecDepth 100000 in
set_option maxHeartbeats 8000000 in
theorem quotes_walk (w : World) (lo : ByteArray) (hl : lo.size ≤ 140737488351232) (dom : ByteArray) (hd : dom.size ≤ 140737488351232) : Calls Tryd.prog 7 #[.string lo, .string dom] w fun e w' => e = .returned (.bool true) ∧ Below w.heap.size w w' := by
  by_cases hbig : lo.size = 0 ∨ 64 < lo.size ∨ 255 < dom.size
  · exact quotes_out w lo dom hbig
  · have h1 : 0 < lo.size := by omega
    have h2 : lo.size ≤ 64 := by omega
    have h3 : dom.size ≤ 255 := by omega
    have hb : ((lo.size : Int) == 0) = false := by rw [beq_eq_false_iff_ne]; omega
    have hD := fun W => dom_any dom W (by omega)
    clear hl hd hbig
    by_cases he : (domL dom.data.toList).2 = 0
    · have hd0 := domL_ok he
      have hdl := domL_lower he
      obtain ⟨D, hDe⟩ : ∃ D, bs (domL dom.data.toList).1 = D := ⟨_, rfl⟩
      have hDd : D.data.toList = (domL dom.data.toList).1 := by rw [← hDe]; rfl
      have hlne : lo.data.toList ≠ [] := by
        intro h
        have e := data_len lo
        rw [h, List.length_nil] at e
        omega
      have hDne : D.data.toList ≠ [] := by rw [hDd]; exact labels_ne (domL_ok (d := (domL dom.data.toList).1) (by rw [hdl])).2.1
      have hrd := right_dom (lo := lo.data.toList) hlne (by rw [data_len]; exact h2) he
      rw [← hDd] at hrd
      have hDs : D.size ≤ 255 := by
        have := (domL_ok (d := (domL dom.data.toList).1) (by rw [hdl])).1
        rw [← hDd, data_len] at this
        exact this
      obtain ⟨S, F, HP⟩ := print_c lo D (by omega) (by omega)
      have hF := HP.eq
      rw [hrd] at hF
      rw [hDe, he] at hD
      have HD := Lib.hid hD
      obtain ⟨any, hany⟩ : ∃ any, lo.data.toList.any outP = any := ⟨_, rfl⟩
      have hpb := parse_bs (lo := lo.data.toList) (dom := dom.data.toList) hlne (by rw [data_len]; exact h2)
      have hat := fun W => ratoms_any lo (by omega) W
      have hps := fun (hF : F = 0) => print_second (lo := lo.data.toList) (d := D.data.toList) hlne hDne
      rw [hany] at hF hpb
      have HANY := Lib.hid hany
      have HF := Lib.hid hF
      have HPB := Lib.hid hpb
      have HAT := Lib.hid hat
      have HPS := Lib.hid hps
      have HDD := Lib.hid hDd
      have HE := Lib.hid he
      have hlen : lo.data.toList.length = lo.size := rfl
      clear hrd hF hpb hat hps hDe hDd hdl hd0 hD hlne hDne he hany
      go_enter Tryd.func7, Tryd.ntmps7
      go_wp2_with fail
      refine (awake_any _).mono ?_
      rintro e wN ⟨rfl, hbN⟩
      go_wp2_with fail
      refine (HD.out _).mono ?_
      rintro e wM ⟨rfl, hbM⟩
      replace hbM := hbN.trans (hbM.mono hbN.size)
      have hu : Upd w wM Nope := Upd.of_below hbM Nope
      clear hbM hbN
      go_wp2_with fail
      go_loopw [7, 8, 9] (fun pv bv iv wr => ∃ (k : Nat), k ≤ lo.size ∧ iv = .int .i64 k ∧ pv = .bool (!(lo.data.toList.take k).any outP) ∧ wr.ownsRow w.heap.size 5 1 bv (2 * k) ((bsL (lo.data.toList.take k)).map u8v) ∧ Upd w wr Nope) (fun pv bv iv wr => lo.size - (intOf iv).toNat)
      case atStart => exact ⟨0, Nat.zero_le _, rfl, rfl, World.ownsRow_nil _ _ _ _, hu⟩
      case round =>
        clear hu
        obtain ⟨k, hk, rfl, rfl, hown, hu⟩ := hrel
        have hul := hu.size
        by_cases hlt : k < lo.size
        · have hsn := any_snoc (l := lo.data.toList) (show k < lo.data.toList.length from hlt)
          have hbs := bs_snoc lo.data.toList k hlt
          rw [gd_eq lo k hlt] at hsn hbs
          obtain ⟨v', w2, hap, hown2, hu2, _⟩ := appB hown [92, lo[k]] (by simp) hul (by simp; omega) #[.int .u8 92, .int .u8 lo[k].toNat] rfl 2 rfl
          have hltv := hown.lt
          have hu3 : Upd w w2 Nope := hu.trans hu2 (fun _ _ h => h) (fun i hi e => by have := (hltv i e).1; omega)
          rw [← hbs] at hown2
          generalize (lo.data.toList.take k).any outP = b0 at hsn ⊢
          have HSN := Lib.hid hsn
          have HO2 := Lib.hid hown2
          clear hsn hbs hown hltv hown2
          by_cases ho : lo[k].toNat < 32 ∨ 126 < lo[k].toNat
          · have HO : Hid (outP lo[k] = true) := Lib.hid (by simpa [outP] using ho)
            go_wp2_with (at_builtin; refine wpList_append_eq _ _ rfl rfl hap rfl rfl rfl ?_)
            all_goals
              go_roundw
              case rel => exact ⟨k + 1, by omega, by go_num, by rw [HSN.out, HO.out, Bool.or_true]; rfl, HO2.out, hu3⟩
              case measure => simp [intOf]; omega
          · have HO : Hid (outP lo[k] = false) := Lib.hid (by simp [outP]; omega)
            go_wp2_with (at_builtin; refine wpList_append_eq _ _ rfl rfl hap rfl rfl rfl ?_)
            go_roundw
            case rel => exact ⟨k + 1, by omega, by go_num, by rw [HSN.out, HO.out, Bool.or_false], HO2.out, hu3⟩
            case measure => simp [intOf]; omega
        · obtain rfl : k = lo.size := by omega
          rw [List.take_of_length_le (Nat.le_of_eq hlen)] at hown ⊢
          rw [HANY.out]
          have HOWN := Lib.hid hown
          clear hown
          go_wp2_with fail
          have kp := Blk.new wr #[.string lo, .string D] 23
          have hu1 := hu.alloc (.cells #[.string lo, .string D] 23)
          have hown1 := HOWN.out.alloc (.cells #[.string lo, .string D] 23)
          obtain ⟨gp, hgp⟩ : ∃ g, wr.heap.size = g := ⟨_, rfl⟩
          rw [hgp] at kp
          try rw [hgp]
          generalize wr.alloc (.cells #[.string lo, .string D] 23) = w1 at kp hu1 hown1 ⊢
          clear hgp HOWN hu hul
          refine (HP.call _).mono ?_
          rintro e w3 ⟨rfl, hb3⟩
          replace kp := kp.upd (Upd.of_below hb3 Nope) id
          have hown3 := own_upd hown1 (Upd.of_below hb3 Nope) (fun _ _ h => h)
          have hu3 := hu1.nn (Upd.of_below hb3 Nope)
          clear hb3 hown1 hu1
          have hcv := strB hown3
          have HOW := Lib.hid hown3
          clear hown3
          cases any with
          | true =>
            have hF2 : F = 2 := HF.out
            subst hF2
            go_wp2_with fail
            go_ret
            exact ⟨by first | rfl | simp, hu3.below (fun _ h => h.elim)⟩
          | false =>
            have hF2 : F = 0 := HF.out
            subst hF2
            obtain ⟨BS, hBS⟩ : ∃ BS, bs (bsL lo.data.toList) = BS := ⟨_, rfl⟩
            have hBSs : BS.size ≤ 128 := by
              rw [← hBS, bs_size, bsL_len, data_len]; omega
            obtain ⟨c, hc⟩ : ∃ c, (⟨#[60, 34]⟩ ++ BS ++ ⟨#[34, 64]⟩ ++ dom ++ ⟨#[62]⟩ : ByteArray) = c := ⟨_, rfl⟩
            have hcd : c.data.toList = 60 :: 34 :: (bsL lo.data.toList ++ 34 :: 64 :: (dom.data.toList ++ [62])) := by
              rw [← hc, ← hBS]; simp [ByteArray.data_append, bs]
            have hcs : c.size ≤ 400 := by
              have := congrArg List.length hcd
              simp only [List.length_cons, List.length_append, List.length_nil, bsL_len, data_len] at this
              omega
            have hpa : PaC c lo D ⟨#[]⟩ 0 := parse_at (by omega) (by rw [hcd, HPB.out rfl HE.out, ← HDD.out])
            have hSs : 1 < S.size := by
              have h9 := HP.ok rfl
              have := congrArg List.length h9
              rw [data_len] at this
              rw [this]
              unfold printT
              split
              · simp only [List.length_cons, List.length_append, List.length_nil, data_len]; omega
              · simp only [List.length_cons, List.length_append, List.length_nil]; omega
            have hs1 : (S[1] == 34) = !atomsL lo.data.toList := by
              rw [← HPS.out rfl, ← HP.ok rfl, gd_eq S 1 hSs]
            have hs2 : ((S[1].toNat : Int) == 34) = (S[1] == 34) := by
              rw [Bool.eq_iff_iff, beq_iff_eq, beq_iff_eq]
              constructor
              · intro h; exact u8_of (n := 34) (by decide) h
              · intro h; rw [h]; rfl
            rw [hs1] at hs2
            have HPA := Lib.hid hpa.call
            rw [hBS] at hcv
            have HCE := Lib.hid hc
            have HBSs := hBSs
            generalize atomsL lo.data.toList = at_ at HAT hs2
            have HS2 := Lib.hid hs2
            clear hcd hcs hpa hs1 hs2 hc hBS
            go_wp2_with fail
            clear hcv
            rw [show (⟨#[60, 34]⟩ ++ BS ++ ⟨#[34, 64]⟩ ++ dom ++ ⟨#[62]⟩ : ByteArray) = c from HCE.out]
            refine (HPA.out _).mono ?_
            rintro e w4 ⟨rfl, hb4⟩
            replace kp := kp.upd (Upd.of_below hb4 Nope) id
            have hu4 := hu3.nn (Upd.of_below hb4 Nope)
            clear hb4 hu3 HOW
            have kp0 := kp.cell 0
            have kp1 := kp.cell 1
            have kpl := kp.lt
            simp only [List.getElem?_toArray, List.getElem?_cons_zero, List.getElem?_cons_succ] at kp0 kp1
            go_wp2_with fail
            have hu5 := hu4.alloc (.cells #[.string lo, .string D] 23)
            generalize w4.alloc (.cells #[.string lo, .string D] 23) = w5 at hu5 ⊢
            clear kp0 kp1 kpl kp
            have hSi : (1 : Int) < (S.size : Int) := by omega
            refine region_uw (by kernel_rfl) (by kernel_rfl) ?_
            repeat (go_big_quiet_step (first | (go_at_call 19; exact UW.call (HAT.out _))))
            refine wpQuiet_nil ?_
            rintro _ ⟨x, rfl⟩
            go_wp2_with fail
            go_ret
            refine ⟨?_, (hu5.nn x.ok).below (fun _ h => h.elim)⟩
            have h9 := HS2.out
            show Ending.returned (Value.bool (((S[1].toNat : Int) == 34) != at_)) = _
            rw [h9]
            cases at_ <;> rfl
    · generalize (domL dom.data.toList).2 = e at hD he
      generalize (domL dom.data.toList).1 = dd at hD
      have x1 : ¬ ((e : Int) = 0) := by omega
      have x2 : ((e : Int) != 0) = true := by simpa using x1
      have HD := Lib.hid hD
      clear hD he
      go_enter Tryd.func7, Tryd.ntmps7
      go_wp2_with fail
      refine (awake_any _).mono ?_
      rintro e wN ⟨rfl, hbN⟩
      go_wp2_with fail
      refine (HD.out _).mono ?_
      rintro e wM ⟨rfl, hbM⟩
      replace hbM := hbN.trans (hbM.mono hbN.size)
      go_wp2_with fail
      go_ret
      exact ⟨rfl, hbM⟩
end Go.Proofs.YthfmjiafdfoajaaDoor
