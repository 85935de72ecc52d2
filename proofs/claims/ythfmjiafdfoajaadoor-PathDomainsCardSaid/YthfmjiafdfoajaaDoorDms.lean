/- PathDomains: its walk. -/
import Derived.Test.YthfmjiafdfoajaaDoorAwk
set_option linter.unusedVariables false
set_option linter.unusedSimpArgs false
namespace Go.Proofs.YthfmjiafdfoajaaDoor
open Go.RowKit Go.Shelf

def upB (b : UInt8) : UInt8 := if 97 ≤ b ∧ b ≤ 122 then b - 32 else b
theorem labels_cat (a b : List UInt8) : labelsL (a ++ 46 :: b) = (labelsL a && labelsL b) := by
  unfold labelsL
  rw [spl_append, List.all_append]
theorem lower_cat (a b : List UInt8) : Lib.toLowerA (a ++ 46 :: b) = Lib.toLowerA a ++ 46 :: Lib.toLowerA b := by
  unfold Lib.toLowerA
  rw [List.map_append, List.map_cons]
  rfl
theorem dom_cat3 {a b : List UInt8} (h : 255 < a.length + b.length + 1) : domL (a ++ 46 :: b) = ([], 3) := by
  unfold domL
  rw [if_pos (by simp only [List.length_append, List.length_cons]; omega)]
theorem dom_cat0 {a b : List UInt8} (ha : (domL a).2 = 0) (hb : (domL b).2 = 0) (h : a.length + b.length + 1 ≤ 255) : domL (a ++ 46 :: b) = ((domL a).1 ++ 46 :: (domL b).1, 0) := by
  obtain ⟨_, h1, h2⟩ := domL_ok ha
  obtain ⟨_, h3, h4⟩ := domL_ok hb
  rw [h2, h4]
  unfold domL
  rw [if_neg (by simp only [List.length_append, List.length_cons]; omega), labels_cat, h1, h3, lower_cat]
  rfl
theorem dom_catn {a b : List UInt8} (h : ¬ ((domL a).2 = 0 ∧ (domL b).2 = 0)) : (domL (a ++ 46 :: b)).2 ≠ 0 := by
  intro hc
  apply h
  obtain ⟨h1, h2, _⟩ := domL_ok hc
  rw [labels_cat, Bool.and_eq_true] at h2
  simp only [List.length_append, List.length_cons] at h1
  unfold domL
  rw [if_neg (show ¬ 255 < a.length by omega), if_neg (show ¬ 255 < b.length by omega), if_pos h2.1, if_pos h2.2]
  exact ⟨rfl, rfl⟩
theorem up_dot (b : UInt8) : upB b = 46 ↔ b = 46 := by
  have := u8_all (fun b => (upB b == 46) == (b == 46)) (by decide +kernel) b
  rw [beq_iff_eq, Bool.eq_iff_iff] at this
  simpa using this
theorem up_lab (b : UInt8) : (upB b = 45 ↔ b = 45) ∧ letP (upB b) = letP b := by
  have := u8_all (fun b => ((upB b == 45) == (b == 45)) && (letP (upB b) == letP b)) (by decide +kernel) b
  rw [Bool.and_eq_true, beq_iff_eq, beq_iff_eq, Bool.eq_iff_iff] at this
  simpa using this
theorem up_lower (b : UInt8) : Lib.lowerB (upB b) = Lib.lowerB b := by
  have := u8_all (fun b => Lib.lowerB (upB b) == Lib.lowerB b) (by decide +kernel) b
  simpa using this
theorem dom_up {a : List UInt8} (h : (domL a).2 = 0) : domL (a.map upB) = ((domL a).1, 0) := by
  obtain ⟨h1, h2, h3⟩ := domL_ok h
  rw [h3]
  unfold domL
  rw [if_neg (by simp; omega), labels_map _ up_dot up_lab, h2]
  simp [Lib.toLowerA, Function.comp_def, up_lower]
theorem lower_small (b : UInt8) : ¬ (65 ≤ (Lib.lowerB b).toNat ∧ (Lib.lowerB b).toNat ≤ 90) := by
  have := u8_all (fun b => !(decide (65 ≤ (Lib.lowerB b).toNat) && decide ((Lib.lowerB b).toNat ≤ 90))) (by decide +kernel) b
  intro h
  rw [decide_eq_true h.1, decide_eq_true h.2] at this
  cases this
theorem up_in {b : UInt8} (h : 97 ≤ b.toNat ∧ b.toNat ≤ 122) : (upB b).toNat = b.toNat - 32 := by
  have := u8_all (fun b => !(decide (97 ≤ b.toNat) && decide (b.toNat ≤ 122)) || decide ((upB b).toNat = b.toNat - 32)) (by decide +kernel) b
  simp only [h.1, h.2, decide_true, Bool.and_self, Bool.not_true, Bool.false_or, decide_eq_true_eq] at this
  exact this
theorem up_out {b : UInt8} (h : ¬ (97 ≤ b.toNat ∧ b.toNat ≤ 122)) : upB b = b := by
  have := u8_all (fun b => (decide (97 ≤ b.toNat) && decide (b.toNat ≤ 122)) || (upB b == b)) (by decide +kernel) b
  have h' : (decide (97 ≤ b.toNat) && decide (b.toNat ≤ 122)) = false := by simpa using h
  rw [h', Bool.false_or] at this
  simpa using this

theorem dom_len (d : List UInt8) : (domL d).1.length ≤ d.length := by
  unfold domL
  split
  · simp
  · split
    · simp [Lib.toLowerA]
    · simp
theorem cat_data (a b : ByteArray) : (a ++ ⟨#[46]⟩ ++ b : ByteArray).data.toList = a.data.toList ++ 46 :: b.data.toList := by
  simp [ByteArray.data_append]
def upK (l : List UInt8) (k : Nat) : List UInt8 := (l.take k).map upB ++ l.drop k
theorem upK_len (l : List UInt8) (k : Nat) : (upK l k).length = l.length := by
  unfold upK
  rw [List.length_append, List.length_map, ← List.length_append, List.take_append_drop]
theorem upK_at (l : List UInt8) (k : Nat) (h : k < l.length) : upK l k = (l.take k).map upB ++ l.getD k 0 :: l.drop (k + 1) := by
  unfold upK
  rw [drop_cons h]
theorem upK_next (l : List UInt8) (k : Nat) (h : k < l.length) : upK l (k + 1) = (l.take k).map upB ++ upB (l.getD k 0) :: l.drop (k + 1) := by
  unfold upK
  rw [take_snoc l k h, List.map_append, List.append_assoc]
  rfl
theorem upK_get (l : List UInt8) (k : Nat) (h : k < l.length) : (upK l k).getD k 0 = l.getD k 0 := by
  have e : ((l.take k).map upB).length = k := by simp; omega
  rw [upK_at l k h, List.getD, List.getElem?_append_right (by omega), e, Nat.sub_self]
  rfl
theorem upK_set (l : List UInt8) (k : Nat) (h : k < l.length) : (upK l k).set k (upB (l.getD k 0)) = upK l (k + 1) := by
  have e : ((l.take k).map upB).length = k := by simp; omega
  rw [upK_at l k h, upK_next l k h, List.set_append_right _ _ (by omega), e, Nat.sub_self]
  rfl
theorem upK_same (l : List UInt8) (k : Nat) (h : k < l.length) (hc : upB (l.getD k 0) = l.getD k 0) : upK l (k + 1) = upK l k := by
  rw [upK_at l k h, upK_next l k h, hc]
theorem upK_end (l : List UInt8) {k : Nat} (h : l.length ≤ k) : upK l k = l.map upB := by
  unfold upK
  rw [List.take_of_length_le h, List.drop_of_length_le h, List.append_nil]
def TrueP (w : World) (e : Ending) (w' : World) : Prop := e = .returned (.bool true) ∧ Below w.heap.size w w'

set_option maxRecDepth 100000 in
set_option maxHeartbeats 8000000 in
theorem domains_walk (w : World) (a : ByteArray) (ha : a.size ≤ 140737488351232) (b : ByteArray) (hb : b.size ≤ 140737488351232) : Calls Tryd.prog 5 #[.string a, .string b] w fun e w' => e = .returned (.bool true) ∧ Below w.heap.size w w' := by
  by_cases hbig : 400 < a.size ∨ 400 < b.size
  · go_enter Tryd.func5, Tryd.ntmps5
    go_wp2_with fail
    refine (awake_any _).mono ?_
    rintro e w1 ⟨rfl, hb1⟩
    go_wp2_with fail
    all_goals (go_ret; exact ⟨rfl, hb1⟩)
  · have hA := fun W => dom_any a W (by omega)
    have hB := fun W => dom_any b W (by omega)
    obtain ⟨c, hc⟩ : ∃ c, (a ++ ⟨#[46]⟩ ++ b : ByteArray) = c := ⟨_, rfl⟩
    have hcd : c.data.toList = a.data.toList ++ 46 :: b.data.toList := by rw [← hc, cat_data]
    have hcs : c.size = a.size + 1 + b.size := by
      have := congrArg List.length hcd
      simp only [List.length_append, List.length_cons, data_len] at this
      omega
    have hC := fun W => dom_any c W (by omega)
    rw [hcd] at hC
    have HCC := Lib.hid hc
    have k3 := @dom_cat3 a.data.toList b.data.toList
    have k0 := @dom_cat0 a.data.toList b.data.toList
    have kn := @dom_catn a.data.toList b.data.toList
    have kx := @domL_lower a.data.toList
    have ku := @dom_up a.data.toList
    have kl := @domL_ok a.data.toList
    rw [data_len, data_len] at k3 k0
    obtain ⟨xl, hxl⟩ : ∃ xl, (domL a.data.toList).1 = xl := ⟨_, rfl⟩
    obtain ⟨yl, hyl⟩ : ∃ yl, (domL b.data.toList).1 = yl := ⟨_, rfl⟩
    obtain ⟨X, hX⟩ : ∃ X, bs xl = X := ⟨_, rfl⟩
    obtain ⟨Y, hY⟩ : ∃ Y, bs yl = Y := ⟨_, rfl⟩
    obtain ⟨zl, hzl⟩ : ∃ zl, (domL (a.data.toList ++ 46 :: b.data.toList)).1 = zl := ⟨_, rfl⟩
    obtain ⟨Z, hZ⟩ : ∃ Z, bs zl = Z := ⟨_, rfl⟩
    have k0' : (domL a.data.toList).2 = 0 → (domL b.data.toList).2 = 0 → a.size + b.size + 1 ≤ 255 → (domL (a.data.toList ++ 46 :: b.data.toList)).2 = 0 ∧ (Z.toList == (X ++ ⟨#[46]⟩ ++ Y).toList) = true := by
      intro h1 h2 h3
      have := k0 h1 h2 h3
      have hz : Z = X ++ ⟨#[46]⟩ ++ Y := by
        apply bytes_eq
        rw [cat_data, ← hX, ← hY, ← hZ, bs_data, bs_data, bs_data, ← hzl, this, hxl, hyl]
      rw [this, ← hz]
      exact ⟨rfl, by simp⟩
    have k3' : 255 < a.size + b.size + 1 → (domL (a.data.toList ++ 46 :: b.data.toList)).2 = 3 := fun h => by rw [k3 h]
    have kx' : (domL a.data.toList).2 = 0 → ∀ W, Calls Tryd.prog 13 #[.string X] W fun e w' => e = .returned (.tuple #[.string X, .int .i64 0]) ∧ Below W.heap.size W w' := by
      intro h W
      have hs : X.data.toList = (domL a.data.toList).1 := by rw [← hX, bs_data, hxl]
      have h2 := dom_any X W (by have := congrArg List.length hs; rw [data_len, (kl h).2.2] at this; simp [Lib.toLowerA] at this; omega)
      rw [hs, kx h, hxl, hX] at h2
      exact h2
    have ku' : (domL a.data.toList).2 = 0 → ∀ W, Calls Tryd.prog 13 #[.string (bs (a.data.toList.map upB))] W fun e w' => e = .returned (.tuple #[.string X, .int .i64 0]) ∧ Below W.heap.size W w' := by
      intro h W
      have h2 := dom_any (bs (a.data.toList.map upB)) W (by rw [bs_size]; simp; omega)
      rw [bs_data, ku h, hxl, hX] at h2
      exact h2
    have kl' : (domL a.data.toList).2 = 0 → X.data.toList = Lib.toLowerA a.data.toList := by
      intro h
      rw [← hX, bs_data, ← hxl]
      exact (kl h).2.2
    have hXs0 : X.size ≤ a.size := by rw [← hX, bs_size, ← hxl]; exact dom_len _
    have hYs0 : Y.size ≤ b.size := by rw [← hY, bs_size, ← hyl]; exact dom_len _
    rw [hxl, hX] at hA
    rw [hyl, hY] at hB
    rw [hzl, hZ] at hC
    generalize (domL (a.data.toList ++ 46 :: b.data.toList)).2 = g at hC k0' k3' kn
    generalize (domL a.data.toList).2 = e at *
    generalize (domL b.data.toList).2 = f at *
    have HA := Lib.hid hA
    have HB := Lib.hid hB
    have HC := Lib.hid hC
    have K0 := Lib.hid k0'
    have K3 := Lib.hid k3'
    have KN := Lib.hid kn
    have KX := Lib.hid kx'
    have KU := Lib.hid ku'
    have KL := Lib.hid kl'
    have hs1 : a.size ≤ 400 := by omega
    have hs2 : b.size ≤ 400 := by omega
    have hs3 : X.size ≤ 400 := by omega
    have hs4 : Y.size ≤ 400 := by omega
    clear hXs0 hYs0
    clear hA hB hC k0' k3' kn kx' ku' kl' k0 k3 kx ku kl hc hcd hcs hxl hyl hzl hX hY hZ hbig ha hb
    by_cases he : e = 0
    · subst he
      have hXd := KL.out rfl
      have hXs : X.size = a.size := by
        have := congrArg List.length hXd
        rw [data_len] at this
        simpa [Lib.toLowerA] using this
      have HXD := Lib.hid hXd
      have KX2 := Lib.hid (KX.out rfl)
      have KU2 := Lib.hid (KU.out rfl)
      clear KX KU KL
      have HXS := Lib.hid hXs
      clear hXd
      go_enter Tryd.func5, Tryd.ntmps5
      go_wp2_with fail
      refine (awake_any _).mono ?_
      rintro e w1 ⟨rfl, hb1⟩
      go_wp2_with fail
      refine (HA.out _).mono ?_
      rintro e w2 ⟨rfl, hb2⟩
      replace hb2 := hb1.trans (hb2.mono hb1.size)
      clear hb1
      go_wp2_with fail
      refine (HB.out _).mono ?_
      rintro e w3 ⟨rfl, hb3⟩
      replace hb3 := hb2.trans (hb3.mono hb2.size)
      clear hb2
      go_wp2_with fail
      rw [show (a ++ ⟨#[46]⟩ ++ b : ByteArray) = c from HCC.out]
      refine (HC.out _).mono ?_
      rintro e w4 ⟨rfl, hb4⟩
      replace hb4 := hb3.trans (hb4.mono hb3.size)
      clear hb3
      go_wp2_with fail
      refine (KX2.out _).mono ?_
      rintro e w5 ⟨rfl, hb5⟩
      replace hb5 := hb4.trans (hb5.mono hb4.size)
      clear hb4
      have kc := Lib.run_convert_string_bytes (P := Tryd.prog) w5 9 42 5 a Tryd.underlying9 Tryd.underlying42 Tryd.underlying5
      go_wp2_with fail
      have hby := Byt.new w5 a
      have hub := Byt.newUpd w5 a Nope
      rw [show a.data.toList = upK a.data.toList 0 from rfl] at hby
      obtain ⟨g0, hg0⟩ : ∃ g0, w5.heap.size = g0 := ⟨_, rfl⟩
      rw [hg0] at hby ⊢
      have hgl : w.heap.size ≤ g0 := by have := hb5.size; omega
      have hu6 : Upd w (Lib.bytesWorld w5 5 a) Nope := (Upd.of_below hb5 Nope).nn hub
      generalize hcap : grownCap w5 a.size 0 5 = cap
      generalize Lib.bytesWorld w5 5 a = w6 at hby hu6 ⊢
      clear hub hb5 kc hg0 hcap
      go_loopw [14] (fun i wr => ∃ k : Nat, k ≤ a.size ∧ i = .int .i64 k ∧ Byt wr g0 (upK a.data.toList k) ∧ Upd w wr Nope) (fun i wr => a.size - (intOf i).toNat)
      case atStart => exact ⟨0, Nat.zero_le _, rfl, hby, hu6⟩
      case round =>
        clear hby hu6
        obtain ⟨k, hk, rfl, hby, hu⟩ := hrel
        by_cases hlt : k < a.size
        · have hlx : k < X.size := by rw [HXS.out]; exact hlt
          have hxk : X[k] = Lib.lowerB (a.data.toList.getD k 0) := by
            rw [← gd_eq X k hlx, HXD.out]
            unfold Lib.toLowerA
            rw [List.getD, List.getElem?_map, List.getD, List.getElem?_eq_getElem (show k < a.data.toList.length from hlt)]
            rfl
          have hsm := lower_small (a.data.toList.getD k 0)
          rw [← hxk] at hsm
          have hlk : k < (upK a.data.toList k).length := by rw [upK_len]; exact hlt
          have hcell := hby.cell k hlk
          have hfrz := hby.frz k hlk
          rw [upK_get _ _ (show k < a.data.toList.length from hlt)] at hcell
          have hset := upK_set a.data.toList k hlt
          have hst := fun (n : Nat) (hn : n = (upB (a.data.toList.getD k 0)).toNat) => hby.set k (upB (a.data.toList.getD k 0)) hlk n hn
          rw [hset] at hst
          have hsame := upK_same a.data.toList k hlt
          have hbb := (a.data.toList.getD k 0).toNat_lt
          have hin := @up_in (a.data.toList.getD k 0)
          have hout := @up_out (a.data.toList.getD k 0)
          generalize a.data.toList.getD k 0 = c at *
          have hglt := hby.lt
          by_cases hlet : 97 ≤ c.toNat ∧ c.toNat ≤ 122
          · obtain ⟨l1, l2⟩ := hlet
            have hE : ((c.toNat : Int) - 32) = (((upB c).toNat : Nat) : Int) := by rw [hin ⟨l1, l2⟩]; omega
            have HST := Lib.hid (hst _ rfl)
            clear hst hset hsame hin hout hxk hby
            rcases (show X[k].toNat < 65 ∨ (65 ≤ X[k].toNat ∧ 90 < X[k].toNat) by omega) with hx | ⟨hx, hx2⟩
            all_goals
              clear hsm
              go_wp2_with fail
              go_roundw
              case rel => exact ⟨k + 1, by omega, by go_num, HST.out, hu.set _ _ (.inr hgl)⟩
              case measure => simp [intOf]; omega
          · have HS := Lib.hid (hsame (hout hlet))
            clear hst hset hsame hin hout hxk
            rcases (show X[k].toNat < 65 ∨ (65 ≤ X[k].toNat ∧ 90 < X[k].toNat) by omega) with hx | ⟨hx, hx2⟩
            all_goals
              rcases (show c.toNat < 97 ∨ (97 ≤ c.toNat ∧ 122 < c.toNat) by omega) with hy | ⟨hy, hy2⟩
              all_goals
                clear hsm hlet
                go_wp2_with fail
                go_roundw
                case rel => exact ⟨k + 1, by omega, by go_num, by rw [HS.out]; exact hby, hu⟩
                case measure => simp [intOf]; omega
        · obtain rfl : k = a.size := by omega
          rw [upK_end _ (show a.data.toList.length ≤ a.size from Nat.le_refl _)] at hby
          have hcv := hby.str cap
          rw [List.length_map, data_len] at hcv
          obtain ⟨U, hU⟩ : ∃ U, bs (a.data.toList.map upB) = U := ⟨_, rfl⟩
          change (convert 42 9 _).run _ _ = .ok (.string (bs (a.data.toList.map upB))) _ at hcv
          rw [hU] at hcv KU2
          clear hby
          go_wp2_with fail
          refine (KU2.out _).mono ?_
          rintro e w7 ⟨rfl, hb7⟩
          have hu7 := hu.nn (Upd.of_below hb7 Nope)
          have hbf : Below w.heap.size w w7 := hu7.below (fun _ h => h.elim)
          clear hb7 hu hu7 hcv
          by_cases hf : f = 0
          · have K0' := K0
            subst hf
            by_cases hsz : 255 < a.size + b.size + 1
            · have hg := K3.out hsz
              subst hg
              clear K0 K3 KN
              go_wp2_with fail
              go_ret
              exact ⟨rfl, hbf⟩
            · obtain ⟨hg, hz⟩ := K0.out (by trivial) (by trivial) (by omega)
              subst hg
              clear K0 K3 KN
              go_wp2_with fail
              go_ret
              exact ⟨by simp [hz], hbf⟩
          · have hg : g ≠ 0 := KN.out (fun h => hf h.2)
            have x1 : ¬ ((f : Int) = 0) := by omega
            have x2 : ((f : Int) == 0) = false := by simpa using x1
            have y1 : ¬ ((g : Int) = 0) := by omega
            have y2 : ((g : Int) != 0) = true := by simpa using y1
            clear K0 K3 KN hg hf
            go_wp2_with fail
            go_ret
            exact ⟨by simp [y2], hbf⟩
    · have hg : g ≠ 0 := KN.out (fun h => he h.1)
      have x1 : ¬ ((e : Int) = 0) := by omega
      have x2 : ((e : Int) == 0) = false := by simpa using x1
      have y1 : ¬ ((g : Int) = 0) := by omega
      have y2 : ((g : Int) != 0) = true := by simpa using y1
      clear K0 K3 KN KX KU KL hg he
      go_enter Tryd.func5, Tryd.ntmps5
      go_wp2_with fail
      refine (awake_any _).mono ?_
      rintro e w1 ⟨rfl, hb1⟩
      go_wp2_with fail
      refine (HA.out _).mono ?_
      rintro e w2 ⟨rfl, hb2⟩
      replace hb2 := hb1.trans (hb2.mono hb1.size)
      clear hb1
      go_wp2_with fail
      refine (HB.out _).mono ?_
      rintro e w3 ⟨rfl, hb3⟩
      replace hb3 := hb2.trans (hb3.mono hb2.size)
      clear hb2
      go_wp2_with fail
      rw [show (a ++ ⟨#[46]⟩ ++ b : ByteArray) = c from HCC.out]
      refine (HC.out _).mono ?_
      rintro e w4 ⟨rfl, hb4⟩
      replace hb4 := hb3.trans (hb4.mono hb3.size)
      clear hb3
      go_wp2_with fail
      go_ret
      exact ⟨by simp [y2], hb4⟩
end Go.Proofs.YthfmjiafdfoajaaDoor
