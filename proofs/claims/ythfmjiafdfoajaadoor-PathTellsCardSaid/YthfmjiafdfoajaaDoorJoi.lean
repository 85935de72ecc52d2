/- path.Join. -/
import Derived.Test.YthfmjiafdfoajaaDoorPa0
import Derived.Test.YthfmjiafdfoajaaDoorRowsA
import Derived.Lib.Join
set_option linter.unusedVariables false
set_option linter.unusedSimpArgs false
namespace Go.Proofs.YthfmjiafdfoajaaDoor
open Go.RowKit Go.Shelf

abbrev Pt := ByteArray × ByteArray
def Pc (p : Pt) : List Value := [.string p.1, .string p.2]
def prE (p : Pt) : Nat := rightN p.1 p.2
def prT (p : Pt) : List UInt8 := printL p.1 p.2
def joinE : List Pt → Nat
  | [] => 0
  | p :: r => if prE p ≠ 0 then prE p else joinE r
def joinT (L : List Pt) : List UInt8 := Lib.join (L.map prT) [32]
def joinV (L : List Pt) : Value := if joinE L = 0 then .tuple #[.string (bs (joinT L)), .int .i64 0] else .tuple #[.string ⟨#[]⟩, .int .i64 (joinE L)]
theorem joinE_ok {L : List Pt} (h : ∀ p ∈ L, prE p = 0) : joinE L = 0 := by
  induction L with
  | nil => rfl
  | cons p r ih =>
    unfold joinE
    rw [if_neg (by simp [h p (by simp)])]
    exact ih fun q hq => h q (by simp [hq])
theorem joinE_bad {a b : List Pt} {p : Pt} (h : ∀ q ∈ a, prE q = 0) (hp : prE p ≠ 0) : joinE (a ++ p :: b) = prE p := by
  induction a with
  | nil => unfold joinE; rw [List.nil_append]; show (if prE p ≠ 0 then prE p else joinE b) = _; rw [if_pos hp]
  | cons q r ih =>
    rw [List.cons_append]
    unfold joinE
    rw [if_neg (by simp [h q (by simp)])]
    exact ih fun x hx => h x (by simp [hx])
theorem split_at {L : List Pt} {k : Nat} (h : k < L.length) : L = L.take k ++ L[k] :: L.drop (k + 1) := by
  rw [← List.drop_eq_getElem_cons h, List.take_append_drop]
theorem loc_len (lo : ByteArray) : (locL lo).length ≤ 2 * lo.size + 2 := by
  have := esc_len lo.data.toList
  rw [data_len] at this
  unfold locL quoteL
  split
  · rw [data_len]; omega
  · simp only [List.length_cons, List.length_append, List.length_nil]; omega
theorem prT_len (p : Pt) : (prT p).length ≤ 2 * p.1.size + p.2.size + 5 := by
  have := loc_len p.1
  unfold prT printL
  split
  · simp only [List.length_cons, List.length_append, List.length_nil, data_len]; omega
  · simp only [List.length_cons, List.length_append, List.length_nil, data_len]; omega
theorem tail_len (r : List (List UInt8)) (M : Nat) (h : ∀ x ∈ r, x.length ≤ M) : (Lib.joinTail [32] r).length ≤ r.length * (M + 1) := by
  induction r with
  | nil => simp [Lib.joinTail]
  | cons x r ih =>
    have h1 := ih fun y hy => h y (by simp [hy])
    have h2 := h x (by simp)
    have e : Lib.joinTail [32] (x :: r) = 32 :: (x ++ Lib.joinTail [32] r) := by simp [Lib.joinTail]
    rw [e, List.length_cons, List.length_append, List.length_cons, Nat.add_one_mul]
    omega
theorem join_len (r : List (List UInt8)) (M : Nat) (h : ∀ x ∈ r, x.length ≤ M) : (Lib.join r [32]).length ≤ r.length * (M + 1) := by
  cases r with
  | nil => simp [Lib.join_nil]
  | cons x r =>
    rw [Lib.join_cons]
    have h1 := tail_len r M fun y hy => h y (by simp [hy])
    have h2 := h x (by simp)
    rw [List.length_append, List.length_cons, Nat.add_one_mul]
    omega
theorem infoS : (Tryd.prog.info? 9).map (fun i => (i.zero, i.size, i.bytes)) = some (some (.string ByteArray.empty), 1, 16) := by kernel_rfl
/-- One string more, behind a row of the call's own. -/
theorem app1 {W : World} {B n : Nat} {v : Value} {xs : List ByteArray} (hown : W.ownsRow B 9 1 v n (xs.map Value.string)) (r : ByteArray) (hB : B ≤ W.heap.size) (hn : n ≤ 1000000) :
    ∃ v' w', (Builtin.append_ #[68, 68] 68 #[v, .slice (some ⟨W.heap.size, 0, none⟩) 1 1]).run Tryd.prog (W.alloc (.cells #[.string r] 9)) = .ok v' w' ∧ w'.ownsRow B 9 1 v' (n + 1) ((xs ++ [r]).map Value.string) ∧
      Upd W w' (fun k => v.ownBlock = some k) ∧ ∀ k, v'.ownBlock = some k → v.ownBlock = some k ∨ W.heap.size ≤ k := by
  obtain ⟨i0, hi, hz0, hz1, hz2⟩ := info_parts infoS
  have hr : Rd1 Value.string (W.alloc (.cells #[.string r] 9)) (some ⟨W.heap.size, 0, none⟩) [r] := by
    intro i hi
    obtain rfl : i = 0 := by simp at hi; omega
    exact ⟨_, rfl, by simpa using (World.news_of_block (heap_alloc_new W (.cells #[.string r] 9))) 0 (.string r) rfl⟩
  obtain ⟨v', w', h1, h2, h3, h4⟩ := append_row (P := Tryd.prog) B 68 Tryd.underlying68 hi hz0 hz1 hz2 rfl (fun _ => by simp [Value.oneCell']) (hown.alloc (.cells #[.string r] 9)) (c := 1) hr (by intro h; cases h) (by unfold maxLen; simp; omega) (by simp; omega) (by simp; omega)
  refine ⟨v', w', h1, h2, ((Upd.refl W _).alloc _).grown h3 (fun k e => .inl e), fun k hk => ?_⟩
  rcases h4 with e | e
  · exact .inl (by rw [← e]; exact hk)
  · rw [e] at hk
    injection hk with hk
    right
    simp at hk
    omega
/-- strings.Join at a blank, of a row of the call's own. -/
theorem strjoin_any {W : World} {B : Nat} {v : Value} {xs : List ByteArray} (hown : W.ownsRow B 9 1 v xs.length (xs.map Value.string)) (hn : xs.length ≤ 30) (hz : ∀ x ∈ xs, x.size ≤ 5000) :
    Calls Tryd.prog 36 #[v, .string ⟨#[32]⟩] W fun e w' => e = .returned (.string (bs (Lib.join (xs.map (·.data.toList)) [32]))) ∧ Below W.heap.size W w' := by
  rcases hown.2 with ⟨rfl, h0⟩ | ⟨g, cap, cur, rfl, hb, hg, hnc, hcm, hcs, htk⟩
  · obtain rfl : xs = [] := List.length_eq_zero_iff.1 h0
    refine (Tryd.strings_Join_none none 0 ⟨#[32]⟩ W).mono ?_
    rintro e w' ⟨rfl, rfl⟩
    exact ⟨rfl, Below.refl _ _⟩
  · have hlen := join_len (xs.map (·.data.toList)) 5000 (fun x hx => by
      obtain ⟨y, hy, rfl⟩ := List.mem_map.1 hx
      rw [data_len]; exact hz y hy)
    rw [List.length_map] at hlen
    refine (Tryd.strings_Join g 0 cap xs ⟨#[32]⟩ W ?_ (Array.getElem?_eq_some_iff.1 hg).1 (by omega) hnc (by
      show (Lib.join (xs.map (·.data.toList)) [32]).length ≤ _
      have : xs.length * (5000 + 1) ≤ 30 * 5001 := Nat.mul_le_mul hn (Nat.le_refl _)
      omega)).mono ?_
    · intro j x hj
      have hjl := (List.getElem?_eq_some_iff.1 hj).1
      have e : (cur.toList.take (xs.length * 1))[j]? = some (.string x) := by rw [htk, List.getElem?_map, hj]; rfl
      rw [List.getElem?_take_of_lt (by omega)] at e
      rw [Nat.zero_add, cell_of_row W g j cur 9 (0, 0) hg, ← e]
      simp
    · rintro e w' ⟨rfl, hb⟩
      exact ⟨rfl, hb⟩

theorem own_upd {w w1 : World} {F : Nat → Prop} {B T k n : Nat} {v : Value} {l : List Value} (h : w.ownsRow B T k v n l) (u : Upd w w1 F) (hF : ∀ i, v.ownBlock = some i → ¬ F i) : w1.ownsRow B T k v n l := by
  refine ⟨h.1, ?_⟩
  rcases h.2 with hn | ⟨q, cap, cur, rfl, hbq, hq, rest⟩
  · exact .inl hn
  · exact .inr ⟨q, cap, cur, rfl, hbq, u.blk hq (hF q rfl), rest⟩
set_option maxRecDepth 100000 in
set_option maxHeartbeats 8000000 in
theorem join_any (w : World) (A : Option Addr) (cap : Nat) (L : List Pt) (hr : RdS 2 Pc w A L) (hl : L.length ≤ 30) (hok : ∀ p ∈ L, p.1.size ≤ 500 ∧ p.2.size ≤ 500) :
    Calls Tryd.prog 18 #[.slice A L.length cap] w fun e w' => e = .returned (joinV L) ∧ Below w.heap.size w w' := by
  have HR := Lib.hid hr
  have HOK := Lib.hid hok
  clear hr hok
  go_enter Tryd.func18, Tryd.ntmps18
  go_wp2_with fail
  go_loopw [11, 4] (fun i o wr => ∃ (k : Nat), k ≤ L.length ∧ i = .int .i64 k ∧ wr.ownsRow w.heap.size 9 1 o k (((L.take k).map fun p => bs (prT p)).map Value.string) ∧ (∀ p ∈ L.take k, prE p = 0) ∧ Upd w wr Nope) (fun i o wr => L.length - (intOf i).toNat)
  case atStart => exact ⟨0, Nat.zero_le _, rfl, World.ownsRow_nil _ _ _ _, by simp, Upd.refl _ _⟩
  case round =>
    obtain ⟨k, hk, rfl, hown, hz, hu⟩ := hrel
    by_cases hlt : k < L.length
    · obtain ⟨ad, rfl⟩ : ∃ ad, A = some ad := by
        obtain ⟨ad, e, _⟩ := HR.out k hlt
        exact ⟨ad, e⟩
      have hrw := HR.out.nn hu
      obtain ⟨lo, hlo⟩ : ∃ x, L[k].1 = x := ⟨_, rfl⟩
      obtain ⟨dom, hdom⟩ : ∃ x, L[k].2 = x := ⟨_, rfl⟩
      have hp : L[k] = (lo, dom) := by rw [← hlo, ← hdom]
      have c0 := hrw.f0 hlt (v := .string lo) (by rw [hp]; rfl)
      have c1 := hrw.fs hlt 0 (v := .string dom) (by rw [hp]; rfl)
      have hs := HOK.out L[k] (List.getElem_mem _)
      rw [hp] at hs
      have h1s : lo.size < 4294967281 := by have := hs.1; dsimp only at this; omega
      have h2s : dom.size < 4294967281 := by have := hs.2; dsimp only at this; omega
      have hsp := split_at hlt
      rw [hp] at hsp
      have HS := Lib.hid hsp
      have hts : L.take (k + 1) = L.take k ++ [(lo, dom)] := by rw [List.take_succ_eq_append_getElem hlt, hp]
      have HTS := Lib.hid hts
      have HZ := Lib.hid hz
      have hpe : prE (lo, dom) = rightN lo dom := rfl
      have hpt : printL lo dom = prT (lo, dom) := rfl
      have hpr : ∀ W, Calls Tryd.prog 9 #[.agg #[.string lo, .string dom]] W fun e w' => e = .returned (.tuple #[.string (if prE (lo, dom) ≠ 0 then ⟨#[]⟩ else bs (prT (lo, dom))), .int .i64 (prE (lo, dom))]) ∧ Below W.heap.size W w' := by
        intro W
        refine (print_any lo dom W h1s h2s).mono ?_
        rintro e w' ⟨rfl, hb⟩
        refine ⟨?_, hb⟩
        unfold printR
        rw [← hpe, hpt]
        split
        · rfl
        · rename_i h
          rw [show prE (lo, dom) = 0 from Decidable.byContradiction h]
          rfl
      generalize hE : prE (lo, dom) = E at hpr
      have HE := Lib.hid hE
      clear hE hrw hlo hdom hp hsp hts hz hpe hpt hs
      have hul := hu.size
      by_cases hE0 : E = 0
      · subst hE0
        simp only [ne_eq, not_true_eq_false, if_false] at hpr
        obtain ⟨T, hT⟩ : ∃ T, bs (prT (lo, dom)) = T := ⟨_, rfl⟩
        rw [hT] at hpr
        have HPR := Lib.hid hpr
        have HT := Lib.hid hT
        clear hpr hT
        go_wp2_with fail
        have hu1 : Upd w (wr.alloc (.cells #[.string lo, .string dom] 23)) Nope := hu.alloc _
        have hown1 := hown.alloc (.cells #[.string lo, .string dom] 23)
        clear c0 c1 hown hu
        generalize wr.alloc (.cells #[.string lo, .string dom] 23) = W1 at hu1 hown1 ⊢
        refine (HPR.out _).mono ?_
        rintro e w3 ⟨rfl, hb3⟩
        have hu3 := hu1.nn (Upd.of_below hb3 Nope)
        have hown3 := own_upd hown1 (Upd.of_below hb3 Nope) (fun _ _ h => h)
        clear hu1 hown1 hb3
        obtain ⟨v', w4, hap, hown4, hu4, hl4⟩ := app1 hown3 T hu3.size (by omega)
        have hlt3 := hown3.lt
        have hu4' : Upd w w4 Nope := hu3.trans hu4 (fun _ _ h => h) (fun i hi e => by have := (hlt3 i e).1; omega)
        go_wp2_with (at_builtin; refine wpList_append_eq _ _ rfl rfl hap rfl rfl rfl ?_)
        go_roundw
        case rel => exact ⟨k + 1, by omega, by go_num, by rw [HTS.out, List.map_append]; rw [← HT.out] at hown4; exact hown4, by rw [HTS.out]; intro p hp; rcases List.mem_append.1 hp with hp | hp; exact HZ.out p hp; rw [List.mem_singleton.1 hp]; exact HE.out, hu4'⟩
        case measure => simp [intOf]; omega
      · simp only [ne_eq, hE0, not_false_eq_true, if_true] at hpr
        have HPR := Lib.hid hpr
        have hJ : joinV L = .tuple #[.string ⟨#[]⟩, .int .i64 E] := by
          have hj : joinE L = E := by rw [HS.out, ← HE.out]; exact joinE_bad HZ.out (by rw [HE.out]; exact hE0)
          unfold joinV
          rw [hj, if_neg hE0]
        have HJ := Lib.hid hJ
        have hne : ¬ ((E : Int) = 0) := by omega
        have hneb : (((E : Int)) != 0) = true := by simpa using hne
        clear hpr hJ
        go_wp2_with fail
        have hu1 : Upd w (wr.alloc (.cells #[.string lo, .string dom] 23)) Nope := hu.alloc _
        clear c0 c1 hown hu
        generalize wr.alloc (.cells #[.string lo, .string dom] 23) = W1 at hu1 ⊢
        refine (HPR.out _).mono ?_
        rintro e w3 ⟨rfl, hb3⟩
        have hu3 := hu1.nn (Upd.of_below hb3 Nope)
        go_wp2_with fail
        go_ret2
        exact ⟨by rw [HJ.out]; rfl, hu3.below (fun _ h => h.elim)⟩
    · obtain rfl : k = L.length := by omega
      rw [List.take_of_length_le (Nat.le_refl _)] at hown hz
      have hJ : joinV L = .tuple #[.string (bs (joinT L)), .int .i64 0] := by
        unfold joinV
        rw [if_pos (joinE_ok hz)]
      have HJ := Lib.hid hJ
      have hsz : ∀ x ∈ L.map (fun p => bs (prT p)), x.size ≤ 5000 := by
        intro x hx
        obtain ⟨p, hp, rfl⟩ := List.mem_map.1 hx
        have h1 := prT_len p
        have h2 := HOK.out p hp
        rw [bs_size]
        omega
      have hlm : (L.map fun p => bs (prT p)).length = L.length := List.length_map _
      have hsj := strjoin_any (by rw [hlm]; exact hown) (by rw [hlm]; exact hl) hsz
      have hmm : (L.map fun p => bs (prT p)).map (·.data.toList) = L.map prT := by rw [List.map_map]; rfl
      rw [hmm] at hsj
      change Calls _ _ _ _ fun e w' => e = .returned (.string (bs (joinT L))) ∧ _ at hsj
      obtain ⟨T, hT⟩ : ∃ T, bs (joinT L) = T := ⟨_, rfl⟩
      rw [hT] at hsj
      have HSJ := Lib.hid hsj
      have HT := Lib.hid hT
      clear hown hz hJ hsz hlm hsj hmm hT
      go_wp2_with fail
      refine HSJ.out.mono ?_
      rintro e w3 ⟨rfl, hb3⟩
      have hu3 := hu.nn (Upd.of_below hb3 Nope)
      go_wp2_with fail
      go_ret2
      exact ⟨by rw [HJ.out, HT.out]; rfl, hu3.below (fun _ h => h.elim)⟩
end Go.Proofs.YthfmjiafdfoajaaDoor
