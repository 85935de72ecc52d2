/- path.Domain. -/
import Derived.Test.YthfmjiafdfoajaaDoorAto
set_option linter.unusedVariables false
set_option linter.unusedSimpArgs false
namespace Go.Proofs.YthfmjiafdfoajaaDoor
open Go.RowKit Go.Shelf
attribute [local go_sem] Oper.semAt_some

theorem spl_mem {l : List UInt8} {b : UInt8} (h : b ∈ l) : b = 46 ∨ ∃ p ∈ spl l, b ∈ p := by
  induction l with
  | nil => cases h
  | cons c r ih =>
    unfold spl
    rcases List.mem_cons.1 h with rfl | h
    · split
      · left; assumption
      · right
        split
        · exact ⟨[b], by simp, by simp⟩
        · rename_i q ps e
          exact ⟨b :: q, by simp, by simp⟩
    · rcases ih h with e | ⟨p, hp, hb⟩
      · exact .inl e
      · right
        split
        · exact ⟨p, List.mem_cons_of_mem _ hp, hb⟩
        · split
          · rename_i e; exact absurd e (spl_ne r)
          · rename_i q ps e
            rw [e] at hp
            rcases List.mem_cons.1 hp with rfl | hp
            · exact ⟨c :: p, by simp, List.mem_cons_of_mem _ hb⟩
            · exact ⟨p, List.mem_cons_of_mem _ hp, hb⟩
theorem good_ascii {s : ByteArray} (h : ∀ x ∈ pcs s, badL x = false) (j : Nat) (b : UInt8) (hj : s.data.toList[j]? = some b) : b.toNat < 128 := by
  rcases spl_mem (List.mem_of_getElem? hj) with rfl | ⟨p, hp, hb⟩
  · decide
  · have hg := h ⟨p.toArray⟩ (List.mem_map.2 ⟨p, hp, rfl⟩)
    simp only [badL, Bool.or_eq_false_iff] at hg
    have ha := hg.2
    rw [List.any_eq_false] at ha
    have hx := ha b hb
    simp only [Bool.and_eq_true, Bool.not_eq_true', beq_eq_false_iff_ne, ne_eq, not_and, Decidable.not_not] at hx
    cases hl : letP b with
    | true => exact letP_ascii hl
    | false => rw [hx hl]; decide

theorem idx_eq (x : ByteArray) (i : Nat) (h : i < x.size) : x.data.toList[i]? = some x[i] := by
  rw [List.getElem?_eq_getElem (by simpa using h)]
  rfl
theorem u8_of {b : UInt8} {n : Nat} (hn : n < 256) (h : (b.toNat : Int) = n) : b = UInt8.ofNat n := by
  apply UInt8.toNat_inj.1
  simp
  omega
def okB (b : UInt8) : Bool := letP b || b == 45
theorem badL_eq (x : ByteArray) : badL x = (decide (x.size = 0) || decide (63 < x.size) || (x.data.toList[0]? == some 45) || (x.data.toList[x.size - 1]? == some 45) || !(x.data.toList.all okB)) := by
  unfold badL
  congr 1
  rw [List.not_all_eq_any_not]
  congr 1
  funext b
  simp [okB]
theorem dom_bad {w W Wb : World} {pre : List ByteArray} {x : ByteArray} {v0 v1 : Value} (hbad : badL x = true) (hu : Upd W Wb Nope) (hbl : Below w.heap.size w W)
    (hc : W.cell? ⟨w.heap.size, 0, none⟩ = some v0) (hc1 : W.cell? ⟨w.heap.size + 1, 0, none⟩ = some v1) :
    KeepsOthers W ((Wb.setCell ⟨w.heap.size, 0, none⟩ (.string ⟨#[]⟩)).setCell ⟨w.heap.size + 1, 0, none⟩ (.int .i64 2)) ∧ (∃ y ∈ pre ++ [x], badL y = true) ∧
      Below w.heap.size w ((Wb.setCell ⟨w.heap.size, 0, none⟩ (.string ⟨#[]⟩)).setCell ⟨w.heap.size + 1, 0, none⟩ (.int .i64 2)) ∧
      ((Wb.setCell ⟨w.heap.size, 0, none⟩ (.string ⟨#[]⟩)).setCell ⟨w.heap.size + 1, 0, none⟩ (.int .i64 2)).cell? ⟨w.heap.size, 0, none⟩ = some (.string ⟨#[]⟩) ∧
      ((Wb.setCell ⟨w.heap.size, 0, none⟩ (.string ⟨#[]⟩)).setCell ⟨w.heap.size + 1, 0, none⟩ (.int .i64 2)).cell? ⟨w.heap.size + 1, 0, none⟩ = some (.int .i64 2) := by
  have k0 := hu.cell hc (fun h => h)
  have k1 := hu.cell hc1 (fun h => h)
  refine ⟨(KeepsOthers.trans ⟨hu.size, fun k o hk _ => (hu.block k (Array.getElem?_eq_some_iff.1 hk).1 (fun h => h)).trans hk⟩ (KeepsOthers.setCell _ _ _)).trans (KeepsOthers.setCell _ _ _), ⟨x, by simp, hbad⟩, ?_, ?_, ?_⟩
  · exact ((hbl.trans (Upd.onto (Below.refl w.heap.size W) hu hbl.size (fun i e => e.elim))).setCell (p := ⟨w.heap.size, 0, none⟩) (Nat.le_refl _) _).setCell (p := ⟨w.heap.size + 1, 0, none⟩) (Nat.le_succ _) _
  · rw [World.cell?_setCell_far _ _ _ _ (show w.heap.size + 1 ≠ w.heap.size by omega)]
    exact World.cell?_setCell_same' _ _ _ (by rw [k0]; rfl)
  · refine World.cell?_setCell_same' _ _ _ ?_
    rw [World.cell?_setCell_far _ _ _ _ (show w.heap.size ≠ w.heap.size + 1 by omega), k1]; rfl

set_option maxRecDepth 100000 in
set_option maxHeartbeats 8000000 in
theorem domain_in (n : Nat) (hn : 6 ≤ n) (s : ByteArray) (w : World) (hs : s.size < 4294967281) : CallsIn Fence.wide n Tryd.prog 13 #[.string s] w fun e w' =>
    e = .returned (.tuple #[.string (domR s).1, .int .i64 (domR s).2]) ∧ Below w.heap.size w w' := by
  refine callsIn_of_wp_marks Tryd.func13 rfl trivial ?_ rfl
  simp only [Tryd.ntmps13, List.size_toArray, List.length_cons, List.length_nil, Nat.reduceAdd, Nat.reduceSub, Array.replicate_succ, Array.replicate_zero, List.push_toArray, List.append_toArray, List.nil_append, List.cons_append]
  have hlen : (s.toList.length) = s.size := by rw [ByteArray.toList_eq]; rfl
  have hbE : ∀ (o1 o2 : Obj), Below w.heap.size w ((w.alloc o1).alloc o2) := fun o1 o2 => ((Below.refl _ w).alloc (Nat.le_refl _) _).alloc (by simp) _
  have hc2 : ∀ (v1 v2 : Value) (t1 t2 : TypeId), (((w.alloc (.cells #[v1] t1)).alloc (.cells #[v2] t2)).cell? ⟨w.heap.size, 0, none⟩ = some v1 ∧ ((w.alloc (.cells #[v1] t1)).alloc (.cells #[v2] t2)).frozen? ⟨w.heap.size, 0, none⟩ = false) ∧
      ((w.alloc (.cells #[v1] t1)).alloc (.cells #[v2] t2)).cell? ⟨w.heap.size + 1, 0, none⟩ = some v2 ∧ ((w.alloc (.cells #[v1] t1)).alloc (.cells #[v2] t2)).frozen? ⟨w.heap.size + 1, 0, none⟩ = false := fun v1 v2 t1 t2 => by
    have h1 := World.alloc_heap_new w (.cells #[v1] t1)
    have h2 := World.alloc_heap_new (w.alloc (.cells #[v1] t1)) (.cells #[v2] t2)
    simp only [World.size_alloc] at h2
    exact ⟨cell_hd ((Below.heap_alloc _ _ _ (by simp)).trans h1), cell_hd h2⟩
  have HC := Lib.hid hc2
  clear hc2
  by_cases hbig : 255 < s.size
  · gi_wp2
    have h := (show _ from HC) (.string ⟨#[]⟩) (.int .i64 3) 9 26
    refine ⟨.tuple #[.string ⟨#[]⟩, .int .i64 3], ?_, ?_, hbE _ _⟩
    · simp [results, Tryd.results13, go_sem, h.1.1, h.2.1]
    · simp [domR, hbig]
  · gi_wp2
    refine ⟨trivial, fun _ => by omega, ?_⟩
    refine (splitSeq_any (n - 1) (by omega) s _).mono ?_
    rintro e w' ⟨rfl, rfl⟩
    have h := (show _ from HC) (.string ⟨#[]⟩) (.int .i64 0) 9 26
    have hbw := hbE (.cells #[.string ⟨#[]⟩] 9) (.cells #[.int .i64 0] 26)
    have hus : ((w.alloc (.cells #[.string ⟨#[]⟩] 9)).alloc (.cells #[.int .i64 0] 26)).heap.size = w.heap.size + 1 + 1 := by simp
    clear hbE
    generalize (w.alloc (.cells #[.string ⟨#[]⟩] 9)).alloc (.cells #[.int .i64 0] 26) = u at h hbw hus
    have hbx := bx_new s u
    have hk1 : Below u.heap.size u (((u.alloc (.cells #[.string s] 9)).alloc (.cells #[.string ⟨#[46]⟩] 9)).alloc (.cells #[.int .i64 0] 3)) :=
      (((Below.refl _ u).alloc (Nat.le_refl _) _).alloc (by simp) _).alloc (by simp; omega) _
    have hsz : (((u.alloc (.cells #[.string s] 9)).alloc (.cells #[.string ⟨#[46]⟩] 9)).alloc (.cells #[.int .i64 0] 3)).heap.size = w.heap.size + 5 := by simp only [World.size_alloc, hus]
    generalize ((u.alloc (.cells #[.string s] 9)).alloc (.cells #[.string ⟨#[46]⟩] 9)).alloc (.cells #[.int .i64 0] 3) = W0 at hbx hk1 hsz
    rw [hus] at hbx hk1
    rw [hus]
    have hI0 : Below w.heap.size w W0 ∧ W0.cell? ⟨w.heap.size, 0, none⟩ = some (.string ⟨#[]⟩) ∧ W0.frozen? ⟨w.heap.size, 0, none⟩ = false ∧ W0.cell? ⟨w.heap.size + 1, 0, none⟩ = some (.int .i64 0) ∧ W0.frozen? ⟨w.heap.size + 1, 0, none⟩ = false :=
      ⟨hbw.trans (hk1.mono (by omega)), (World.cell?_of_block (a := ⟨w.heap.size, 0, none⟩) (hk1.block _ (by simp; omega))).trans h.1.1, (World.frozen?_of_block (a := ⟨w.heap.size, 0, none⟩) (hk1.block _ (by simp; omega))).trans h.1.2,
        (World.cell?_of_block (a := ⟨w.heap.size + 1, 0, none⟩) (hk1.block _ (by simp))).trans h.2.1, (World.frozen?_of_block (a := ⟨w.heap.size + 1, 0, none⟩) (hk1.block _ (by simp))).trans h.2.2⟩
    clear h hbw hus hk1 HC
    gi_wp2
    refine wpIn_rangeSpl (by omega) (w.heap.size + 1 + 1) (w.heap.size + 1 + 1 + 1) (w.heap.size + 1 + 1) (w.heap.size + 1 + 1 + 1 + 1) s hs rfl (by omega) (by omega) (by omega) hbx rfl
      (fun pre W => (∀ x ∈ pre, badL x = false) ∧ Below w.heap.size w W ∧ W.cell? ⟨w.heap.size, 0, none⟩ = some (.string ⟨#[]⟩) ∧ W.frozen? ⟨w.heap.size, 0, none⟩ = false ∧ W.cell? ⟨w.heap.size + 1, 0, none⟩ = some (.int .i64 0) ∧ W.frozen? ⟨w.heap.size + 1, 0, none⟩ = false)
      (fun pre W => (∃ x ∈ pre, badL x = true) ∧ Below w.heap.size w W ∧ W.cell? ⟨w.heap.size, 0, none⟩ = some (.string ⟨#[]⟩) ∧ W.cell? ⟨w.heap.size + 1, 0, none⟩ = some (.int .i64 2))
      (fun pre A B h k => ⟨h.1, h.2.1.trans (k.mono (by omega)), (World.cell?_of_block (a := ⟨w.heap.size, 0, none⟩) (k.block _ (by simp; omega))).trans h.2.2.1, (World.frozen?_of_block (a := ⟨w.heap.size, 0, none⟩) (k.block _ (by simp; omega))).trans h.2.2.2.1, (World.cell?_of_block (a := ⟨w.heap.size + 1, 0, none⟩) (k.block _ (by simp))).trans h.2.2.2.2.1, (World.frozen?_of_block (a := ⟨w.heap.size + 1, 0, none⟩) (k.block _ (by simp))).trans h.2.2.2.2.2⟩)
      (fun pre A B h k => ⟨h.1, h.2.1.trans (k.mono (by omega)), (World.cell?_of_block (a := ⟨w.heap.size, 0, none⟩) (k.block _ (by simp; omega))).trans h.2.2.1, (World.cell?_of_block (a := ⟨w.heap.size + 1, 0, none⟩) (k.block _ (by simp))).trans h.2.2.2⟩)
      ⟨by simp, hI0⟩
      (fun x => { tmps := #[.string s, undef, .pointer (some ⟨w.heap.size, 0, none⟩), .pointer (some ⟨w.heap.size + 1, 0, none⟩), .string x, undef, undef, .string s, .int .i64 (s.size : Int), .bool (decide (255 < (s.size : Int))), .string s,
        .func (.func 67) #[] #[.pointer (some ⟨w.heap.size + 1 + 1 + 1, 0, none⟩), .pointer (some ⟨w.heap.size + 1 + 1, 0, none⟩), .pointer (some ⟨w.heap.size + 1 + 1 + 1 + 1, 0, none⟩)],
        .string x, undef, undef, undef, undef, undef, undef, undef, undef, undef, undef, undef, undef, undef, undef, undef, undef, undef, undef, undef, undef, undef, undef, undef, undef, undef, undef, undef, undef, undef, undef, undef, undef, undef, undef, undef, undef, undef], defers := [] }) ?assign ?body ?done ?stop
    case assign =>
      intro l x W K hK
      gi_wp2
      exact hK
    case body =>
      rintro l pre x W ⟨hg, hbl, hc, hf, hc1, hf1⟩ hz hpre
      have hxs : x.size ≤ s.size := pcs_size hpre
      have hxE : x.toList.length = x.size := by rw [ByteArray.toList_eq]; rfl
      have kc := fun W' => Lib.run_convert_string_bytes (P := Tryd.prog) W' 9 42 5 x Tryd.underlying9 Tryd.underlying42 Tryd.underlying5
      have hby := Byt.new W x
      have hub := Byt.newUpd W x Nope
      have hnil : x.toList = [] ↔ x.size = 0 := by
        have := toList_empty x
        rw [Bool.eq_iff_iff] at this
        simpa using this
      have HN := Lib.hid hnil
      have HE2 := Lib.hid hxE
      clear hnil hxE
      gi_wp2
      · rename_i he
        have he' := (show _ ↔ _ from HN).1 he
        exact dom_bad (by rw [badL_eq]; simp [he']) (Upd.refl W Nope) hbl hc hc1
      · rename_i hn0 h63 hp h45
        have hb := idx_eq x 0 hp
        rw [show x[0] = 45 from u8_of (n := 45) (by decide) h45] at hb
        exact dom_bad (by rw [badL_eq, hb]; simp) (Upd.refl W Nope) hbl hc hc1
      · rename_i hn0 h63 hp h45 hr hor
        have hlast : x.data.toList[x.size - 1]? = some 45 := by
          have hb := idx_eq x (x.size - 1) (by omega)
          rcases hor with ((h | h) | h) | h
          · exact absurd (by simpa using h) hn0
          · omega
          · exact absurd (by simpa using h) h45
          · rw [show x[x.size - 1] = 45 from u8_of (n := 45) (by decide) (by simpa using h)] at hb; exact hb
        exact dom_bad (by rw [badL_eq, hlast]; simp) (Upd.refl W Nope) hbl hc hc1
      · rename_i hn0 h63 hp h45 hr hand
        have hgd : badL x = !(x.data.toList.all okB) := by
          have hn0' : ¬ x.size = 0 := fun h => hn0 ((show _ ↔ _ from HN).2 h)
          have hf0 := idx_eq x 0 hp
          have hfl := idx_eq x (x.size - 1) (by omega)
          have g0 : ¬ x[0] = 45 := fun h => h45 (by rw [h]; rfl)
          have gl : ¬ x[x.size - 1] = 45 := fun h => by have := hand.2; rw [h] at this; exact absurd this (by decide)
          have h63' : ¬ 63 < x.size := by omega
          rw [badL_eq, hf0, hfl]
          simp [hn0', h63', g0, gl]
        have HGD := Lib.hid hgd
        clear hgd hand h45 h63 hn0
        have hcx := fun v hv (h : ¬ v = W.heap.size) => (World.cell?_of_block (a := ⟨v, 0, none⟩) (hub.block v hv (fun h => h)))
        have hlt0 := World.block_lt_of_cell? W _ hc
        have hlt1 := World.block_lt_of_cell? W _ hc1
        have d0 := hub.cell hc (fun h => h)
        have d1 := hub.cell hc1 (fun h => h)
        have f0 := (World.frozen?_of_block (a := ⟨w.heap.size, 0, none⟩) (hub.block _ hlt0 (fun h => h))).trans hf
        have f1 := (World.frozen?_of_block (a := ⟨w.heap.size + 1, 0, none⟩) (hub.block _ hlt1 (fun h => h))).trans hf1
        clear hcx
        generalize Lib.bytesWorld W 5 x = W2 at hby hub d0 d1 f0 f1 ⊢
        gi_loopw [36] (fun i wr => ∃ k : Nat, k ≤ x.size ∧ i = .int .i64 k ∧ wr = W2 ∧ (x.data.toList.take k).all okB = true) (fun i _ => x.size - (intOf i).toNat)
        case atStart => exact ⟨0, Nat.zero_le _, rfl, rfl, by simp⟩
        case round =>
          obtain ⟨k, hk, rfl, hwr, hall⟩ := hrel
          obtain rfl : wr = W2 := hwr
          by_cases hlt : k < x.size
          · have hcell := hby.cell k (by rw [data_len]; exact hlt)
            have hst : (x.data.toList.take (k + 1)).all okB = okB (x.data.toList.getD k 0) := by
              rw [take_snoc _ _ (by rw [data_len]; exact hlt), List.all_append, hall]; simp
            have hin : x.data.toList.getD k 0 ∈ x.data.toList := by
              rw [List.getD, List.getElem?_eq_getElem (by rw [data_len]; exact hlt)]; exact List.getElem_mem _
            generalize x.data.toList.getD k 0 = c at hcell hst hin
            gi_wp2
            refine ⟨trivial, fun _ => by omega, ?_⟩
            refine ((callsIn_wide.2 (letter_any c wr)).inRound l).mono ?_
            rintro e w2 ⟨rfl, hw2⟩
            obtain rfl : wr = w2 := hw2.symm
            cases hL : letP c
            · gi_wp2
              · rename_i h45
                have hbad : badL x = true := by
                  rw [show badL x = _ from HGD, Bool.not_eq_true', List.all_eq_false]
                  refine ⟨c, hin, ?_⟩
                  simp only [okB, hL, Bool.false_or]
                  intro h
                  rw [eq_of_beq h] at h45
                  exact absurd h45 (by decide)
                exact dom_bad hbad hub hbl hc hc1
              · rename_i h45
                have hok : okB c = true := by
                  have : c = 45 := u8_of (n := 45) (by decide) (by simpa using h45)
                  rw [this]; decide
                go_roundw
                case rel => exact ⟨k + 1, by omega, by go_num, trivial, by rw [hst]; exact hok⟩
                case measure => simp [intOf]; omega
            · have hok : okB c = true := by simp [okB, hL]
              gi_wp2
              go_roundw
              case rel => exact ⟨k + 1, by omega, by go_num, trivial, by rw [hst]; exact hok⟩
              case measure => simp [intOf]; omega
          · obtain rfl : k = x.size := by omega
            rw [List.take_of_length_le (by rw [data_len]; exact Nat.le_refl _)] at hall
            gi_wp2
            have hgood : badL x = false := by rw [show badL x = _ from HGD, hall]; rfl
            refine ⟨⟨hub.size, fun k o hk _ => (hub.block k (Array.getElem?_eq_some_iff.1 hk).1 (fun h => h)).trans hk⟩, ⟨hub.size, hub.block _ (by omega) (fun h => h), hub.block _ (by omega) (fun h => h), hub.block _ (by omega) (fun h => h)⟩, ?_, hbl.trans (Upd.onto (Below.refl w.heap.size W) hub hbl.size (fun i e => e.elim)), d0, f0, d1, f1⟩
            intro y hy
            rcases List.mem_append.1 hy with hy | hy
            · exact hg y hy
            · rw [List.mem_singleton.1 hy]; exact hgood
      · have hne : ¬ x.toList = [] := by assumption
        have hp : ¬ 0 < x.size := by assumption
        exact absurd ((show _ ↔ _ from HN).2 (by omega)) hne
      · rename_i hn0 h63
        exact dom_bad (by rw [badL_eq]; simp; omega) (Upd.refl W Nope) hbl hc hc1
    case done =>
      rintro D W hD0 ⟨hg, hbl, hc, hf, hc1, hf1⟩ hD
      gi_wp2
      refine ⟨trivial, fun _ => by omega, ?_⟩
      refine (callsIn_wide.2 (Tryd.strings_ToLower_ascii s W (by omega) (good_ascii hg))).mono ?_
      rintro e W2 ⟨rfl, hb2⟩
      have hlt0 := World.block_lt_of_cell? W _ hc
      have hlt1 := World.block_lt_of_cell? W _ hc1
      have hltD : D < W.heap.size := (Array.getElem?_eq_some_iff.1 hD).1
      have kc := (World.cell?_of_block (a := ⟨w.heap.size, 0, none⟩) (hb2.block _ hlt0)).trans hc
      have kf := (World.frozen?_of_block (a := ⟨w.heap.size, 0, none⟩) (hb2.block _ hlt0)).trans hf
      have kc1 := (World.cell?_of_block (a := ⟨w.heap.size + 1, 0, none⟩) (hb2.block _ hlt1)).trans hc1
      have kf1 := (World.frozen?_of_block (a := ⟨w.heap.size + 1, 0, none⟩) (hb2.block _ hlt1)).trans hf1
      have kD := (hb2.block _ hltD).trans hD
      have hbl2 := hbl.trans (hb2.mono (Nat.le_of_lt hlt0))
      clear hc hf hc1 hf1 hD hbl
      gi_wp2
      generalize hL : (⟨(Lib.toLowerA s.data.toList).toArray⟩ : ByteArray) = L
      obtain ⟨W3, hW3⟩ : ∃ W3, (W2.setCell ⟨w.heap.size, 0, none⟩ (.string L)).setCell ⟨w.heap.size + 1, 0, none⟩ (.int .i64 0) = W3 := ⟨_, rfl⟩
      have m0 : W3.cell? ⟨w.heap.size, 0, none⟩ = some (.string L) := by
        rw [← hW3, World.cell?_setCell_far _ _ _ _ (show w.heap.size + 1 ≠ w.heap.size by omega)]
        exact World.cell?_setCell_same' _ _ _ (by rw [kc]; rfl)
      have m1 : W3.cell? ⟨w.heap.size + 1, 0, none⟩ = some (.int .i64 0) := by
        rw [← hW3]
        refine World.cell?_setCell_same' _ _ _ ?_
        rw [World.cell?_setCell_far _ _ _ _ (show w.heap.size ≠ w.heap.size + 1 by omega), kc1]; rfl
      have mD : W3.heap[D]? = some (.deferred (some [])) := by
        rw [← hW3]
        exact (KeepsOthers.setCell _ _ _).same _ _ ((KeepsOthers.setCell W2 ⟨w.heap.size, 0, none⟩ (.string L)).same _ _ kD rfl) rfl
      have mb : Below w.heap.size w W3 := by
        rw [← hW3]
        exact (hbl2.setCell (p := ⟨w.heap.size, 0, none⟩) (Nat.le_refl _) _).setCell (p := ⟨w.heap.size + 1, 0, none⟩) (Nat.le_succ _) _
      rw [hW3]
      refine ⟨by simp, .inl ⟨_, _, rfl, run_takeDeferred mD, ?_⟩⟩
      have hpo : ∀ k, k < w.heap.size + 5 → (W3.putObj D (.deferred none)).heap[k]? = W3.heap[k]? := fun k hk => World.putObj_heap_other (by omega)
      refine ⟨.tuple #[.string L, .int .i64 0], ?_, ?_, mb.trans ⟨rfl, rfl, rfl, by simp [World.putObj], fun k hk => hpo k (by omega)⟩⟩
      · have e0 := (World.cell?_of_block (a := ⟨w.heap.size, 0, none⟩) (hpo _ (by simp))).trans m0
        have e1 := (World.cell?_of_block (a := ⟨w.heap.size + 1, 0, none⟩) (hpo _ (by simp))).trans m1
        simp [results, Tryd.results13, go_sem, e0, e1]
      · have : ¬ (pcs s).any badL = true := by
          intro h
          obtain ⟨x, hx, hb⟩ := List.any_eq_true.1 h
          rw [hg x hx] at hb; cases hb
        rw [← hL]
        simp only [domR, hbig, this, if_false]
        rfl
    case stop =>
      rintro D pre W hD0 hpre ⟨⟨x, hx, hbad⟩, hbl, hc, hc1⟩ hD
      gi_wp2
      refine ⟨by simp, .inl ⟨_, _, rfl, run_takeDeferred hD, ?_⟩⟩
      have hpo : ∀ k, k < w.heap.size + 5 → (W.putObj D (.deferred none)).heap[k]? = W.heap[k]? := fun k hk => World.putObj_heap_other (by omega)
      refine ⟨.tuple #[.string ⟨#[]⟩, .int .i64 2], ?_, ?_, hbl.trans ⟨rfl, rfl, rfl, by simp [World.putObj], fun k hk => hpo k (by omega)⟩⟩
      · have e0 := (World.cell?_of_block (a := ⟨w.heap.size, 0, none⟩) (hpo _ (by simp))).trans hc
        have e1 := (World.cell?_of_block (a := ⟨w.heap.size + 1, 0, none⟩) (hpo _ (by simp))).trans hc1
        simp [results, Tryd.results13, go_sem, e0, e1]
      · have : (pcs s).any badL = true := List.any_eq_true.2 ⟨x, hpre.subset hx, hbad⟩
        simp [domR, hbig, this]
end Go.Proofs.YthfmjiafdfoajaaDoor
