/- ClockRises: its walk. -/
import Derived.Test.YtojpgdhbfhdpoaaRef
import Derived.Test.YtojpgdhbfhdpoaaAwk
set_option linter.unusedVariables false
set_option linter.unusedSimpArgs false
namespace Go.Proofs.Ytojpgdhbfhdpoaa
open Go.RowKit
attribute [local go_sem] bmin2 bmax2 bmin_two bmax_two makeFunc_run

/-- The tick of a mark and readings, by what it is above, and what it is. -/
def IsTop (mark : Int) (l : List Int) (T : Int) : Prop := mark ≤ T ∧ (∀ x ∈ l, min x 1099511627776 ≤ T) ∧ (T = mark ∨ ∃ x ∈ l, T = min x 1099511627776)

theorem tick_top (mark : Int) (l : List Int) (hm : mark ≤ 1099511627776) : IsTop mark l (tickOf mark l) := by
  unfold tickOf
  induction l generalizing mark with
  | nil => exact ⟨Int.le_refl _, by simp, .inl rfl⟩
  | cons x l ih =>
    have h := rdT_le mark x hm
    have e := rdT_eq mark x hm
    obtain ⟨h1, h2, h3⟩ := ih (rdT mark x) h.2
    simp only [List.foldl_cons]
    refine ⟨by omega, ?_, ?_⟩
    · intro y hy
      rcases List.mem_cons.1 hy with rfl | hy
      · clear h3
        omega
      · exact h2 y hy
    · rcases h3 with h3 | ⟨y, hy, h3⟩
      · rw [h3, e]
        by_cases hc : min x 1099511627776 ≤ mark
        · exact .inl (by omega)
        · exact .inr ⟨x, by simp, by omega⟩
      · exact .inr ⟨y, by simp [hy], h3⟩

theorem top_one {mark : Int} {l l' : List Int} {T T' : Int} (h : IsTop mark l T) (h' : IsTop mark l' T') (hs : ∀ x, x ∈ l ↔ x ∈ l') : T = T' := by
  obtain ⟨a1, a2, a3⟩ := h
  obtain ⟨b1, b2, b3⟩ := h'
  have h1 : T ≤ T' := by
    rcases a3 with rfl | ⟨x, hx, rfl⟩
    · exact b1
    · exact b2 x ((hs x).1 hx)
  have h2 : T' ≤ T := by
    rcases b3 with rfl | ⟨x, hx, rfl⟩
    · exact a1
    · exact a2 x ((hs x).2 hx)
  omega

/-- The readings from a place on, round. -/
def spun (l : List Int) (r k : Nat) : List Int := (List.range k).map fun i => l.getD ((i + r) % l.length) 0

theorem spun_snoc (l : List Int) (r k : Nat) : spun l r (k + 1) = spun l r k ++ [l.getD ((k + r) % l.length) 0] := by
  simp [spun, List.range_succ]

theorem spun_mem (l : List Int) (r : Nat) (x : Int) : x ∈ l ↔ x ∈ spun l r l.length := by
  unfold spun
  constructor
  · intro h
    obtain ⟨j, hj, rfl⟩ := List.mem_iff_getElem.1 h
    have hr : r % l.length < l.length := Nat.mod_lt _ (by omega)
    refine List.mem_map.2 ⟨(j + (l.length - r % l.length)) % l.length, List.mem_range.2 (Nat.mod_lt _ (by omega)), ?_⟩
    have e : ((j + (l.length - r % l.length)) % l.length + r) % l.length = j := by
      have h1 : ((j + (l.length - r % l.length)) % l.length + r) % l.length = ((j + (l.length - r % l.length)) + r % l.length) % l.length := by
        rw [Nat.mod_add_mod, Nat.add_mod_mod]
      rw [h1, show j + (l.length - r % l.length) + r % l.length = j + l.length by omega, Nat.add_mod_right, Nat.mod_eq_of_lt hj]
    rw [e]
    simp [List.getD, hj]
  · intro h
    obtain ⟨i, hi, rfl⟩ := List.mem_map.1 h
    have hi' := List.mem_range.1 hi
    have : (i + r) % l.length < l.length := Nat.mod_lt _ (by omega)
    simp [List.getD, this]

theorem spun_tick (mark : Int) (l : List Int) (r : Nat) (hm : mark ≤ 1099511627776) : tickOf mark (spun l r l.length) = tickOf mark l :=
  (top_one (tick_top mark l hm) (tick_top mark _ hm) (spun_mem l r)).symm

theorem tickOf_app (mark : Int) (l : List Int) (x : Int) : tickOf mark (l ++ [x]) = rdT (tickOf mark l) x := by simp [tickOf]

theorem spin_idx (k t n : Nat) (hk : k < n) (hn : n ≤ 200) : (wrap64 ((k : Int) + (t : Int) % n)).tmod n = ((k + t) % n : Nat) := by
  have hm' : t % n < n := Nat.mod_lt _ (by omega)
  rw [← Int.natCast_emod, wrap64_in (by omega) (by omega), Int.tmod_eq_emod_of_nonneg (by omega), ← Int.natCast_add, ← Int.natCast_emod, Nat.add_mod_mod]

set_option maxHeartbeats 4000000 in
set_option maxRecDepth 100000 in
theorem rises_walk (w : World) (mark : Int) (wm : (Lit.int .i64 mark).wf = true) (A : Option Addr) (cap : Nat) (l : List Int) (rd : RdInts w A l) (hc : l.length ≤ cap) (hm : cap ≤ maxLen)
    (_ok : ∀ y ∈ l, (Lit.int .i64 y).wf = true) (turn : Int) (wt : (Lit.int .i64 turn).wf = true) :
    Calls Try.prog 4 #[.int .i64 mark, .slice A l.length cap, .int .i64 turn] w fun e w' => e = .returned (.bool true) ∧ Below w.heap.size w w' := by
  unfold maxLen at hm
  have wt' := wf_i64 wt
  by_cases c3 : 200 < l.length ∨ mark < 0 ∨ 1099511627776 < mark ∨ turn < 0
  · rcases (show 200 < l.length ∨ (¬ 200 < l.length ∧ mark < 0) ∨ (¬ 200 < l.length ∧ 0 ≤ mark ∧ 1099511627776 < mark) ∨ (¬ 200 < l.length ∧ 0 ≤ mark ∧ mark ≤ 1099511627776 ∧ turn < 0) by omega) with h | ⟨h, h'⟩ | ⟨h, h', h''⟩ | ⟨h, h', h'', h3⟩
    all_goals
      go_enter Try.func4, Try.ntmps4
      go_wp2_with (refine (awake_any w).mono ?_; rintro e w1 ⟨rfl, hu1⟩)
      go_ret
      exact ⟨rfl, hu1.below (fun _ h => h.elim)⟩
  go_enter Try.func4, Try.ntmps4
  go_wp2_with fail
  refine (awake_any w).mono ?_
  rintro e w1 ⟨rfl, hu1⟩
  have s0 : l.length ≤ 200 := by omega
  have s1 : 0 ≤ mark := by omega
  have s2 : mark ≤ 1099511627776 := by omega
  have s3 : 0 ≤ turn := by omega
  clear c3
  go_wp2_with fail
  refine (new_ok mark 1 w1 (by omega) (by omega) (by omega) (by omega)).mono ?_
  rintro e w2 ⟨rfl, hw2⟩
  have ha2 : Clk w2 w1.heap.size mark mark 1 0 0 := by rw [hw2]; exact Blk.new _ _ _
  have hu2 : Upd w w2 Nope := by rw [hw2]; exact hu1.alloc _
  have hg1 := hu1.size
  clear hw2
  obtain ⟨g, hg⟩ : ∃ g, g = w1.heap.size := ⟨_, rfl⟩
  rw [← hg] at ha2 hg1 ⊢
  clear hg hu1
  go_wp2_with fail
  refine (new_ok mark 1 w2 (by omega) (by omega) (by omega) (by omega)).mono ?_
  rintro e w3 ⟨rfl, hw3⟩
  have hb3 : Clk w3 w2.heap.size mark mark 1 0 0 := by rw [hw3]; exact Blk.new _ _ _
  have ha3 : Clk w3 g mark mark 1 0 0 := by rw [hw3]; exact ha2.alloc _
  have hu3 : Upd w w3 Nope := by rw [hw3]; exact hu2.alloc _
  have hg2 := hu2.size
  have hgg : g < w2.heap.size := ha2.lt
  clear hw3
  obtain ⟨b, hb⟩ : ∃ b, b = w2.heap.size := ⟨_, rfl⟩
  rw [← hb] at hb3 hg2 hgg ⊢
  clear hb hu2 ha2
  have b0 := backOf_bd mark l
  go_wp2_with fail
  go_loopw [11, 12, 13] (fun last most i wr => ∃ (k : Nat) (m : Int), k ≤ l.length ∧ i = .int .i64 k ∧ last = .int .i64 (tickOf mark (l.take k)) ∧ most = .int .i64 m ∧ tickOf mark (l.take k) = min m 1099511627776 ∧
    Clk wr g (tickOf mark (l.take k)) mark 1 k (backOf mark l k) ∧ Clk wr b mark mark 1 0 0 ∧ Upd w wr Nope) (fun _ _ i _ => l.length - (intOf i).toNat)
  case atStart => exact ⟨0, mark, Nat.zero_le _, rfl, rfl, rfl, by simp [tickOf]; omega, ha3, hb3, hu3⟩
  case round =>
    clear ha3 hb3 hu3
    obtain ⟨k, m, hk, rfl, rfl, rfl, hTm, har, hbr, hur⟩ := hrel
    have bt := tickOf_bd mark (l.take k) s2
    have bk := b0 k
    by_cases hlt : k < l.length
    · have hrr := rd.upd hur (fun _ h => h.elim)
      obtain ⟨ad, rfl, hx⟩ := hrr k hlt
      have hs := tickOf_snoc mark l k hlt
      have hbk : backOf mark l (k + 1) = rdB (tickOf mark (l.take k)) (backOf mark l k) (l[k]'hlt) := by rw [backOf]; simp [List.getD, hlt]
      generalize tickOf mark (l.take k) = T at hs hbk har bt hTm
      generalize backOf mark l k = B at hbk har bk
      generalize l[k] = x at hs hbk hx
      have bT := rdT_le T x bt.2
      have eT := rdT_eq T x bt.2
      have bdd : wrap64 (rdT T x - T) = rdT T x - T := wrap64_in (by omega) (by omega)
      have hrd := read_any g T mark 1 k B x
      generalize rdT T x = T' at hs bT bdd hrd eT
      generalize rdB T B x = B' at hbk hrd
      have eM := imax_eq m x
      have i1 : T' ≤ imax m x := by omega
      have i2 : imin (imax m x) 1099511627776 ≤ T' := by rw [imin_eq]; omega
      have i3 : T' = min (imax m x) 1099511627776 := by omega
      have HS := Lib.hid hs
      have HBK := Lib.hid hbk
      have HBD := Lib.hid bdd
      have I3 := Lib.hid i3
      have RD := Lib.hid rd
      have HR := Lib.hid hrd
      clear hs hbk bdd i3 rd hrd hTm eT eM b0 hrr
      go_wp2_with fail
      refine (HR.out wr har (by omega) (by omega) (by omega) (by omega) (by omega) (by omega)).mono ?_
      rintro e w4 ⟨rfl, ha4, hu4⟩
      have hb4 : Clk w4 b mark mark 1 0 0 := hbr.upd hu4 (by omega)
      have hu4' := hur.on hu4 (by omega)
      clear har hbr hur hu4 hx
      have i4 : ¬ imax m x < T' := by omega
      go_wp2
      go_roundw
      case rel => exact ⟨k + 1, imax m x, by omega, by go_num, by rw [HS.out], rfl, by rw [HS.out, I3.out], by rw [HS.out, HBK.out]; simpa using ha4, hb4, hu4'⟩
      case measure => simp [intOf]; omega
    · obtain rfl : k = l.length := by omega
      rw [List.take_length] at har bt ⊢
      clear hTm
      have RD := Lib.hid rd
      clear rd
      obtain ⟨t, ht⟩ : ∃ t : Nat, (t : Int) = turn := ⟨turn.toNat, by omega⟩
      generalize backOf mark l l.length = B at har bk
      clear b0
      subst ht
      go_wp2_with fail
      go_loopw [16] (fun i wr => ∃ (k : Nat) (Bb : Int), k ≤ l.length ∧ i = .int .i64 k ∧ 0 ≤ Bb ∧ Bb ≤ k ∧ Clk wr g (tickOf mark l) mark 1 l.length B ∧ Clk wr b (tickOf mark (spun l t k)) mark 1 k Bb ∧ Upd w wr Nope) (fun i _ => l.length - (intOf i).toNat)
      case atStart => exact ⟨0, 0, Nat.zero_le _, rfl, by omega, by omega, har, hbr, hur⟩
      case round =>
        clear har hbr hur
        obtain ⟨k, Bb, hk, rfl, hB1, hB2, har, hbr, hur⟩ := hrel
        have bs := tickOf_bd mark (spun l t k) s2
        by_cases hlt : k < l.length
        · have hi : (k + t) % l.length < l.length := Nat.mod_lt _ (by omega)
          have hrr := RD.out.upd hur (fun _ h => h.elim)
          obtain ⟨ad, rfl, hx⟩ := hrr ((k + t) % l.length) hi
          have e1 : tickOf mark (spun l t (k + 1)) = rdT (tickOf mark (spun l t k)) (l[(k + t) % l.length]'hi) := by
            rw [spun_snoc, tickOf_app]
            simp [List.getD, hi]
          generalize tickOf mark (spun l t k) = S at e1 hbr bs
          generalize l[(k + t) % l.length] = x at e1 hx
          have E1 := Lib.hid e1
          clear e1
          have ew := spin_idx k t l.length hlt s0
          generalize (k + t) % l.length = j at hx ew hi
          go_wp2_with fail
          refine (read_any b S mark 1 k Bb x wr hbr (by omega) (by omega) (by omega) (by omega) (by omega) (by omega)).mono ?_
          rintro e w4 ⟨rfl, hb4, hu4⟩
          have ha4 : Clk w4 g (tickOf mark l) mark 1 l.length B := har.upd hu4 (by omega)
          have hu4' := hur.on hu4 (by omega)
          have bb : 0 ≤ rdB S Bb x ∧ rdB S Bb x ≤ Bb + 1 := by unfold rdB; split <;> omega
          clear ew hx
          go_wp2
          go_roundw
          case rel => exact ⟨k + 1, rdB S Bb x, by omega, by go_num, bb.1, by omega, ha4, by rw [E1.out]; simpa using hb4, hu4'⟩
          case measure => simp [intOf]; omega
        · obtain rfl : k = l.length := by omega
          rw [spun_tick mark l t s2] at hbr bs
          generalize tickOf mark l = T at har hbr bs
          go_wp2_with fail
          refine (tick_any g _ _ _ _ _ _ har).mono ?_
          rintro e w4 ⟨rfl, hd4⟩
          have hb4 : Clk w4 b T mark 1 l.length Bb := hbr.upd (hd4.upd Nope) id
          have hu4 := hur.dr hd4
          clear har hbr hur
          go_wp2_with fail
          refine (tick_any b _ _ _ _ _ _ hb4).mono ?_
          rintro e w5 ⟨rfl, hd5⟩
          go_wp2
          go_ret
          exact ⟨ret_eq (by simp), (hu4.dr hd5).below (fun _ h => h.elim)⟩
end Go.Proofs.Ytojpgdhbfhdpoaa
