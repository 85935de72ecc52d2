/- path.atoms. -/
import Derived.Test.YthfmjiafdfoajaaDoorDom
import Derived.Test.YthfmjiafdfoajaaDoorByt
set_option linter.unusedVariables false
set_option linter.unusedSimpArgs false
namespace Go.Proofs.YthfmjiafdfoajaaDoor
open Go.RowKit Go.Shelf
attribute [local go_sem] Oper.semAt_some

def atB (c : UInt8) : Bool := letP c || decide (0 ≤ Lib.indexByte [33, 35, 36, 37, 38, 39, 42, 43, 45, 47, 61, 63, 94, 95, 124, 126, 96, 123, 125] c)
def goodA (x : ByteArray) : Bool := !(decide (x.size = 0)) && x.data.toList.all atB
def atomsB (s : ByteArray) : Bool := (pcs s).all goodA

theorem spl_len {l p : List UInt8} (h : p ∈ spl l) : p.length ≤ l.length := by
  induction l generalizing p with
  | nil => simp [spl] at h; subst h; simp
  | cons b r ih =>
    unfold spl at h
    split at h
    · rcases List.mem_cons.1 h with rfl | h
      · simp
      · have := ih h; simp; omega
    · split at h
      · rename_i e; exact absurd e (spl_ne r)
      · rename_i q ps e
        rcases List.mem_cons.1 h with rfl | h
        · have := ih (p := q) (by rw [e]; simp); simp; omega
        · have := ih (p := p) (by rw [e]; simp [h]); simp; omega
theorem pcs_size {s x : ByteArray} {pre : List ByteArray} (h : (pre ++ [x]) <+: pcs s) : x.size ≤ s.size := by
  have hm : x ∈ pcs s := h.subset (by simp)
  unfold pcs at hm
  obtain ⟨p, hp, rfl⟩ := List.mem_map.1 hm
  have := spl_len hp
  have e1 : (⟨p.toArray⟩ : ByteArray).size = p.length := rfl
  have e2 : s.size = s.data.toList.length := rfl
  omega
theorem keepsOthers_of {W wr : World} {k0 : Nat} {v : Value} (h : Upd W wr (· = k0)) (hc : W.cell? ⟨k0, 0, none⟩ = some v) : KeepsOthers W wr := by
  refine ⟨h.size, fun k o hk ho => ?_⟩
  by_cases e : k = k0
  · subst e
    exfalso
    unfold World.cell? at hc
    simp only [hk] at hc
    cases o <;> first | (simp [Obj.isCells] at ho; done) | (simp at hc; done)
  · exact (h.block k (Array.getElem?_eq_some_iff.1 hk).1 e).trans hk
theorem kb_of {W wr : World} {k0 b1 b2 b3 : Nat} (h : Upd W wr (· = k0)) (hb : b1 < W.heap.size ∧ b2 < W.heap.size ∧ b3 < W.heap.size) (hn : b1 ≠ k0 ∧ b2 ≠ k0 ∧ b3 ≠ k0) : Kb b1 b2 b3 W wr :=
  ⟨h.size, h.block _ hb.1 hn.1, h.block _ hb.2.1 hn.2.1, h.block _ hb.2.2 hn.2.2⟩
theorem toList_empty (x : ByteArray) : x.toList.isEmpty = decide (x.size = 0) := by
  rw [ByteArray.toList_eq, show x.size = x.data.toList.length from rfl]
  cases x.data.toList <;> simp
theorem take_snoc (l : List UInt8) (k : Nat) (h : k < l.length) : l.take (k + 1) = l.take k ++ [l.getD k 0] := by
  rw [List.take_succ_eq_append_getElem h]
  simp [List.getD, h]
theorem data_len (r : ByteArray) : r.data.toList.length = r.size := rfl

set_option maxRecDepth 100000 in
set_option maxHeartbeats 8000000 in
theorem atoms_in (n : Nat) (hn : 6 ≤ n) (s : ByteArray) (w : World) (hs : s.size < 4294967281) : CallsIn Fence.wide n Tryd.prog 20 #[.string s] w fun e w' =>
    e = .returned (.bool (atomsB s)) ∧ Below w.heap.size w w' := by
  refine callsIn_of_wp_marks Tryd.func20 rfl trivial ?_ rfl
  simp only [Tryd.ntmps20, List.size_toArray, List.length_cons, List.length_nil, Nat.reduceAdd, Nat.reduceSub, Array.replicate_succ, Array.replicate_zero, List.push_toArray, List.append_toArray, List.nil_append, List.cons_append]
  gi_wp2
  refine ⟨trivial, fun _ => by omega, ?_⟩
  refine (splitSeq_any (n - 1) (by omega) s _).mono ?_
  rintro e w' ⟨rfl, rfl⟩
  have hbx := bx_new s (w.alloc (.cells #[.bool true] 4))
  have hok := cell_hd (World.alloc_heap_new w (.cells #[.bool true] 4))
  have hk : ∀ (o1 o2 o3 : Obj), Below (w.heap.size + 1) (w.alloc (.cells #[.bool true] 4)) ((((w.alloc (.cells #[.bool true] 4)).alloc o1).alloc o2).alloc o3) := fun o1 o2 o3 =>
    (((Below.refl _ _).alloc (by simp) _).alloc (by simp) _).alloc (by simp) _
  have hbw : Below w.heap.size w (w.alloc (.cells #[.bool true] 4)) := (Below.refl _ w).alloc (Nat.le_refl _) _
  simp only [World.size_alloc] at hbx
  have hk1 := hk (.cells #[.string s] 9) (.cells #[.string ⟨#[46]⟩] 9) (.cells #[.int .i64 0] 3)
  clear hk
  simp only [World.size_alloc]
  generalize hW0 : (((w.alloc (.cells #[.bool true] 4)).alloc (.cells #[.string s] 9)).alloc (.cells #[.string ⟨#[46]⟩] 9)).alloc (.cells #[.int .i64 0] 3) = W0 at hbx hk1
  have hsz : W0.heap.size = w.heap.size + 4 := by rw [← hW0]; simp
  have hok0 : W0.cell? ⟨w.heap.size, 0, none⟩ = some (.bool true) ∧ W0.frozen? ⟨w.heap.size, 0, none⟩ = false :=
    ⟨(World.cell?_of_block (a := ⟨w.heap.size, 0, none⟩) (hk1.block _ (by simp))).trans hok.1, (World.frozen?_of_block (a := ⟨w.heap.size, 0, none⟩) (hk1.block _ (by simp))).trans hok.2⟩
  have hb0 : Below w.heap.size w W0 := hbw.trans (hk1.mono (by omega))
  clear hbw hok hW0 hk1
  gi_wp2
  refine wpIn_rangeSpl (by omega) (w.heap.size + 1) (w.heap.size + 1 + 1) (w.heap.size + 1) (w.heap.size + 1 + 1 + 1) s hs rfl (by omega) (by omega) (by omega) hbx rfl
    (fun pre W => Below w.heap.size w W ∧ W.cell? ⟨w.heap.size, 0, none⟩ = some (.bool (pre.all goodA)) ∧ W.frozen? ⟨w.heap.size, 0, none⟩ = false) (fun _ _ => False)
    (fun pre A B h k => ⟨h.1.trans (k.mono (by omega)), (World.cell?_of_block (a := ⟨w.heap.size, 0, none⟩) (k.block _ (by simp))).trans h.2.1, (World.frozen?_of_block (a := ⟨w.heap.size, 0, none⟩) (k.block _ (by simp))).trans h.2.2⟩)
    (fun _ _ _ h _ => h) ⟨hb0, hok0.1, hok0.2⟩
    (fun x => { tmps := #[.string s, undef, .bool false, .pointer (some ⟨w.heap.size, 0, none⟩), .string x, undef, undef, .string s,
      .func (.func 67) #[] #[.pointer (some ⟨w.heap.size + 1 + 1, 0, none⟩), .pointer (some ⟨w.heap.size + 1, 0, none⟩), .pointer (some ⟨w.heap.size + 1 + 1 + 1, 0, none⟩)],
      .string x, undef, undef, undef, undef, undef, undef, undef, undef, undef, undef, undef, undef, undef, undef, undef, undef, undef, undef, undef, undef, undef, undef, undef, undef], defers := [] }) ?assign ?body ?done ?stop
  case assign =>
    intro l x W K hK
    gi_wp2
    exact hK
  case body =>
    rintro l pre x W ⟨hbl, hc, hf⟩ hz hpre
    have hxs : x.size < 4294967281 := Nat.lt_of_le_of_lt (pcs_size hpre) hs
    have hwW : w.heap.size + 4 ≤ W.heap.size := by omega
    have kc := fun W' => Lib.run_convert_string_bytes (P := Tryd.prog) W' 9 42 5 x Tryd.underlying9 Tryd.underlying42 Tryd.underlying5
    obtain ⟨B0, hB0⟩ : ∃ B0, (pre.all goodA && !(decide (x.size = 0))) = B0 := ⟨_, rfl⟩
    have hgo : ((pre ++ [x]).all goodA) = (B0 && x.data.toList.all atB) := by
      rw [← hB0, List.all_append]; simp [goodA, Bool.and_assoc]
    have he : (!x.toList.isEmpty) = !(decide (x.size = 0)) := by rw [toList_empty]
    have hst : ∀ v, Upd W (Lib.bytesWorld (W.setCell ⟨w.heap.size, 0, none⟩ v) 5 x) (· = w.heap.size) := fun v =>
      ((Upd.refl W (· = w.heap.size)).set ⟨w.heap.size, 0, none⟩ v (.inl rfl)).then_ (Byt.newUpd _ x _)
    have hst2 : Byt (Lib.bytesWorld (W.setCell ⟨w.heap.size, 0, none⟩ (.bool B0)) 5 x) W.heap.size x.data.toList := by
      have := Byt.new (W.setCell ⟨w.heap.size, 0, none⟩ (.bool B0)) x
      rwa [show (W.setCell ⟨w.heap.size, 0, none⟩ (.bool B0)).heap.size = W.heap.size from by simp [World.setCell]] at this
    have hst3 : (Lib.bytesWorld (W.setCell ⟨w.heap.size, 0, none⟩ (.bool B0)) 5 x).cell? ⟨w.heap.size, 0, none⟩ = some (.bool B0) :=
      (Byt.newUpd _ x Nope).cell (World.cell?_setCell_same' _ _ _ (by rw [hc]; rfl)) (fun h => h)
    have hst4 : (Lib.bytesWorld (W.setCell ⟨w.heap.size, 0, none⟩ (.bool B0)) 5 x).frozen? ⟨w.heap.size, 0, none⟩ = false :=
      (World.frozen?_of_block (a := ⟨w.heap.size, 0, none⟩) ((Byt.newUpd (W.setCell ⟨w.heap.size, 0, none⟩ (.bool B0)) x Nope).block _ (by simp [World.setCell]; omega) (fun h => h))).trans (by rw [World.frozen?_setCell]; exact hf)
    have hst5 := hst (.bool B0)
    clear hst
    have HE := Lib.hid he
    have HB := Lib.hid hB0
    clear he
    generalize hA : pre.all goodA = A at hc hB0
    have HA := Lib.hid hA
    have HG := Lib.hid hgo
    clear hA hgo
    cases A
    case' false =>
      have hb0 : B0 = false := by rw [← hB0]; rfl
      subst hb0
      clear hB0
      gi_wp2
    case' true =>
      have e1 : (!x.toList.isEmpty) = B0 := by rw [show (!x.toList.isEmpty) = !decide (x.size = 0) from HE, ← hB0]; rfl
      have E1 := Lib.hid e1
      clear e1 hB0
      gi_wp2
      rw [show (!x.toList.isEmpty) = B0 from E1]
    all_goals
      generalize Lib.bytesWorld _ 5 x = W2 at hst2 hst3 hst4 hst5 ⊢
      gi_loopw [18] (fun i wr => ∃ k : Nat, k ≤ x.size ∧ i = .int .i64 k ∧ Upd W wr (· = w.heap.size) ∧ Byt wr W.heap.size x.data.toList ∧ (∃ B0 : Bool, (pre ++ [x]).all goodA = (B0 && x.data.toList.all atB) ∧ wr.cell? ⟨w.heap.size, 0, none⟩ = some (.bool (B0 && (x.data.toList.take k).all atB))) ∧ wr.frozen? ⟨w.heap.size, 0, none⟩ = false) (fun i _ => x.size - (intOf i).toNat)
      case atStart => exact ⟨0, Nat.zero_le _, rfl, hst5, hst2, ⟨_, HG, by simpa using hst3⟩, hst4⟩
      case round =>
        obtain ⟨k, hk, rfl, hu, hby, ⟨B1, hB1, hcc⟩, hff⟩ := hrel
        by_cases hlt : k < x.size
        · have hcell := hby.cell k (by rw [data_len]; exact hlt)
          have hst : (B1 && (x.data.toList.take (k + 1)).all atB) = ((B1 && (x.data.toList.take k).all atB) && atB (x.data.toList.getD k 0)) := by
            rw [take_snoc _ _ (by rw [data_len]; exact hlt), List.all_append]; simp [Bool.and_assoc]
          generalize x.data.toList.getD k 0 = c at hcell hst
          generalize hV : (B1 && (x.data.toList.take k).all atB) = V at hcc hst
          have HS := Lib.hid hst
          have HB1 := Lib.hid hB1
          clear hst hV hB1
          cases V
          · gi_wp2
            refine ⟨trivial, ?_⟩
            gi_wp2
            any_goals (exfalso; rename_i hx hy; simp [undef] at hx; done)
            refine ⟨trivial, ?_⟩
            gi_wp2
            refine ⟨?_, by simp [intOf]; omega⟩
            refine ⟨k + 1, by omega, by go_num, hu.set _ _ (.inl rfl), hby.upd ((Upd.refl wr (· = w.heap.size)).set _ _ (.inl rfl)) (by omega), ⟨B1, HB1, ?_⟩, by rw [World.frozen?_setCell]; exact hff⟩
            rw [World.cell?_setCell_same' _ _ _ (by rw [hcc]; rfl), show (B1 && (x.data.toList.take (k + 1)).all atB) = _ from HS]
            rfl
          · gi_wp2
            refine ⟨trivial, fun _ => by omega, ?_⟩
            refine ((callsIn_wide.2 (letter_any c wr)).inRound l).mono ?_
            rintro e w2 ⟨rfl, hw2⟩
            obtain rfl : wr = w2 := hw2.symm
            cases hL : letP c
            · gi_wp2
              refine ⟨trivial, fun _ => by omega, ?_⟩
              refine ((callsIn_wide.2 (Tryd.strings_IndexByte ⟨#[33, 35, 36, 37, 38, 39, 42, 43, 45, 47, 61, 63, 94, 95, 124, 126, 96, 123, 125]⟩ c.toNat wr)).inRound l).mono ?_
              rintro e w2 ⟨rfl, hw2⟩
              obtain rfl : wr = w2 := hw2.symm
              gi_wp2
              refine ⟨?_, by simp [intOf]; omega⟩
              refine ⟨k + 1, by omega, by go_num, hu.set _ _ (.inl rfl), hby.upd ((Upd.refl wr (· = w.heap.size)).set _ _ (.inl rfl)) (by omega), ⟨B1, HB1, ?_⟩, by rw [World.frozen?_setCell]; exact hff⟩
              rw [World.cell?_setCell_same' _ _ _ (by rw [hcc]; rfl), show (B1 && (x.data.toList.take (k + 1)).all atB) = _ from HS]
              simp [atB, hL]
            · gi_wp2
              refine ⟨trivial, ?_⟩
              gi_wp2
              refine ⟨?_, by simp [intOf]; omega⟩
              refine ⟨k + 1, by omega, by go_num, hu.set _ _ (.inl rfl), hby.upd ((Upd.refl wr (· = w.heap.size)).set _ _ (.inl rfl)) (by omega), ⟨B1, HB1, ?_⟩, by rw [World.frozen?_setCell]; exact hff⟩
              rw [World.cell?_setCell_same' _ _ _ (by rw [hcc]; rfl), show (B1 && (x.data.toList.take (k + 1)).all atB) = _ from HS]
              simp [atB, hL]
        · obtain rfl : k = x.size := by omega
          rw [List.take_of_length_le (by rw [data_len]; exact Nat.le_refl _), ← hB1] at hcc
          gi_wp2
          exact ⟨keepsOthers_of hu hc, kb_of hu (by omega) (by omega), hbl.trans ((Upd.onto (Below.refl w.heap.size W) hu (by omega) (fun i e => by omega))), hcc, hff⟩
  case done =>
    rintro D W hD0 ⟨hbl, hc, hf⟩ hD
    gi_wp2
    refine ⟨by simp, .inl ⟨_, _, rfl, run_takeDeferred hD, ?_⟩⟩
    refine ⟨_, results_tmp rfl _ _ _, rfl, hbl.trans ⟨rfl, rfl, rfl, by simp [World.putObj], fun k hk => World.putObj_heap_other (by omega)⟩⟩
  case stop =>
    rintro D pre W _ _ h _
    exact h.elim
end Go.Proofs.YthfmjiafdfoajaaDoor
