/- strings.SplitSeq at a dot: the iterator, by its own contract. -/
import Derived.RangeFuncNested
import Derived.RangeFuncBound
import Derived.RangeFuncCalls
import Derived.RangeFuncLeaves
import Derived.Shelf.Abstract
import Derived.Shelf.RegionOpen
import Derived.WalkKit
import Derived.OwnWalkIn
import Derived.TacticsInMore
import Derived.LoopNIn
import Derived.LoopIn
import Derived.Lib.Hide
import Derived.Deep.RegionHeld
import Derived.Test.YthfmjiafdfoajaaDoorShelf
set_option linter.unusedVariables false
set_option linter.unusedSimpArgs false
namespace Go.Proofs.YthfmjiafdfoajaaDoor
open Go.RowKit Go.Shelf
attribute [local go_sem] Oper.semAt_some

/-- The pieces of a text between its dots. -/
def spl : List UInt8 → List (List UInt8)
  | [] => [[]]
  | b :: r => if b = 46 then [] :: spl r else match spl r with
    | [] => [[b]]
    | p :: ps => (b :: p) :: ps
theorem spl_ne (l : List UInt8) : spl l ≠ [] := by
  cases l with
  | nil => simp [spl]
  | cons b r =>
    unfold spl
    split
    · simp
    · split <;> simp
theorem spl_none {l : List UInt8} (h : ∀ b ∈ l, b ≠ 46) : spl l = [l] := by
  induction l with
  | nil => rfl
  | cons b r ih =>
    unfold spl
    rw [if_neg (h b (by simp)), ih (fun x hx => h x (by simp [hx]))]
theorem spl_at {a c : List UInt8} (h : ∀ b ∈ a, b ≠ 46) : spl (a ++ 46 :: c) = a :: spl c := by
  induction a with
  | nil => simp [spl]
  | cons b r ih =>
    have e : spl (b :: (r ++ 46 :: c)) = (match spl (r ++ 46 :: c) with
      | [] => [[b]]
      | p :: ps => (b :: p) :: ps) := by
      conv => lhs; unfold spl
      rw [if_neg (h b (by simp))]
    rw [List.cons_append, e, ih (fun x hx => h x (by simp [hx]))]
def pcs (s : ByteArray) : List ByteArray := (spl s.data.toList).map fun l => ⟨l.toArray⟩
theorem index_cases (c : UInt8) (l : List UInt8) : (Lib.indexByte l c = -1 ∧ ∀ b ∈ l, b ≠ c) ∨ ∃ a r, l = a ++ c :: r ∧ Lib.indexByte l c = (a.length : Int) ∧ ∀ b ∈ a, b ≠ c := by
  induction l with
  | nil => exact .inl ⟨rfl, by simp⟩
  | cons b r ih =>
    by_cases hb : b = c
    · subst hb
      exact .inr ⟨[], r, rfl, by simp [Lib.indexByte], by simp⟩
    · have hbf : (b == c) = false := by simpa using hb
      rcases ih with ⟨h1, h2⟩ | ⟨a, r', h1, h2, h3⟩
      · refine .inl ⟨by simp [Lib.indexByte, hbf, h1], fun x hx => ?_⟩
        rcases List.mem_cons.1 hx with rfl | hx
        · exact hb
        · exact h2 x hx
      · refine .inr ⟨b :: a, r', by rw [h1]; rfl, ?_, fun x hx => ?_⟩
        · have hne : ((a.length : Int) == -1) = false := by simp
          simp [Lib.indexByte, hbf, h2, hne, List.length_cons]
        · rcases List.mem_cons.1 hx with rfl | hx
          · exact hb
          · exact h3 x hx
/-- The size of the text at a cell. -/
def szAt (w : World) (b : Nat) : Nat := match w.cell? ⟨b, 0, none⟩ with
  | some (.string s) => s.size
  | _ => 0
/-- The boxes of the iterator: the sign, the text, how much of the sign is kept. -/
structure Bx (w : World) (b1 b2 b3 : Nat) (s : ByteArray) : Prop where
  c1 : w.cell? ⟨b1, 0, none⟩ = some (.string ⟨#[46]⟩)
  c2 : w.cell? ⟨b2, 0, none⟩ = some (.string s)
  c3 : w.cell? ⟨b3, 0, none⟩ = some (.int .i64 0)
  f2 : w.frozen? ⟨b2, 0, none⟩ = false
/-- What a round keeps: the boxes. -/
def Kb (b1 b2 b3 : Nat) (A B : World) : Prop := A.heap.size ≤ B.heap.size ∧ B.heap[b1]? = A.heap[b1]? ∧ B.heap[b2]? = A.heap[b2]? ∧ B.heap[b3]? = A.heap[b3]?
theorem Bx.kept {w w' : World} {b1 b2 b3 : Nat} {s : ByteArray} (h : Bx w b1 b2 b3 s) (k : Kb b1 b2 b3 w w') : Bx w' b1 b2 b3 s :=
  ⟨(World.cell?_of_block (a := ⟨b1, 0, none⟩) k.2.1).trans h.c1, (World.cell?_of_block (a := ⟨b2, 0, none⟩) k.2.2.1).trans h.c2, (World.cell?_of_block (a := ⟨b3, 0, none⟩) k.2.2.2).trans h.c3, (World.frozen?_of_block (a := ⟨b2, 0, none⟩) k.2.2.1).trans h.f2⟩
theorem pcs_at {s : ByteArray} {a r : List UInt8} (h : s.data.toList = a ++ 46 :: r) (ha : ∀ b ∈ a, b ≠ 46) : pcs s = (s.extract 0 a.length) :: pcs (s.extract (a.length + 1) s.size) := by
  have hsz : s.size = a.length + 1 + r.length := by
    have e : s.size = s.data.toList.length := rfl
    rw [e, h]; simp; omega
  have e1 : s.extract 0 a.length = ⟨a.toArray⟩ := by
    apply ByteArray.ext
    apply Array.toList_inj.1
    rw [ByteArray.data_extract, Array.toList_extract, h]
    simp
  have e2 : (s.extract (a.length + 1) s.size).data.toList = r := by
    rw [ByteArray.data_extract, Array.toList_extract, h, hsz]
    simp [List.drop_append, List.take_of_length_le]
  unfold pcs
  rw [e2, e1, h, spl_at ha, List.map_cons]
theorem pcs_none {s : ByteArray} (h : ∀ b ∈ s.data.toList, b ≠ 46) : pcs s = [s] := by
  unfold pcs
  rw [spl_none h]
  simp
set_option maxRecDepth 100000 in
set_option maxHeartbeats 2000000 in
theorem split1_in (n : Nat) (hn : 1 ≤ n) (l b1 b2 b3 : Nat) (hb : b1 ≠ b2 ∧ b3 ≠ b2) (s : ByteArray) (hs : s.size < 4294967281) (J Jx : List ByteArray → World → Prop)
    (hJ : ∀ pre W v, J pre W → J pre (W.setCell ⟨b2, 0, none⟩ v))
    (hY : ∀ pre x W, J pre W → (pre ++ [x]) <+: pcs s → YieldAt Fence.wide (n - 1) Tryd.prog l #[.string x] W fun e W' =>
      (e = .returned (.bool true) ∧ J (pre ++ [x]) W' ∧ Kb b1 b2 b3 W W') ∨ (e = .returned (.bool false) ∧ Jx (pre ++ [x]) W'))
    (W : World) (hB : Bx W b1 b2 b3 s) (h0 : J [] W) :
    CallsIn Fence.wide n Tryd.prog 67 #[.func (.yield l) #[] #[], .pointer (some ⟨b1, 0, none⟩), .pointer (some ⟨b2, 0, none⟩), .pointer (some ⟨b3, 0, none⟩)] W fun e W' => (∃ v, e = .returned v) ∧
      (J (pcs s) W' ∨ ∃ pre, pre <+: pcs s ∧ Jx pre W') := by
  have c1 := hB.c1
  have HB := Lib.hid hB
  clear hB
  refine callsIn_of_wp Tryd.func67 rfl trivial ?_ rfl
  simp only [Tryd.ntmps67, List.size_toArray, List.length_cons, List.length_nil, Nat.reduceAdd, Nat.reduceSub, Array.replicate_succ, Array.replicate_zero, List.push_toArray, List.append_toArray, List.nil_append, List.cons_append]
  gi_wp2
  gi_loopw [7] (fun _ wr => ∃ (pre : List ByteArray) (cur : ByteArray), pre ++ pcs cur = pcs s ∧ cur.size ≤ s.size ∧ Hid (Bx wr b1 b2 b3 cur) ∧ J pre wr)
    (fun _ wr => szAt wr b2)
  case atStart =>
    exact ⟨[], s, rfl, Nat.le_refl _, HB, h0⟩
  case round =>
    obtain ⟨pre, cur, hp, hcs, HB1, hJs⟩ := hrel
    have c1 := (show Bx wr b1 b2 b3 cur from HB1).c1
    have c2 := (show Bx wr b1 b2 b3 cur from HB1).c2
    have c3 := (show Bx wr b1 b2 b3 cur from HB1).c3
    have f2 := (show Bx wr b1 b2 b3 cur from HB1).f2
    gi_wp2
    refine ⟨trivial, ?_⟩
    gi_at_call 68
    refine (callsIn_wide.2 (Tryd.strings_Index_one cur 46 wr)).mono ?_
    rintro e w' ⟨rfl, rfl⟩
    rcases index_cases 46 cur.data.toList with ⟨hi, hno⟩ | ⟨a, r, hcl, hi, hno⟩
    · rw [hi]
      have hpc : pcs cur = [cur] := pcs_none hno
      have hpre : (pre ++ [cur]) <+: pcs s := by rw [← hp, hpc]; exact List.prefix_refl _
      obtain ⟨fn, tmps, assign, body, hy, hR⟩ := hY pre cur w' hJs hpre
      gi_wp2
      refine hR.mono ?_
      rintro e W3 (⟨rfl, hJ3, hk3⟩ | ⟨rfl, hJx3⟩)
      · gi_wp2
        go_end0
        exact ⟨⟨_, rfl⟩, .inl (by rw [← hp, hpc]; exact hJ3)⟩
      · gi_wp2
        go_end0
        exact ⟨⟨_, rfl⟩, .inr ⟨_, hpre, hJx3⟩⟩
    · rw [hi]
      have hsz : cur.size = a.length + 1 + r.length := by
        have e : cur.size = cur.data.toList.length := rfl
        rw [e, hcl]; simp; omega
      have hw1 : wrap64 (a.length : Int) = a.length := by simp only [wrap64]; omega
      have hr1 : 0 ≤ (a.length : Int) ∧ (a.length : Int) ≤ (cur.size : Int) := by omega
      have hng : ¬ ((a.length : Int) < 0) := by omega
      have hpc := pcs_at hcl hno
      have hpre : (pre ++ [cur.extract 0 a.length]) <+: pcs s := by rw [← hp, hpc]; exact ⟨pcs (cur.extract (a.length + 1) cur.size), by simp⟩
      obtain ⟨fn, tmps, assign, body, hy, hR⟩ := hY pre (cur.extract 0 a.length) w' hJs hpre
      gi_wp2
      refine hR.mono ?_
      rintro e W3 (⟨rfl, hJ3, hk3⟩ | ⟨rfl, hJx3⟩)
      · have HB3 : Hid (Bx W3 b1 b2 b3 cur) := Bx.kept HB1 hk3
        have c1 := (show Bx W3 b1 b2 b3 cur from HB3).c1
        have c2 := (show Bx W3 b1 b2 b3 cur from HB3).c2
        have c3 := (show Bx W3 b1 b2 b3 cur from HB3).c3
        have f2 := (show Bx W3 b1 b2 b3 cur from HB3).f2
        have hw2 : wrap64 ((a.length : Int) + 1) = a.length + 1 := by simp only [wrap64]; omega
        have hr2 : 0 ≤ (a.length : Int) + 1 ∧ (a.length : Int) + 1 ≤ (cur.size : Int) := by omega
        gi_wp2
        have hsb : szAt w' b2 = cur.size := by
          unfold szAt; rw [(show Bx w' b1 b2 b3 cur from HB1).c2]
        have k2 : (W3.setCell ⟨b2, 0, none⟩ (.string (cur.extract (a.length + 1) (a.length + 1 + r.length)))).cell? ⟨b2, 0, none⟩ = some (.string (cur.extract (a.length + 1) (a.length + 1 + r.length))) := World.cell?_setCell_same' _ _ _ (by rw [c2]; rfl)
        refine ⟨⟨pre ++ [cur.extract 0 a.length], cur.extract (a.length + 1) (a.length + 1 + r.length), ?_, ?_, ⟨?_, k2, ?_, ?_⟩, hJ _ _ _ hJ3⟩, ?_⟩
        · rw [← hp, hpc, hsz]; simp
        · simp only [ByteArray.size_extract]; omega
        · rw [World.cell?_setCell_far _ _ _ _ (show b2 ≠ b1 from fun h => hb.1 h.symm)]; exact c1
        · rw [World.cell?_setCell_far _ _ _ _ (show b2 ≠ b3 from fun h => hb.2 h.symm)]; exact c3
        · rw [World.frozen?_setCell]; exact f2
        · rw [hsb]
          unfold szAt
          rw [k2]
          simp only [ByteArray.size_extract]; omega
      · gi_wp2
        refine bodyPost_ret (results_none rfl _ _ _) rfl ?_
        exact ⟨⟨_, rfl⟩, .inr ⟨_, hpre, hJx3⟩⟩
end Go.Proofs.YthfmjiafdfoajaaDoor
