/- path: letter, SplitSeq. -/
import Derived.Test.YthfmjiafdfoajaaDoorRng
set_option linter.unusedVariables false
set_option linter.unusedSimpArgs false
namespace Go.Proofs.YthfmjiafdfoajaaDoor
open Go.RowKit Go.Shelf
attribute [local go_sem] Oper.semAt_some

def letP (c : UInt8) : Bool := (decide (97 ≤ c.toNat) && decide (c.toNat ≤ 122)) || (decide (65 ≤ c.toNat) && decide (c.toNat ≤ 90)) || (decide (48 ≤ c.toNat) && decide (c.toNat ≤ 57))

set_option maxRecDepth 100000 in
set_option maxHeartbeats 4000000 in
theorem letter_any (c : UInt8) (w : World) : Calls Tryd.prog 35 #[.int .u8 c.toNat] w fun e w' => e = .returned (.bool (letP c)) ∧ w' = w := by
  go_enter Tryd.func35, Tryd.ntmps35
  go_wp2_with fail
  all_goals
    go_ret
    refine ⟨?_, rfl⟩
    show Ending.returned (Value.bool _) = _
    refine congrArg (fun b => Ending.returned (Value.bool b)) ?_
    rw [Bool.eq_iff_iff]
    simp only [letP, Bool.or_eq_true, Bool.and_eq_true, decide_eq_true_eq, true_iff, Bool.false_eq_true, false_iff]
    omega

set_option maxRecDepth 100000 in
set_option maxHeartbeats 4000000 in
theorem split0_any (n : Nat) (s : ByteArray) (w : World) : CallsIn Fence.wide n Tryd.prog 54 #[.string s, .string ⟨#[46]⟩, .int .i64 0] w fun e w' =>
    e = .returned (.func (.func 67) #[] #[.pointer (some ⟨w.heap.size + 1, 0, none⟩), .pointer (some ⟨w.heap.size, 0, none⟩), .pointer (some ⟨w.heap.size + 1 + 1, 0, none⟩)]) ∧
      w' = ((w.alloc (.cells #[.string s] 9)).alloc (.cells #[.string ⟨#[46]⟩] 9)).alloc (.cells #[.int .i64 0] 3) := by
  refine callsIn_of_wp Tryd.func54 rfl trivial ?_ rfl
  simp only [Tryd.ntmps54, List.size_toArray, List.length_cons, List.length_nil, Nat.reduceAdd, Nat.reduceSub, Array.replicate_succ, Array.replicate_zero, List.push_toArray, List.append_toArray, List.nil_append, List.cons_append]
  gi_wp2
  go_ret
  exact ⟨rfl, rfl⟩
set_option maxRecDepth 100000 in
set_option maxHeartbeats 4000000 in
theorem splitSeq_any (n : Nat) (hn : 3 ≤ n) (s : ByteArray) (w : World) : CallsIn Fence.wide n Tryd.prog 34 #[.string s, .string ⟨#[46]⟩] w fun e w' =>
    e = .returned (.func (.func 67) #[] #[.pointer (some ⟨w.heap.size + 1, 0, none⟩), .pointer (some ⟨w.heap.size, 0, none⟩), .pointer (some ⟨w.heap.size + 1 + 1, 0, none⟩)]) ∧
      w' = ((w.alloc (.cells #[.string s] 9)).alloc (.cells #[.string ⟨#[46]⟩] 9)).alloc (.cells #[.int .i64 0] 3) := by
  refine callsIn_of_wp Tryd.func34 rfl trivial ?_ rfl
  simp only [Tryd.ntmps34, List.size_toArray, List.length_cons, List.length_nil, Nat.reduceAdd, Nat.reduceSub, Array.replicate_succ, Array.replicate_zero, List.push_toArray, List.append_toArray, List.nil_append, List.cons_append]
  gi_wp2
  refine ⟨trivial, fun _ => by omega, ?_⟩
  refine (split0_any (n - 1) s w).mono ?_
  rintro e w' ⟨rfl, rfl⟩
  gi_wp2
  go_ret
  exact ⟨rfl, rfl⟩
theorem cell_hd {W : World} {k : Nat} {v : Value} {t : TypeId} (h : W.heap[k]? = some (.cells #[v] t)) : W.cell? ⟨k, 0, none⟩ = some v ∧ W.frozen? ⟨k, 0, none⟩ = false := by
  constructor <;> simp [World.cell?, World.frozen?, h]
theorem bx_new (s : ByteArray) (w : World) : Bx (((w.alloc (.cells #[.string s] 9)).alloc (.cells #[.string ⟨#[46]⟩] 9)).alloc (.cells #[.int .i64 0] 3)) (w.heap.size + 1) w.heap.size (w.heap.size + 1 + 1) s := by
  have h1 := World.alloc_heap_new w (.cells #[.string s] 9)
  have h2 := World.alloc_heap_new (w.alloc (.cells #[.string s] 9)) (.cells #[.string ⟨#[46]⟩] 9)
  have h3 := World.alloc_heap_new ((w.alloc (.cells #[.string s] 9)).alloc (.cells #[.string ⟨#[46]⟩] 9)) (.cells #[.int .i64 0] 3)
  simp only [World.size_alloc] at h2 h3
  have k1 : (((w.alloc (.cells #[.string s] 9)).alloc (.cells #[.string ⟨#[46]⟩] 9)).alloc (.cells #[.int .i64 0] 3)).heap[w.heap.size]? = some (.cells #[.string s] 9) :=
    ((Below.heap_alloc _ _ _ (by simp; omega)).trans (Below.heap_alloc _ _ _ (by simp))).trans h1
  have k2 : (((w.alloc (.cells #[.string s] 9)).alloc (.cells #[.string ⟨#[46]⟩] 9)).alloc (.cells #[.int .i64 0] 3)).heap[w.heap.size + 1]? = some (.cells #[.string ⟨#[46]⟩] 9) :=
    (Below.heap_alloc _ _ _ (by simp)).trans h2
  exact ⟨(cell_hd k2).1, (cell_hd k1).1, (cell_hd h3).1, (cell_hd k1).2⟩

/-- A label that is no domain's. -/
def badL (x : ByteArray) : Bool := decide (x.size = 0) || decide (63 < x.size) || (x.data.toList[0]? == some 45) || (x.data.toList[x.size - 1]? == some 45) || x.data.toList.any fun b => !letP b && !(b == 45)
/-- What Domain answers. -/
def domR (s : ByteArray) : ByteArray × Nat := if 255 < s.size then (⟨#[]⟩, 3) else if (pcs s).any badL then (⟨#[]⟩, 2) else (⟨(Lib.toLowerA s.data.toList).toArray⟩, 0)
theorem letP_ascii {b : UInt8} (h : letP b = true) : b.toNat < 128 := by
  simp only [letP, Bool.or_eq_true, Bool.and_eq_true, decide_eq_true_eq] at h
  omega
end Go.Proofs.YthfmjiafdfoajaaDoor
