/- A row of bytes of the call's own, as []byte(s) makes it: read, written, turned back into a string. TB: the type byte; TBS: []byte; TS: string. -/
import Derived.Test.YthfmjiafdfoajaaDoorOpen
import Derived.Lib.ConvBytes
set_option linter.unusedVariables false
set_option linter.unusedSimpArgs false
namespace Go.Proofs.YthfmjiafdfoajaaDoor
open Go.RowKit

/-- Block g begins with these bytes, none of them frozen. -/
structure Byt (w : World) (g : Nat) (bs : List UInt8) : Prop where
  lt : g < w.heap.size
  cell : ∀ i, i < bs.length → w.cell? ⟨g, i, none⟩ = some (.int .u8 (bs.getD i 0).toNat)
  frz : ∀ i, i < bs.length → w.frozen? ⟨g, i, none⟩ = false

theorem Byt.upd {w w' : World} {F : Nat → Prop} {g : Nat} {bs : List UInt8} (h : Byt w g bs) (k : Upd w w' F) (hn : ¬ F g) : Byt w' g bs :=
  ⟨Nat.lt_of_lt_of_le h.lt k.size, fun i hi => k.cell (h.cell i hi) hn, fun i hi => (World.frozen?_of_block (k.block g h.lt hn)).trans (h.frz i hi)⟩
theorem Byt.drewN {w : World} {g : Nat} {bs : List UInt8} (h : Byt w g bs) (n : Nat) : Byt (w.drewN n) g bs := ⟨h.lt, h.cell, h.frz⟩
theorem Byt.new (w : World) (s : ByteArray) : Byt (Lib.bytesWorld w 5 s) w.heap.size s.data.toList := by
  refine ⟨by rw [Lib.bytesWorld_size]; omega, fun i hi => Lib.bytesWorld_cell w 5 s i (by simpa using hi), fun i hi => ?_⟩
  simp only [World.frozen?, Lib.bytesWorld_at_new]
  have : i < s.size := by simpa using hi
  have hz : s.size ≤ (Lib.bytesCells w 5 s).size := by
    unfold Lib.bytesCells
    rw [Array.size_append, Array.size_map]
    have : s.data.size = s.size := rfl
    omega
  simp
  omega
theorem Byt.newUpd (w : World) (s : ByteArray) (F : Nat → Prop) : Upd w (Lib.bytesWorld w 5 s) F := ⟨rfl, rfl, rfl, by rw [Lib.bytesWorld_size]; omega, fun i hi _ => Lib.bytesWorld_at_old w 5 s i hi⟩
theorem Byt.set {w : World} {g : Nat} {bs : List UInt8} (h : Byt w g bs) (i : Nat) (b : UInt8) (hi : i < bs.length) (n : Nat) (hn : n = b.toNat) : Byt (w.setCell ⟨g, i, none⟩ (.int .u8 (n : Int))) g (bs.set i b) := by
  subst hn
  refine ⟨by simpa [World.setCell] using h.lt, fun j hj => ?_, fun j hj => ?_⟩
  · rw [List.length_set] at hj
    by_cases hij : i = j
    · subst hij
      rw [World.cell?_setCell_same w _ _ (h.cell i hi)]
      simp [List.getD, hi]
    · rw [World.cell?_setCell_other w _ _ _ (fun e => hij (by injection e)), h.cell j hj]
      simp [List.getD, List.getElem?_set, hij]
  · rw [List.length_set] at hj
    have := h.frz j hj
    simp only [World.frozen?, World.setCell, Array.getElem?_modify] at this ⊢
    cases hg : w.heap[g]? with
    | none => simp [hg]
    | some o =>
      rw [hg] at this
      simp only [if_true, Option.map_some]
      cases o with
      | cells cs t fr => simpa using this
      | _ => rfl
theorem Byt.str {w : World} {g : Nat} {bs : List UInt8} (h : Byt w g bs) (cap : Nat) : (convert 42 9 (.slice (some ⟨g, 0, none⟩) bs.length cap)).run Tryd.prog w = .ok (.string ⟨bs.toArray⟩) w := by
  have e : strOfNums (bs.map fun b => (b.toNat : Int)) = ⟨bs.toArray⟩ := by
    have e2 : (fun n : Int => UInt8.ofNat n.toNat) ∘ (fun b : UInt8 => (b.toNat : Int)) = id := by funext b; simp
    unfold strOfNums
    rw [List.map_map, e2, List.map_id]
  rw [← e]
  refine run_convert_bytes_arg (P := Tryd.prog) w 42 5 Tryd.underlying42 Tryd.underlying5 g 0 bs.length cap (bs.map fun b => (b.toNat : Int)) (by simp) (fun i hi => ?_) 9 Tryd.underlying9
  rw [Nat.zero_add, h.cell i hi]
  simp [List.getD, hi]
theorem xor_u8 (a b : Nat) (ha : a < 256) (hb : b < 256) : bits .xor .u8 (a : Int) (b : Int) = ((a ^^^ b : Nat) : Int) := by
  have ha' : a % 2 ^ 8 = a := Nat.mod_eq_of_lt ha
  have hb' : b % 2 ^ 8 = b := Nat.mod_eq_of_lt hb
  have hx : a ^^^ b < 256 := Nat.xor_lt_two_pow (n := 8) ha hb
  have e : bits .xor .u8 (a : Int) (b : Int) = IntKind.u8.wrap ((((BitVec.ofInt 8 (a : Int)) ^^^ (BitVec.ofInt 8 (b : Int))).toNat : Nat) : Int) := rfl
  rw [e, BitVec.ofInt_natCast, BitVec.ofInt_natCast, BitVec.toNat_xor, BitVec.toNat_ofNat, BitVec.toNat_ofNat, ha', hb', IntKind.wrap_u8]
  exact Int.emod_eq_of_lt (by omega) (by omega)
end Go.Proofs.YthfmjiafdfoajaaDoor
