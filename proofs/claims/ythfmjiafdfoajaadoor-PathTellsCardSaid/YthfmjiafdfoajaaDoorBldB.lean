/- strings.Builder's methods, by contracts that tell just what blocks they turn. -/
import Derived.Test.YthfmjiafdfoajaaDoorBase
import Derived.Lib.Builder
import Derived.Lib.UnsafeStr
import Derived.Deep.AppendLies
import Derived.Laws.Externs
import Derived.Test.YthfmjiafdfoajaaDoorShelf
set_option maxRecDepth 100000
set_option linter.unusedVariables false
set_option linter.unusedSimpArgs false
namespace Go.Proofs.YthfmjiafdfoajaaDoor
open Go.RowKit

/-- A builder at block g that holds the bytes s; its row, v, lies at or beyond B. -/
def Bld (w : World) (B g : Nat) (v : Value) (l : List UInt8) : Prop :=
  B ≤ g ∧ (∃ p, (p = .pointer none ∨ p = .pointer (some ⟨g, 0, none⟩)) ∧ Blk w g #[p, v] 50) ∧ w.ownsRow B 5 1 v l.length (Lib.byteCells l) ∧ v.ownBlock ≠ some g
/-- Its blocks. -/
def BldF (g : Nat) (v : Value) : Nat → Prop := fun k => k = g ∨ v.ownBlock = some k

theorem Bld.new (w : World) (B : Nat) (hB : B ≤ w.heap.size) : Bld (w.alloc (.cells #[.pointer none, .slice none 0 0] 50)) B w.heap.size (.slice none 0 0) [] :=
  ⟨hB, ⟨_, .inl rfl, Blk.new _ _ _⟩, World.ownsRow_nil _ _ _ _, by simp [Value.ownBlock]⟩
theorem Bld.lt {w : World} {B g : Nat} {v : Value} {l : List UInt8} (h : Bld w B g v l) : g < w.heap.size := by
  obtain ⟨_, ⟨p, _, hb⟩, _⟩ := h
  exact hb.lt
theorem Bld.rowlt {w : World} {B g : Nat} {v : Value} {l : List UInt8} (h : Bld w B g v l) : ∀ k, v.ownBlock = some k → B ≤ k ∧ k < w.heap.size := h.2.2.1.lt
theorem Bld.upd {w w1 : World} {F : Nat → Prop} {B g : Nat} {v : Value} {l : List UInt8} (h : Bld w B g v l) (k : Upd w w1 F) (h1 : ¬ F g) (h2 : ∀ i, v.ownBlock = some i → ¬ F i) : Bld w1 B g v l := by
  obtain ⟨hB, ⟨p, hp, hb⟩, hown, hne⟩ := h
  refine ⟨hB, ⟨p, hp, hb.upd k h1⟩, ⟨hown.1, ?_⟩, hne⟩
  rcases hown.2 with hn | ⟨q, cap, cur, rfl, hbq, hq, rest⟩
  · exact .inl hn
  · exact .inr ⟨q, cap, cur, rfl, hbq, k.blk hq (h2 q rfl), rest⟩
theorem Bld.nope {w w1 : World} {B g : Nat} {v : Value} {l : List UInt8} (h : Bld w B g v l) (k : Upd w w1 Nope) : Bld w1 B g v l := h.upd k id (fun _ _ => id)

theorem byteCells_append (a b : List UInt8) : Lib.byteCells (a ++ b) = Lib.byteCells a ++ Lib.byteCells b := by simp [Lib.byteCells]

set_option maxHeartbeats 1000000 in
theorem copyCheck_used (g : Nat) (w : World) (h0 : w.cell? ⟨g, 0, none⟩ = some (.pointer (some ⟨g, 0, none⟩))) :
    Calls Tryd.prog 41 #[.pointer (some ⟨g, 0, none⟩)] w fun e w' => e = .returned (.tuple #[]) ∧ w' = w := by
  have hj0 : (Tryd.prog.info? 50).map (·.size) = some 2 := by kernel_rfl
  obtain ⟨j, hj, _⟩ := Option.map_eq_some_iff.1 hj0
  go_enter Tryd.func41, Tryd.ntmps41
  go_wp2
  rw [Lib.run_neq_ptr_same w _ Tryd.underlying48 hj]
  go_wp2
  go_end0
  exact ⟨rfl, rfl⟩
set_option maxHeartbeats 1000000 in
theorem copyCheck_fresh (g : Nat) (w : World) (h0 : w.cell? ⟨g, 0, none⟩ = some (.pointer none)) (hsh : w.shape? g = some (50, 2)) (hfz : w.frozen? ⟨g, 0, none⟩ = false) :
    Calls Tryd.prog 41 #[.pointer (some ⟨g, 0, none⟩)] w fun e w' => e = .returned (.tuple #[]) ∧ w' = w.setCell ⟨g, 0, none⟩ (.pointer (some ⟨g, 0, none⟩)) := by
  have hj0 : (Tryd.prog.info? 50).map (·.size) = some 2 := by kernel_rfl
  obtain ⟨j, hj, hjs⟩ := Option.map_eq_some_iff.1 hj0
  have hlies : liesAt Tryd.prog Tryd.prog.depth 50 (2 / Tryd.prog.cellsOf 50) 0 50 1 = true := by kernel_rfl
  go_enter Tryd.func41, Tryd.ntmps41
  go_wp2
  rw [Lib.run_to_unsafe w ⟨g, 0, none⟩ Tryd.underlying48 Tryd.underlying87 hj (by rw [hjs]; decide) hsh (Nat.zero_lt_succ 1)]
  simp only [Result.andThen]
  rw [Oper.upon_value]
  go_wp2
  rw [run_callFunc_extern Tryd.func56 (by kernel_rfl) (by kernel_rfl) (by kernel_rfl) (e := Extern.AbiNoEscape.same) (by kernel_rfl)]
  rw [Lib.run_noEscape]
  simp only [Result.andThen]
  rw [Oper.upon_value]
  go_wp2
  rw [Lib.run_from_unsafe w ⟨g, 0, none⟩ Tryd.underlying87 Tryd.underlying48 hj hsh hlies]
  simp only [Result.andThen]
  rw [Oper.upon_value]
  go_wp2
  go_end0
  exact ⟨rfl, rfl⟩

theorem bld_copyCheck (w : World) (B g : Nat) (v : Value) (l : List UInt8) (h : Bld w B g v l) :
    Calls Tryd.prog 41 #[.pointer (some ⟨g, 0, none⟩)] w fun e w' => e = .returned (.tuple #[]) ∧ Blk w' g #[.pointer (some ⟨g, 0, none⟩), v] 50 ∧ w'.ownsRow B 5 1 v l.length (Lib.byteCells l) ∧ Upd w w' (· = g) := by
  obtain ⟨hB, ⟨p, hp, hb⟩, hown, hne⟩ := h
  have c0 : w.cell? ⟨g, 0, none⟩ = some p := (hb.cell 0).trans rfl
  rcases hp with rfl | rfl
  · refine (copyCheck_fresh g w c0 (by unfold Blk at hb; simp [World.shape?, hb]) (hb.frozen 0)).mono ?_
    rintro e w' ⟨rfl, rfl⟩
    refine ⟨rfl, by simpa using hb.set 0 (.pointer (some ⟨g, 0, none⟩)), ?_, (Upd.refl _ _).set _ _ (.inl rfl)⟩
    refine hown.kept (row := some g) ⟨rfl, rfl, rfl, by simp [World.setCell], fun k hk hn => Below.heap_setCell _ _ _ _ (fun e => hn (by rw [e]))⟩ (.inr hne)
  · refine (copyCheck_used g w c0).mono ?_
    rintro e w' ⟨rfl, rfl⟩
    exact ⟨rfl, hb, hown, Upd.refl _ _⟩

theorem infoB : (Tryd.prog.info? 5).map (fun i => (i.zero, i.size, i.bytes)) = some (some (.int .u8 0), 1, 1) := by kernel_rfl

set_option maxHeartbeats 1000000 in
theorem bld_writeByte (w : World) (B g : Nat) (v : Value) (l : List UInt8) (h : Bld w B g v l) (c : UInt8) (n : Nat) (hn : n = c.toNat) (hlen : l.length + 1 ≤ 140737488355328) (hBw : B ≤ w.heap.size) :
    Calls Tryd.prog 21 #[.pointer (some ⟨g, 0, none⟩), .int .u8 (n : Int)] w fun e w' => e = .returned .nilIface ∧ ∃ v', Bld w' B g v' (l ++ [c]) ∧ Upd w w' (BldF g v) ∧ (v'.ownBlock = v.ownBlock ∨ ∃ k, v'.ownBlock = some k ∧ w.heap.size ≤ k) := by
  subst hn
  obtain ⟨i0, hi, hz0, hz1, hz2⟩ := info_parts infoB
  have hB := h.1
  have hne := h.2.2.2
  go_enter Tryd.func21, Tryd.ntmps21
  go_wp2_with (go_at_call 41; refine (bld_copyCheck w B g v l h).mono ?_)
  rintro e w1 ⟨rfl, hb1, hown1, hu1⟩
  have c0 : w1.cell? ⟨g, 0, none⟩ = some (.pointer (some ⟨g, 0, none⟩)) := (hb1.cell 0).trans rfl
  have c1 : w1.cell? ⟨g, 1, none⟩ = some v := (hb1.cell 1).trans rfl
  have hl1 := hb1.lt
  have hs1 := hu1.size
  have hrow := World.news_of_block (heap_alloc_new w1 (.cells #[.int .u8 (c.toNat : Int)] 5))
  go_wp2_with (at_builtin; refine wpList_append_lies _ rfl _ _ 42 rfl B 5 i0 (.int .u8 0) 1 1 Tryd.underlying42 hi hz0 hz1 hz2 rfl (by decide) v l.length (Lib.byteCells l) rfl (hown1.alloc _) ⟨w1.heap.size, 0, none⟩ 1 1 [.int .u8 (c.toNat : Int)] rfl rfl hrow ?c1 (by decide) ?c3 ?c4 ?c5 _ rfl ?_)
  case c1 => intro u hu; simp at hu; subst hu; rfl
  case c3 => unfold maxLen; omega
  case c4 => omega
  case c5 => simp; omega
  intro k cap w2 hown' hgrow hloc hlt
  have hb2 : Blk w2 g #[.pointer (some ⟨g, 0, none⟩), v] 50 := (hgrow.block g (by simp; omega) (fun e => hne e.symm)).trans (hb1.alloc _)
  have d0 : w2.cell? ⟨g, 0, none⟩ = some (.pointer (some ⟨g, 0, none⟩)) := (hb2.cell 0).trans rfl
  have d1 : w2.cell? ⟨g, 1, none⟩ = some v := (hb2.cell 1).trans rfl
  have f1 := hb2.frozen 1
  have hk : v.ownBlock = some k ∨ w1.heap.size < k := by
    rcases hloc with e | e
    · exact .inl e
    · right; omega
  go_wp2
  go_ret
  have hne' : (Value.slice (some ⟨k, 0, none⟩) (l.length + 1) cap).ownBlock ≠ some g := by
    intro e
    simp [Value.ownBlock] at e
    subst e
    rcases hk with e | e
    · exact hne e
    · omega
  refine ⟨rfl, .slice (some ⟨k, 0, none⟩) (l.length + 1) cap, ⟨hB, ⟨_, .inr rfl, by simpa using hb2.set 1 (.slice (some ⟨k, 0, none⟩) (l.length + 1) cap)⟩, ?_, hne'⟩, ?_, ?_⟩
  · have hk := hown'.kept (w' := w2.setCell ⟨g, 1, none⟩ (.slice (some ⟨k, 0, none⟩) (l.length + 1) cap)) (row := some g) ⟨rfl, rfl, rfl, by simp [World.setCell], fun k hk hn => Below.heap_setCell _ _ _ _ (fun e => hn (by rw [e]))⟩ (.inr hne')
    rw [byteCells_append]
    simpa [Lib.byteCells] using hk
  · have h2 : Upd w w2 (BldF g v) := ((hu1.mono (fun k _ e => Or.inl e)).alloc _).grown hgrow (fun k e => .inl (.inr e))
    exact h2.set _ _ (.inl (.inl rfl))
  · rcases hk with e | e
    · exact .inl (by rw [e]; rfl)
    · exact .inr ⟨k, rfl, by omega⟩

theorem bld_string (w : World) (B g : Nat) (v : Value) (l : List UInt8) (h : Bld w B g v l) (hBw : B ≤ w.heap.size) :
    Calls Tryd.prog 22 #[.pointer (some ⟨g, 0, none⟩)] w fun e w' => e = .returned (.string ⟨l.toArray⟩) ∧ Below B w w' := by
  refine Tryd.Builder_String_any B g l w ?_ hBw
  obtain ⟨hB, ⟨p, hp, hb⟩, hown, hne⟩ := h
  have hl : (Lib.byteCells l).length = l.length := by simp [Lib.byteCells]
  rcases hp with rfl | rfl
  · exact .inl ⟨hB, v, hb, by rw [hl]; exact hown, hne⟩
  · exact .inr ⟨hB, v, hb, by rw [hl]; exact hown, hne⟩
end Go.Proofs.YthfmjiafdfoajaaDoor
