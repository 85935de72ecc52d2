/- strings.Builder's methods, by contracts that tell just what blocks they turn. -/
import Derived.Test.YtomfblnflobonaaBase
import Derived.Lib.Builder
import Derived.Lib.AppendStr
import Derived.Lib.UnsafeStr
import Derived.Maps.AppendAt
import Derived.Laws.Externs
import Derived.Test.YtomfblnflobonaaShelf
set_option linter.unusedVariables false
set_option linter.unusedSimpArgs false
namespace Go.Proofs.Ytomfblnflobonaa
open Go.RowKit

/-- append(v, s...), s a string: and where the new row lies. -/
theorem append_string_at {P : Program} (w : World) (base : Nat) (t u ty e : TypeId) (i : TypeInfo) (ht : P.underlying t = some (.slice e)) (hu : P.underlying u = some .string) (hi : P.info? e = some i) (hz : i.zero = some (.int .u8 0))
    (hsize : i.size = 1) (hby : i.bytes = 1)
    (v : Value) (n : Nat) (xs : List Value) (hown : w.ownsRow base e 1 v n xs) (s : ByteArray)
    (h63 : n + s.size ≤ maxLen) (hbytes : n + s.size ≤ 140737488355328) (hbase : base ≤ w.heap.size) :
    ∃ v' w', (Builtin.append_ #[t, u] ty #[v, .string s]).run P w = .ok v' w' ∧ w'.ownsRow base e 1 v' (n + s.size) (xs ++ Lib.strCells s) ∧ w.grownBy w' v.ownBlock ∧
      (v'.ownBlock = v.ownBlock ∨ v'.ownBlock = some w.heap.size) := by
  obtain ⟨v', w', hr, h1, h2, h3⟩ := Lib.run_append_own_string (P := P) w base t u ty e i ht hu hi hz hsize hby v n xs hown s h63 hbytes hbase
  refine ⟨v', w', hr, h1, h2, ?_⟩
  have hxl : xs.length = n := by simpa using hown.1
  rcases hown.2 with ⟨rfl, hn⟩ | ⟨g, cap, cur, rfl, hbg, hg, hnc, hcm, hcs, htake⟩
  · by_cases hm : s.size = 0
    · have : v' = .slice none 0 0 := h3.2 ⟨rfl, hm⟩
      exact .inl (by rw [this])
    · have hr' := run_append_nil_string (P := P) w t u ty e i (.int .u8 0) ht hu hi hz s (by omega) (by unfold maxLen at h63; omega) (by rw [hby]; omega)
      rw [hr] at hr'
      injection hr' with hv _
      exact .inr (by rw [hv]; rfl)
  · by_cases hroom : n + s.size ≤ cap
    · have hcs' : cur.size = cap := by simpa using hcs
      have hr' := Lib.run_append_room_string (P := P) w t u ty e i ht hu hi hsize g n cap cur hg s hroom (by omega)
      rw [hr] at hr'
      injection hr' with hv _
      exact .inl (by rw [hv]; rfl)
    · have holds : ∀ j u, xs[j]? = some u → w.cell? ((⟨g, 0, none⟩ : Addr).add j) = some u := hown.cells (g := g) rfl
      have hr' := Lib.run_append_grow_string (P := P) w t u ty e i (.int .u8 0) ht hu hi hz ⟨g, 0, none⟩ n cap xs (by rw [hsize]; simpa using hxl) holds s (by omega) (by unfold maxLen at h63; omega) (by rw [hby]; exact growslice_fits (by omega) (by omega))
      rw [hr] at hr'
      injection hr' with hv _
      exact .inr (by rw [hv]; rfl)

theorem wpList_append_string_at {P : Program} {w : World} {ops : Array Oper} {rest : List Oper} {o : Oper} {a : Act} {Q : Exit → Act → World → Prop} (hgd : o.guard = none) (sl x : Operand) (t u : TypeId)
    (ho : o.op = .call { callee := .builtin .append, args := #[sl, x], argTypes := #[t, u] })
    (base : Nat) (e : TypeId) (i : TypeInfo) (ht : P.underlying t = some (.slice e)) (hu : P.underlying u = some .string) (hi : P.info? e = some i) (hz : i.zero = some (.int .u8 0))
    (hsize : i.size = 1) (hby : i.bytes = 1)
    (v : Value) (n : Nat) (xs : List Value) (hs : a.eval sl = v) (hown : w.ownsRow base e 1 v n xs) (s : ByteArray) (hx : a.eval x = .string s)
    (h63 : n + s.size ≤ maxLen) (hbytes : n + s.size ≤ 140737488355328) (hbase : base ≤ w.heap.size)
    (h : ∀ v' w', w'.ownsRow base e 1 v' (n + s.size) (xs ++ Lib.strCells s) → w.grownBy w' v.ownBlock → (v'.ownBlock = v.ownBlock ∨ v'.ownBlock = some w.heap.size) → wpList P ops Q rest (a.put o.dst v') w') : wpList P ops Q (o :: rest) a w := by
  refine wpList_plain hgd fun K hK => ?_
  obtain ⟨v', w', hr, h2, h3, h4⟩ := append_string_at (P := P) w base t u o.type e i ht hu hi hz hsize hby v n xs hown s h63 hbytes hbase
  unfold Oper.wp execOp
  simp only [ho, resolve, invoke, builtin, Sem.run_bind, Sem.run_pure, Result.andThen_ok, List.map_toArray, List.map_cons, List.map_nil, hs, hx, hr]
  exact hK _ _ (h v' w' h2 h3 h4)

/-- A builder at block g that holds the bytes s; its row, v, lies at or beyond B. -/
def Bld (w : World) (B g : Nat) (v : Value) (l : List UInt8) : Prop :=
  B ≤ g ∧ (∃ p, (p = .pointer none ∨ p = .pointer (some ⟨g, 0, none⟩)) ∧ Blk w g #[p, v] 62) ∧ w.ownsRow B 5 1 v l.length (Lib.byteCells l) ∧ v.ownBlock ≠ some g
/-- Its blocks. -/
def BldF (g : Nat) (v : Value) : Nat → Prop := fun k => k = g ∨ v.ownBlock = some k

theorem Bld.new (w : World) (B : Nat) (hB : B ≤ w.heap.size) : Bld (w.alloc (.cells #[.pointer none, .slice none 0 0] 62)) B w.heap.size (.slice none 0 0) [] :=
  ⟨hB, ⟨_, .inl rfl, Blk.new _ _ _⟩, World.ownsRow_nil _ _ _ _, by simp [Value.ownBlock]⟩
theorem Bld.lt {w : World} {B g : Nat} {v : Value} {l : List UInt8} (h : Bld w B g v l) : g < w.heap.size := by
  obtain ⟨_, ⟨p, _, hb⟩, _⟩ := h
  exact hb.lt
theorem Bld.rowlt {w : World} {B g : Nat} {v : Value} {l : List UInt8} (h : Bld w B g v l) : ∀ k, v.ownBlock = some k → B ≤ k ∧ k < w.heap.size := h.2.2.1.lt
theorem Bld.upd {w w1 : World} {F : Nat → Prop} {B g : Nat} {v : Value} {l : List UInt8} (h : Bld w B g v l) (k : Upd w w1 F) (h1 : ¬ F g) (h2 : ∀ i, v.ownBlock = some i → ¬ F i) : Bld w1 B g v l := by
  obtain ⟨hB, ⟨p, hp, hb⟩, hown, hne⟩ := h
  refine ⟨hB, ⟨p, hp, hb.upd k h1⟩, ⟨hown.1, ?_⟩, hne⟩
  rcases hown.2 with hn | ⟨q, cap, cur, rfl, hbq, hq, rest⟩
  · exact .inl hn
  · exact .inr ⟨q, cap, cur, rfl, hbq, k.blk hq (h2 q rfl), rest⟩
theorem Bld.nope {w w1 : World} {B g : Nat} {v : Value} {l : List UInt8} (h : Bld w B g v l) (k : Upd w w1 Nope) : Bld w1 B g v l := h.upd k id (fun _ _ => id)

theorem byteCells_append (a b : List UInt8) : Lib.byteCells (a ++ b) = Lib.byteCells a ++ Lib.byteCells b := by simp [Lib.byteCells]
theorem strCells_eq (s : ByteArray) : Lib.strCells s = Lib.byteCells s.data.toList := by simp [Lib.strCells, Lib.byteCells]

set_option maxHeartbeats 1000000 in
theorem copyCheck_used (g : Nat) (w : World) (h0 : w.cell? ⟨g, 0, none⟩ = some (.pointer (some ⟨g, 0, none⟩))) :
    Calls Try.prog 33 #[.pointer (some ⟨g, 0, none⟩)] w fun e w' => e = .returned (.tuple #[]) ∧ w' = w := by
  have hj0 : (Try.prog.info? 62).map (·.size) = some 2 := by kernel_rfl
  obtain ⟨j, hj, _⟩ := Option.map_eq_some_iff.1 hj0
  go_enter Try.func33, Try.ntmps33
  go_wp2
  rw [Lib.run_neq_ptr_same w _ Try.underlying60 hj]
  go_wp2
  go_end0
  exact ⟨rfl, rfl⟩
set_option maxHeartbeats 1000000 in
theorem copyCheck_fresh (g : Nat) (w : World) (h0 : w.cell? ⟨g, 0, none⟩ = some (.pointer none)) (hsh : w.shape? g = some (62, 2)) (hfz : w.frozen? ⟨g, 0, none⟩ = false) :
    Calls Try.prog 33 #[.pointer (some ⟨g, 0, none⟩)] w fun e w' => e = .returned (.tuple #[]) ∧ w' = w.setCell ⟨g, 0, none⟩ (.pointer (some ⟨g, 0, none⟩)) := by
  have hj0 : (Try.prog.info? 62).map (·.size) = some 2 := by kernel_rfl
  obtain ⟨j, hj, hjs⟩ := Option.map_eq_some_iff.1 hj0
  have hlies : liesAt Try.prog Try.prog.depth 62 (2 / Try.prog.cellsOf 62) 0 62 1 = true := by kernel_rfl
  go_enter Try.func33, Try.ntmps33
  go_wp2
  rw [Lib.run_to_unsafe w ⟨g, 0, none⟩ Try.underlying60 Try.underlying74 hj (by rw [hjs]; decide) hsh (Nat.zero_lt_succ 1)]
  simp only [Result.andThen]
  rw [Oper.upon_value]
  go_wp2
  rw [run_callFunc_extern Try.func37 (by kernel_rfl) (by kernel_rfl) (by kernel_rfl) (e := Extern.AbiNoEscape.same) (by kernel_rfl)]
  rw [Lib.run_noEscape]
  simp only [Result.andThen]
  rw [Oper.upon_value]
  go_wp2
  rw [Lib.run_from_unsafe w ⟨g, 0, none⟩ Try.underlying74 Try.underlying60 hj hsh hlies]
  simp only [Result.andThen]
  rw [Oper.upon_value]
  go_wp2
  go_end0
  exact ⟨rfl, rfl⟩

theorem bld_copyCheck (w : World) (B g : Nat) (v : Value) (l : List UInt8) (h : Bld w B g v l) :
    Calls Try.prog 33 #[.pointer (some ⟨g, 0, none⟩)] w fun e w' => e = .returned (.tuple #[]) ∧ Blk w' g #[.pointer (some ⟨g, 0, none⟩), v] 62 ∧ w'.ownsRow B 5 1 v l.length (Lib.byteCells l) ∧ Upd w w' (· = g) := by
  obtain ⟨hB, ⟨p, hp, hb⟩, hown, hne⟩ := h
  have c0 : w.cell? ⟨g, 0, none⟩ = some p := (hb.cell 0).trans rfl
  rcases hp with rfl | rfl
  · refine (copyCheck_fresh g w c0 (by unfold Blk at hb; simp [World.shape?, hb]) (hb.frozen 0)).mono ?_
    rintro e w' ⟨rfl, rfl⟩
    refine ⟨rfl, by simpa using hb.set 0 (.pointer (some ⟨g, 0, none⟩)), ?_, (Upd.refl _ _).set _ _ (.inl rfl)⟩
    refine hown.kept (row := some g) ⟨rfl, rfl, rfl, by simp [World.setCell], fun k hk hn => Below.heap_setCell _ _ _ _ (fun e => hn (by rw [e]))⟩ (.inr hne)
  · refine (copyCheck_used g w c0).mono ?_
    rintro e w' ⟨rfl, rfl⟩
    exact ⟨rfl, hb, hown, Upd.refl _ _⟩

theorem infoB : (Try.prog.info? 5).map (fun i => (i.zero, i.size, i.bytes)) = some (some (.int .u8 0), 1, 1) := by kernel_rfl

set_option maxHeartbeats 1000000 in
theorem bld_writeString (w : World) (B g : Nat) (v : Value) (l : List UInt8) (h : Bld w B g v l) (s : ByteArray) (hlen : l.length + s.size ≤ 140737488355328) (hBw : B ≤ w.heap.size) :
    Calls Try.prog 27 #[.pointer (some ⟨g, 0, none⟩), .string s] w fun e w' => e = .returned (.tuple #[.int .i64 s.size, .nilIface]) ∧ ∃ v', Bld w' B g v' (l ++ s.data.toList) ∧ Upd w w' (BldF g v) ∧ (v'.ownBlock = v.ownBlock ∨ ∃ k, v'.ownBlock = some k ∧ w.heap.size ≤ k) := by
  obtain ⟨i0, hi, hz0, hz1, hz2⟩ := info_parts infoB
  have hB := h.1
  have hne := h.2.2.2
  go_enter Try.func27, Try.ntmps27
  go_wp2_with (go_at_call 33; refine (bld_copyCheck w B g v l h).mono ?_)
  rintro e w1 ⟨rfl, hb1, hown1, hu1⟩
  have c0 : w1.cell? ⟨g, 0, none⟩ = some (.pointer (some ⟨g, 0, none⟩)) := (hb1.cell 0).trans rfl
  have c1 : w1.cell? ⟨g, 1, none⟩ = some v := (hb1.cell 1).trans rfl
  go_wp2_with (at_builtin; refine wpList_append_string_at rfl _ _ 51 9 rfl B 5 i0 Try.underlying51 Try.underlying9 hi hz0 hz1 hz2 _ _ _ rfl hown1 s rfl ?c3 ?c4 ?c5 ?_)
  case c3 => unfold maxLen; omega
  case c4 => omega
  case c5 => have := hu1.size; omega
  intro v' w2 hown' hgrow hloc
  have hb2 : Blk w2 g #[.pointer (some ⟨g, 0, none⟩), v] 62 := (hgrow.block g hb1.lt (fun e => hne e.symm)).trans hb1
  have d0 : w2.cell? ⟨g, 0, none⟩ = some (.pointer (some ⟨g, 0, none⟩)) := (hb2.cell 0).trans rfl
  have d1 : w2.cell? ⟨g, 1, none⟩ = some v := (hb2.cell 1).trans rfl
  have f1 := hb2.frozen 1
  obtain ⟨ao, n', cap, rfl⟩ : ∃ ao n' cap, v' = .slice ao n' cap := by
    rcases hown'.2 with ⟨hv, _⟩ | ⟨g, cap, cur, hv, _⟩
    · exact ⟨_, _, _, hv⟩
    · exact ⟨_, _, _, hv⟩
  go_wp2
  go_ret2
  have hs1 := hu1.size
  have hl1 := hb1.lt
  have hne' : (Value.slice ao n' cap).ownBlock ≠ some g := by
    rcases hloc with e | e
    · rw [e]; exact hne
    · rw [e]
      intro e2
      injection e2 with e2
      omega
  refine ⟨rfl, .slice ao n' cap, ⟨hB, ⟨_, .inr rfl, by simpa using hb2.set 1 (.slice ao n' cap)⟩, ?_, hne'⟩, ?_, ?_⟩
  · have hk := hown'.kept (w' := w2.setCell ⟨g, 1, none⟩ (.slice ao n' cap)) (row := some g) ⟨rfl, rfl, rfl, by simp [World.setCell], fun k hk hn => Below.heap_setCell _ _ _ _ (fun e => hn (by rw [e]))⟩ (.inr hne')
    rw [byteCells_append, ← strCells_eq]
    simpa using hk
  · have h2 : Upd w w2 (BldF g v) := (hu1.mono (fun k _ e => Or.inl e)).grown hgrow (fun k e => .inl (.inr e))
    exact h2.set _ _ (.inl (.inl rfl))
  · rcases hloc with e | e
    · exact .inl e
    · exact .inr ⟨_, e, by omega⟩

theorem bld_string (w : World) (B g : Nat) (v : Value) (l : List UInt8) (h : Bld w B g v l) (hBw : B ≤ w.heap.size) :
    Calls Try.prog 28 #[.pointer (some ⟨g, 0, none⟩)] w fun e w' => e = .returned (.string ⟨l.toArray⟩) ∧ Below B w w' := by
  refine Try.Builder_String_any B g l w ?_ hBw
  obtain ⟨hB, ⟨p, hp, hb⟩, hown, hne⟩ := h
  have hl : (Lib.byteCells l).length = l.length := by simp [Lib.byteCells]
  rcases hp with rfl | rfl
  · exact .inl ⟨hB, v, hb, by rw [hl]; exact hown, hne⟩
  · exact .inr ⟨hB, v, hb, by rw [hl]; exact hown, hne⟩
end Go.Proofs.Ytomfblnflobonaa
