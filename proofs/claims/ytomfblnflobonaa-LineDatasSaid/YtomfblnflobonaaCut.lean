/- The cutter: New, Pending, Lines, and the line that is held. -/
import Derived.Test.YtomfblnflobonaaPlain
import Derived.Test.YtomfblnflobonaaByt
import Derived.Lib.Builder
import Derived.Handy
import Derived.Deep.Cut
set_option linter.unusedVariables false
set_option linter.unusedSimpArgs false
namespace Go.Proofs.Ytomfblnflobonaa
open Go.RowKit

def lastCr (cur : List UInt8) : Bool := cur.getLast? == some 13
/-- A cutter at block g: of lines of 'most' bytes; so many lines were cut; 'cur' came behind the last one; v is the row of those that are held. -/
structure Ctr (w : World) (B g most lines : Nat) (cur : List UInt8) (v : Value) : Prop where
  blk : Blk w g #[.int .i64 most, .int .i64 lines, v, .int .i64 cur.length, .bool (lastCr cur)] 53
  own : w.ownsRow B 5 1 v (cur.take most).length (Lib.byteCells (cur.take most))
theorem own_ne {w : World} {B e T n : Nat} {size : Nat} {v : Value} {xs : List Value} {g : Nat} {cs : Array Value} (hown : w.ownsRow B e size v n xs) (hb : Blk w g cs T) (hne : T ≠ e) : ∀ k, v.ownBlock = some k → k ≠ g := by
  intro k hk e'
  subst e'
  rcases hown.2 with ⟨rfl, _⟩ | ⟨q, cap, cur, rfl, _, hq, _⟩
  · simp [Value.ownBlock] at hk
  · simp [Value.ownBlock] at hk
    subst hk
    exact (Blk.ne hb hq hne) rfl
theorem own_upd {w w1 : World} {F : Nat → Prop} {B e n size : Nat} {v : Value} {xs : List Value} (h : w.ownsRow B e size v n xs) (k : Upd w w1 F) (h2 : ∀ i, v.ownBlock = some i → ¬ F i) : w1.ownsRow B e size v n xs := by
  refine ⟨h.1, ?_⟩
  rcases h.2 with hn | ⟨q, cap, cur, rfl, hbq, hq, rest⟩
  · exact .inl hn
  · exact .inr ⟨q, cap, cur, rfl, hbq, k.blk hq (h2 q rfl), rest⟩
theorem Ctr.upd {w w1 : World} {F : Nat → Prop} {B g most lines : Nat} {cur : List UInt8} {v : Value} (h : Ctr w B g most lines cur v) (k : Upd w w1 F) (h1 : ¬ F g) (h2 : ∀ i, v.ownBlock = some i → ¬ F i) : Ctr w1 B g most lines cur v :=
  ⟨h.blk.upd k h1, own_upd h.own k h2⟩
theorem Ctr.ne {w : World} {B g most lines : Nat} {cur : List UInt8} {v : Value} (h : Ctr w B g most lines cur v) : ∀ k, v.ownBlock = some k → k ≠ g := own_ne h.own h.blk (by decide)

theorem new_yes (most : Nat) (h1 : 2 ≤ most) (h2 : most ≤ 65536) (w : World) : Calls Try.prog 10 #[.int .i64 (most : Int)] w fun e w' =>
    e = .returned (.tuple #[.pointer (some ⟨w.heap.size, 0, none⟩), .int .i64 0]) ∧ w' = w.alloc (.cells #[.int .i64 (most : Int), .int .i64 0, .slice none 0 0, .int .i64 0, .bool false] 53) := by
  have e1 : decide ((most : Int) < 2) = false := by simp; omega
  have e2 : decide ((65536 : Int) < most) = false := by simp; omega
  clear h1 h2
  generalize (most : Int) = m at e1 e2 ⊢
  go_enter Try.func10, Try.ntmps10
  go_wp2
  go_ret2
  exact ⟨rfl, rfl⟩
theorem new_no (most : Int) (h : most < 2 ∨ 65536 < most) (w : World) : Calls Try.prog 10 #[.int .i64 most] w fun e w' => e = .returned (.tuple #[.pointer none, .int .i64 1]) ∧ w' = w := by
  by_cases h1 : most < 2
  · have e1 : decide (most < 2) = true := by simpa using h1
    clear h1 h
    go_enter Try.func10, Try.ntmps10
    go_wp2
    go_ret2
    exact ⟨rfl, rfl⟩
  · have e1 : decide (most < 2) = false := by simpa using h1
    have e2 : decide ((65536 : Int) < most) = true := by simp; omega
    clear h1 h
    go_enter Try.func10, Try.ntmps10
    go_wp2
    go_ret2
    exact ⟨rfl, rfl⟩
theorem Ctr.new (w : World) (most : Nat) : Ctr (w.alloc (.cells #[.int .i64 (most : Int), .int .i64 0, .slice none 0 0, .int .i64 0, .bool false] 53)) w.heap.size w.heap.size most 0 [] (.slice none 0 0) :=
  ⟨Blk.new _ _ _, by simpa [Lib.byteCells] using World.ownsRow_nil _ _ _ _⟩

theorem pending_any {w : World} {B g most lines : Nat} {cur : List UInt8} {v : Value} (h : Ctr w B g most lines cur v) : Calls Try.prog 14 #[.pointer (some ⟨g, 0, none⟩)] w fun e w' => e = .returned (.int .i64 cur.length) ∧ w' = w := by
  have c3 : w.cell? ⟨g, 3, none⟩ = some (.int .i64 cur.length) := (h.blk.cell 3).trans rfl
  clear h
  generalize (cur.length : Int) = n at c3 ⊢
  go_enter Try.func14, Try.ntmps14
  go_wp2
  go_ret
  exact ⟨rfl, rfl⟩
theorem lines_any {w : World} {B g most lines : Nat} {cur : List UInt8} {v : Value} (h : Ctr w B g most lines cur v) : Calls Try.prog 15 #[.pointer (some ⟨g, 0, none⟩)] w fun e w' => e = .returned (.int .i64 lines) ∧ w' = w := by
  have c3 : w.cell? ⟨g, 1, none⟩ = some (.int .i64 lines) := (h.blk.cell 1).trans rfl
  clear h
  generalize (lines : Int) = n at c3 ⊢
  go_enter Try.func15, Try.ntmps15
  go_wp2
  go_ret
  exact ⟨rfl, rfl⟩

/-- A row of bytes of the call's own, as 'Byt' has it. -/
theorem byt_of_own {w : World} {B : Nat} {v : Value} {n : Nat} {l : List UInt8} (h : w.ownsRow B 5 1 v n (Lib.byteCells l)) (hl : l.length = n) (h0 : 0 < n) : ∃ q cap, v = .slice (some ⟨q, 0, none⟩) n cap ∧ n ≤ cap ∧ Byt w q l := by
  rcases h.2 with ⟨rfl, hn⟩ | ⟨q, cap, cur, rfl, hB, hq, rest⟩
  · omega
  · have h1 := h
    refine ⟨q, cap, rfl, ?_, ?_⟩
    · exact rest.1
    · refine ⟨(Array.getElem?_eq_some_iff.1 hq).1, fun i hi => ?_, fun i hi => h1.frozenAt i⟩
      rw [h1.cellAt i (by omega)]
      simp [Lib.byteCells, hi, List.getD]

attribute [local go_sem] bmin2 bmax2 bmin_two bmax_two
set_option maxHeartbeats 2000000 in
theorem line_any {w : World} {B g most lines : Nat} {cur : List UInt8} {v : Value} (h : Ctr w B g most lines cur v) (hm2 : 2 ≤ most) (hmm : most ≤ 65536) (hc2 : 2 ≤ cur.length) (hc : cur.length ≤ 1000000) (hln : lines ≤ 1000000) :
    Calls Try.prog 24 #[.pointer (some ⟨g, 0, none⟩)] w fun e w' => e = .returned (.agg #[.string ⟨(lineOf most cur).1.toArray⟩, .int .i64 (lineOf most cur).2]) ∧ Ctr w' B g most (lines + 1) [] (.slice none 0 0) ∧ Upd w w' (· = g) := by
  have hl0 : (cur.take most).length = min most cur.length := by simp
  obtain ⟨q, cap, rfl, hcap, hby⟩ := byt_of_own h.own rfl (by omega)
  have hne := h.ne q rfl
  have hb := h.blk
  have ho := h.own
  clear h
  generalize hn : (cur.take most).length = n at hb ho hcap hby
  have hn2 : 2 ≤ n := by omega
  have hnm : n ≤ 65536 := by omega
  have c0 : w.cell? ⟨g, 0, none⟩ = some (.int .i64 most) := (hb.cell 0).trans rfl
  have c1 : w.cell? ⟨g, 1, none⟩ = some (.int .i64 lines) := (hb.cell 1).trans rfl
  have c2 : w.cell? ⟨g, 2, none⟩ = some (.slice (some ⟨q, 0, none⟩) n cap) := (hb.cell 2).trans rfl
  have c3 : w.cell? ⟨g, 3, none⟩ = some (.int .i64 cur.length) := (hb.cell 3).trans rfl
  have hmx : imax 0 ((n : Int) - 2) = ((n - 2 : Nat) : Int) := by unfold imax; split <;> omega
  have hby1 : Byt (w.alloc (.cells #[.string ⟨#[]⟩, .int .i64 0] 49)).drew q (cur.take most) := (hby.upd ((Upd.refl w Nope).alloc _) id).drewN 1
  have hby2 : Byt (w.alloc (.cells #[.string ⟨#[]⟩, .int .i64 0] 49)).drew q ((cur.take most).take (n - 2)) :=
    ⟨hby1.lt, fun i hi => by
      rw [List.length_take] at hi
      rw [hby1.cell i (by omega)]
      have hi2 : i < n - 2 := by omega
      have hi3 : i < most := by omega
      simp [List.getD, List.getElem?_take, hi2, hi3], fun i hi => hby1.frz i (by rw [List.length_take] at hi; omega)⟩
  have hst := hby2.str cap
  rw [show ((cur.take most).take (n - 2)).length = n - 2 by rw [List.length_take]; omega] at hst
  have hgl := hb.lt
  have hgl1 : g < w.heap.size + 1 := by omega
  have hgn : g ≠ w.heap.size := by omega
  have hgn1 : g ≠ w.heap.size + 1 := by omega
  have fr : ∀ i, w.frozen? ⟨g, i, none⟩ = false := fun i => hb.frozen i
  have f1 := fr 1
  have f2 := fr 2
  have f3 := fr 3
  have f4 := fr 4
  have c4 : w.cell? ⟨g, 4, none⟩ = some (.bool (lastCr cur)) := (hb.cell 4).trans rfl
  by_cases hlong : most < cur.length
  · have hd : decide ((most : Int) < (cur.length : Int)) = true := by simp; omega
    have hres : lineOf most cur = ([], 3) := by unfold lineOf; rw [if_pos hlong]
    rw [hres]
    have HR := Lib.hid hb
    have HL := Lib.hid hlong
    clear hb ho hby hby1 hby2 hlong hres hl0 hn
    generalize (⟨((cur.take most).take (n - 2)).toArray⟩ : ByteArray) = T at hst
    go_enter Try.func24, Try.ntmps24
    go_wp2_with fail
    go_region
    go_wp2_with fail
    go_region
    go_wp2_with fail
    go_returns
    have hb := HR.out
    have b1 := ((((hb.set 2 (.slice none 0 0)).set 3 (.int .i64 0)).set 4 (.bool false)).set 1 (.int .i64 ((lines : Int) + 1))).alloc (.cells #[.string ⟨#[]⟩, .int .i64 3] 49)
    have b2 := b1.alloc (.cells #[.string ⟨#[]⟩, .int .i64 3] 49)
    have u2 := (((((((Upd.refl w (· = g)).set ⟨g, 2, none⟩ (.slice none 0 0) (.inl rfl)).set ⟨g, 3, none⟩ (.int .i64 0) (.inl rfl)).set ⟨g, 4, none⟩ (.bool false) (.inl rfl)).set ⟨g, 1, none⟩ (.int .i64 ((lines : Int) + 1)) (.inl rfl)).alloc (.cells #[.string ⟨#[]⟩, .int .i64 3] 49)).alloc (.cells #[.string ⟨#[]⟩, .int .i64 3] 49)).drew.drew
    exact ⟨rfl, ⟨by simpa [lastCr] using b2.drew.drew, by simpa [Lib.byteCells] using World.ownsRow_nil _ _ _ _⟩, u2⟩
  · have hd : decide ((most : Int) < (cur.length : Int)) = false := by simp; omega
    have hT : (cur.take most).take (n - 2) = body cur := by unfold body; rw [List.take_of_length_le (show cur.length ≤ most by omega)]; congr 1; omega
    rw [hT] at hst
    have hbl : (body cur).length ≤ 1000000 := by unfold body; rw [List.length_take]; omega
    have hTs : (⟨(body cur).toArray⟩ : ByteArray).data.toList = body cur := by simp
    have hTz : (⟨(body cur).toArray⟩ : ByteArray).size = (body cur).length := by simp [ByteArray.size]
    have hP := fun w => plain_any (⟨(body cur).toArray⟩ : ByteArray) w (by rw [hTz]; exact hbl)
    rw [hTs] at hP
    cases hp : plainL (body cur)
    · have hres : lineOf most cur = ([], 2) := by unfold lineOf; rw [if_neg hlong, hp]; rfl
      rw [hres]
      rw [hp] at hP
      have HR := Lib.hid hb
      have HP := Lib.hid hP
      have HL := Lib.hid hlong
      clear hb ho hby hby1 hby2 hlong hres hl0 hn hP hp hT hbl hTs hTz
      generalize (⟨(body cur).toArray⟩ : ByteArray) = T at hst HP ⊢
      go_enter Try.func24, Try.ntmps24
      go_wp2_with fail
      go_region
      go_wp2_with fail
      go_region
      go_wp2_with fail
      refine (HP.out _).mono ?_
      rintro e w2 ⟨rfl, hu2⟩
      have bg : Blk w2 g _ 53 := (((HR.out.alloc (.cells #[.string ⟨#[]⟩, .int .i64 0] 49)).alloc (.cells #[.string T, .int .i64 0] 49)).drew.drew).upd hu2 id
      have br : Blk w2 w.heap.size _ 49 := (((Blk.new w #[.string ⟨#[]⟩, .int .i64 0] 49).alloc (.cells #[.string T, .int .i64 0] 49)).drew.drew).upd hu2 id
      have bt : Blk w2 (w.heap.size + 1) _ 49 := ((by simpa using (Blk.new (w.alloc (.cells #[.string ⟨#[]⟩, .int .i64 0] 49)) #[.string T, .int .i64 0] 49) : Blk ((w.alloc (.cells #[.string ⟨#[]⟩, .int .i64 0] 49)).alloc (.cells #[.string T, .int .i64 0] 49)) (w.heap.size + 1) #[.string T, .int .i64 0] 49).drew.drew).upd hu2 id
      have uu : Upd w w2 (· = g) := (((((Upd.refl w Nope).alloc (.cells #[.string ⟨#[]⟩, .int .i64 0] 49)).alloc (.cells #[.string T, .int .i64 0] 49)).drew.drew).nn hu2).mono (fun _ _ h => h.elim)
      clear hu2 hst c0 c1 c2 c3 c4 f1 f2 f3 f4 fr HP
      have e1 : w.heap.size ≠ w.heap.size + 1 := by omega
      have e3 : w.heap.size ≠ g := by omega
      have e4 : w.heap.size + 1 ≠ g := by omega
      have l1 : w.heap.size ≤ w.heap.size + 1 := by omega
      have l2 : w.heap.size ≤ w.heap.size := by omega
      clear hgl hgl1 hne hcap hn2 hnm hmx hd
      have HU := Lib.hid uu
      have l1 := Lib.hid l1
      have l2 := Lib.hid l2
      clear uu
      generalize w.heap.size + 1 = H1 at bt hgn1 e1 e4 l1 ⊢
      generalize hH : w.heap.size = H at br hgn e1 e3 l1 l2 ⊢
      have hH := Lib.hid hH
      have t0 : w2.cell? ⟨H1, 0, none⟩ = some (.string T) := (bt.cell 0).trans rfl
      have t1 : w2.cell? ⟨H1, 1, none⟩ = some (.int .i64 0) := (bt.cell 1).trans rfl
      have tf0 := bt.frozen 0
      have tf1 := bt.frozen 1
      go_upto_region 7 with fail
      have bg3 := (bg.far (p := ⟨H1, 0, none⟩) hgn1 (.string ⟨#[]⟩)).far (p := ⟨H1, 1, none⟩) hgn1 (.int .i64 2)
      have br3 := (br.far (p := ⟨H1, 0, none⟩) e1 (.string ⟨#[]⟩)).far (p := ⟨H1, 1, none⟩) e1 (.int .i64 2)
      have bt3 : Blk ((w2.setCell ⟨H1, 0, none⟩ (.string ⟨#[]⟩)).setCell ⟨H1, 1, none⟩ (.int .i64 2)) H1 #[.string ⟨#[]⟩, .int .i64 2] 49 := by simpa using (bt.set 0 (.string ⟨#[]⟩)).set 1 (.int .i64 2)
      have u3 := (HU.out.set ⟨H1, 0, none⟩ (.string ⟨#[]⟩) (.inr (by rw [hH.out]; exact l1.out))).set ⟨H1, 1, none⟩ (.int .i64 2) (.inr (by rw [hH.out]; exact l1.out))
      clear t0 t1 tf0 tf1 bg br bt HU
      generalize (w2.setCell ⟨H1, 0, none⟩ (.string ⟨#[]⟩)).setCell ⟨H1, 1, none⟩ (.int .i64 2) = w3 at bg3 br3 bt3 u3 ⊢
      have HU := Lib.hid u3
      clear u3
      have c2 : w3.cell? ⟨g, 2, none⟩ = some (.slice (some ⟨q, 0, none⟩) n cap) := (bg3.cell 2).trans rfl
      have c3 : w3.cell? ⟨g, 3, none⟩ = some (.int .i64 cur.length) := (bg3.cell 3).trans rfl
      have c4 : w3.cell? ⟨g, 4, none⟩ = some (.bool (lastCr cur)) := (bg3.cell 4).trans rfl
      have f2 := bg3.frozen 2
      have f3 := bg3.frozen 3
      have f4 := bg3.frozen 4
      go_upto_region 8 with fail
      have bg4 : Blk (((w3.setCell ⟨g, 2, none⟩ (.slice none 0 0)).setCell ⟨g, 3, none⟩ (.int .i64 0)).setCell ⟨g, 4, none⟩ (.bool false)) g #[.int .i64 most, .int .i64 lines, .slice none 0 0, .int .i64 0, .bool false] 53 := by
        simpa using ((bg3.set 2 (.slice none 0 0)).set 3 (.int .i64 0)).set 4 (.bool false)
      have br4 := ((br3.far (p := ⟨g, 2, none⟩) e3 (.slice none 0 0)).far (p := ⟨g, 3, none⟩) e3 (.int .i64 0)).far (p := ⟨g, 4, none⟩) e3 (.bool false)
      have bt4 := ((bt3.far (p := ⟨g, 2, none⟩) e4 (.slice none 0 0)).far (p := ⟨g, 3, none⟩) e4 (.int .i64 0)).far (p := ⟨g, 4, none⟩) e4 (.bool false)
      have u4 := ((HU.out.set ⟨g, 2, none⟩ (.slice none 0 0) (.inl rfl)).set ⟨g, 3, none⟩ (.int .i64 0) (.inl rfl)).set ⟨g, 4, none⟩ (.bool false) (.inl rfl)
      clear c2 c3 c4 f2 f3 f4 bg3 br3 bt3 HU
      generalize ((w3.setCell ⟨g, 2, none⟩ (.slice none 0 0)).setCell ⟨g, 3, none⟩ (.int .i64 0)).setCell ⟨g, 4, none⟩ (.bool false) = w4 at bg4 br4 bt4 u4 ⊢
      have c1 : w4.cell? ⟨g, 1, none⟩ = some (.int .i64 lines) := (bg4.cell 1).trans rfl
      have f1 := bg4.frozen 1
      go_upto_region 9 with fail
      have bg5 : Blk (w4.setCell ⟨g, 1, none⟩ (.int .i64 ((lines : Int) + 1))) g #[.int .i64 most, .int .i64 ((lines : Int) + 1), .slice none 0 0, .int .i64 0, .bool false] 53 := by
        simpa using bg4.set 1 (.int .i64 ((lines : Int) + 1))
      have br5 := br4.far (p := ⟨g, 1, none⟩) e3 (.int .i64 ((lines : Int) + 1))
      have bt5 := bt4.far (p := ⟨g, 1, none⟩) e4 (.int .i64 ((lines : Int) + 1))
      have u5 := u4.set ⟨g, 1, none⟩ (.int .i64 ((lines : Int) + 1)) (.inl rfl)
      clear c1 f1 bg4 br4 bt4 u4
      generalize w4.setCell ⟨g, 1, none⟩ (.int .i64 ((lines : Int) + 1)) = w5 at bg5 br5 bt5 u5 ⊢
      have t0 : w5.cell? ⟨H1, 0, none⟩ = some (.string ⟨#[]⟩) := (bt5.cell 0).trans rfl
      have t1 : w5.cell? ⟨H1, 1, none⟩ = some (.int .i64 2) := (bt5.cell 1).trans rfl
      have r0 : w5.cell? ⟨H, 0, none⟩ = some (.string ⟨#[]⟩) := (br5.cell 0).trans rfl
      have r1 : w5.cell? ⟨H, 1, none⟩ = some (.int .i64 0) := (br5.cell 1).trans rfl
      have rf0 := br5.frozen 0
      have rf1 := br5.frozen 1
      go_wp2_with fail
      have bg6 := (bg5.far (p := ⟨H, 0, none⟩) hgn (.string ⟨#[]⟩)).far (p := ⟨H, 1, none⟩) hgn (.int .i64 2)
      have br6 : Blk ((w5.setCell ⟨H, 0, none⟩ (.string ⟨#[]⟩)).setCell ⟨H, 1, none⟩ (.int .i64 2)) H #[.string ⟨#[]⟩, .int .i64 2] 49 := by simpa using (br5.set 0 (.string ⟨#[]⟩)).set 1 (.int .i64 2)
      have u6 := (u5.set ⟨H, 0, none⟩ (.string ⟨#[]⟩) (.inr (by rw [hH.out]; exact l2.out))).set ⟨H, 1, none⟩ (.int .i64 2) (.inr (by rw [hH.out]; exact l2.out))
      clear u5 bg5 br5 bt5 t0 t1 r0 r1 rf0 rf1
      generalize (w5.setCell ⟨H, 0, none⟩ (.string ⟨#[]⟩)).setCell ⟨H, 1, none⟩ (.int .i64 2) = w6 at bg6 br6 u6 ⊢
      have d0 : w6.cell? ⟨H, 0, none⟩ = some (.string ⟨#[]⟩) := (br6.cell 0).trans rfl
      have d1 : w6.cell? ⟨H, 1, none⟩ = some (.int .i64 2) := (br6.cell 1).trans rfl
      refine bodyPost_ret (by simp [results, Try.results24, go_sem, d0, d1]; try rfl) rfl ?_
      exact ⟨rfl, ⟨by simpa [lastCr] using bg6, by simpa [Lib.byteCells] using World.ownsRow_nil _ _ _ _⟩, u6⟩
    · have hres : lineOf most cur = (body cur, 0) := by unfold lineOf; rw [if_neg hlong, hp]; rfl
      rw [hres]
      rw [hp] at hP
      have HR := Lib.hid hb
      have HP := Lib.hid hP
      have HL := Lib.hid hlong
      clear hb ho hby hby1 hby2 hlong hres hl0 hn hP hp hT hbl hTs hTz
      generalize (⟨(body cur).toArray⟩ : ByteArray) = T at hst HP ⊢
      go_enter Try.func24, Try.ntmps24
      go_wp2_with fail
      go_region
      go_wp2_with fail
      go_region
      go_wp2_with fail
      refine (HP.out _).mono ?_
      rintro e w2 ⟨rfl, hu2⟩
      have bg : Blk w2 g _ 53 := (((HR.out.alloc (.cells #[.string ⟨#[]⟩, .int .i64 0] 49)).alloc (.cells #[.string T, .int .i64 0] 49)).drew.drew).upd hu2 id
      have br : Blk w2 w.heap.size _ 49 := (((Blk.new w #[.string ⟨#[]⟩, .int .i64 0] 49).alloc (.cells #[.string T, .int .i64 0] 49)).drew.drew).upd hu2 id
      have bt : Blk w2 (w.heap.size + 1) _ 49 := ((by simpa using (Blk.new (w.alloc (.cells #[.string ⟨#[]⟩, .int .i64 0] 49)) #[.string T, .int .i64 0] 49) : Blk ((w.alloc (.cells #[.string ⟨#[]⟩, .int .i64 0] 49)).alloc (.cells #[.string T, .int .i64 0] 49)) (w.heap.size + 1) #[.string T, .int .i64 0] 49).drew.drew).upd hu2 id
      have uu : Upd w w2 (· = g) := (((((Upd.refl w Nope).alloc (.cells #[.string ⟨#[]⟩, .int .i64 0] 49)).alloc (.cells #[.string T, .int .i64 0] 49)).drew.drew).nn hu2).mono (fun _ _ h => h.elim)
      clear hu2 hst c0 c1 c2 c3 c4 f1 f2 f3 f4 fr HP
      have e1 : w.heap.size ≠ w.heap.size + 1 := by omega
      have e3 : w.heap.size ≠ g := by omega
      have e4 : w.heap.size + 1 ≠ g := by omega
      have l1 : w.heap.size ≤ w.heap.size + 1 := by omega
      have l2 : w.heap.size ≤ w.heap.size := by omega
      clear hgl hgl1 hne hcap hn2 hnm hmx hd
      have HU := Lib.hid uu
      have l1 := Lib.hid l1
      have l2 := Lib.hid l2
      clear uu
      generalize w.heap.size + 1 = H1 at bt hgn1 e1 e4 l1 ⊢
      generalize hH : w.heap.size = H at br hgn e1 e3 l1 l2 ⊢
      have hH := Lib.hid hH
      go_upto_region 7 with fail
      have bg3 := bg
      have br3 := br
      have bt3 := bt
      clear bg br bt
      generalize w2 = w3 at bg3 br3 bt3 HU ⊢
      have c2 : w3.cell? ⟨g, 2, none⟩ = some (.slice (some ⟨q, 0, none⟩) n cap) := (bg3.cell 2).trans rfl
      have c3 : w3.cell? ⟨g, 3, none⟩ = some (.int .i64 cur.length) := (bg3.cell 3).trans rfl
      have c4 : w3.cell? ⟨g, 4, none⟩ = some (.bool (lastCr cur)) := (bg3.cell 4).trans rfl
      have f2 := bg3.frozen 2
      have f3 := bg3.frozen 3
      have f4 := bg3.frozen 4
      go_upto_region 8 with fail
      have bg4 : Blk (((w3.setCell ⟨g, 2, none⟩ (.slice none 0 0)).setCell ⟨g, 3, none⟩ (.int .i64 0)).setCell ⟨g, 4, none⟩ (.bool false)) g #[.int .i64 most, .int .i64 lines, .slice none 0 0, .int .i64 0, .bool false] 53 := by
        simpa using ((bg3.set 2 (.slice none 0 0)).set 3 (.int .i64 0)).set 4 (.bool false)
      have br4 := ((br3.far (p := ⟨g, 2, none⟩) e3 (.slice none 0 0)).far (p := ⟨g, 3, none⟩) e3 (.int .i64 0)).far (p := ⟨g, 4, none⟩) e3 (.bool false)
      have bt4 := ((bt3.far (p := ⟨g, 2, none⟩) e4 (.slice none 0 0)).far (p := ⟨g, 3, none⟩) e4 (.int .i64 0)).far (p := ⟨g, 4, none⟩) e4 (.bool false)
      have u4 := ((HU.out.set ⟨g, 2, none⟩ (.slice none 0 0) (.inl rfl)).set ⟨g, 3, none⟩ (.int .i64 0) (.inl rfl)).set ⟨g, 4, none⟩ (.bool false) (.inl rfl)
      clear c2 c3 c4 f2 f3 f4 bg3 br3 bt3 HU
      generalize ((w3.setCell ⟨g, 2, none⟩ (.slice none 0 0)).setCell ⟨g, 3, none⟩ (.int .i64 0)).setCell ⟨g, 4, none⟩ (.bool false) = w4 at bg4 br4 bt4 u4 ⊢
      have c1 : w4.cell? ⟨g, 1, none⟩ = some (.int .i64 lines) := (bg4.cell 1).trans rfl
      have f1 := bg4.frozen 1
      go_upto_region 9 with fail
      have bg5 : Blk (w4.setCell ⟨g, 1, none⟩ (.int .i64 ((lines : Int) + 1))) g #[.int .i64 most, .int .i64 ((lines : Int) + 1), .slice none 0 0, .int .i64 0, .bool false] 53 := by
        simpa using bg4.set 1 (.int .i64 ((lines : Int) + 1))
      have br5 := br4.far (p := ⟨g, 1, none⟩) e3 (.int .i64 ((lines : Int) + 1))
      have bt5 := bt4.far (p := ⟨g, 1, none⟩) e4 (.int .i64 ((lines : Int) + 1))
      have u5 := u4.set ⟨g, 1, none⟩ (.int .i64 ((lines : Int) + 1)) (.inl rfl)
      clear c1 f1 bg4 br4 bt4 u4
      generalize w4.setCell ⟨g, 1, none⟩ (.int .i64 ((lines : Int) + 1)) = w5 at bg5 br5 bt5 u5 ⊢
      have t0 : w5.cell? ⟨H1, 0, none⟩ = some (.string T) := (bt5.cell 0).trans rfl
      have t1 : w5.cell? ⟨H1, 1, none⟩ = some (.int .i64 0) := (bt5.cell 1).trans rfl
      have r0 : w5.cell? ⟨H, 0, none⟩ = some (.string ⟨#[]⟩) := (br5.cell 0).trans rfl
      have r1 : w5.cell? ⟨H, 1, none⟩ = some (.int .i64 0) := (br5.cell 1).trans rfl
      have rf0 := br5.frozen 0
      have rf1 := br5.frozen 1
      go_wp2_with fail
      have bg6 := (bg5.far (p := ⟨H, 0, none⟩) hgn (.string T)).far (p := ⟨H, 1, none⟩) hgn (.int .i64 0)
      have br6 : Blk ((w5.setCell ⟨H, 0, none⟩ (.string T)).setCell ⟨H, 1, none⟩ (.int .i64 0)) H #[.string T, .int .i64 0] 49 := by simpa using (br5.set 0 (.string T)).set 1 (.int .i64 0)
      have u6 := (u5.set ⟨H, 0, none⟩ (.string T) (.inr (by rw [hH.out]; exact l2.out))).set ⟨H, 1, none⟩ (.int .i64 0) (.inr (by rw [hH.out]; exact l2.out))
      clear u5 bg5 br5 bt5 t0 t1 r0 r1 rf0 rf1
      generalize (w5.setCell ⟨H, 0, none⟩ (.string T)).setCell ⟨H, 1, none⟩ (.int .i64 0) = w6 at bg6 br6 u6 ⊢
      have d0 : w6.cell? ⟨H, 0, none⟩ = some (.string T) := (br6.cell 0).trans rfl
      have d1 : w6.cell? ⟨H, 1, none⟩ = some (.int .i64 0) := (br6.cell 1).trans rfl
      refine bodyPost_ret (by simp [results, Try.results24, go_sem, d0, d1]; try rfl) rfl ?_
      exact ⟨rfl, ⟨by simpa [lastCr] using bg6, by simpa [Lib.byteCells] using World.ownsRow_nil _ _ _ _⟩, u6⟩
end Go.Proofs.Ytomfblnflobonaa
