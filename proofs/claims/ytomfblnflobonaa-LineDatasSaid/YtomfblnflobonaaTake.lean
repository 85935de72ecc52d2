/- Feed's closure: one byte comes. -/
import Derived.Test.YtomfblnflobonaaCut
import Derived.Test.YtomfblnflobonaaBld
import Derived.Deep.RegionLaw
import Derived.Deep.RegionWith
import Derived.Deep.Cut
import Derived.Deep.CutRange
set_option linter.unusedVariables false
set_option linter.unusedSimpArgs false
namespace Go.Proofs.Ytomfblnflobonaa
open Go.RowKit

def lcells (xs : List (List UInt8 × Nat)) : List Value := xs.flatMap fun x => [.string ⟨x.1.toArray⟩, .int .i64 (x.2 : Int)]
theorem lcells_snoc (xs : List (List UInt8 × Nat)) (x : List UInt8 × Nat) : lcells (xs ++ [x]) = lcells xs ++ [.string ⟨x.1.toArray⟩, .int .i64 (x.2 : Int)] := by simp [lcells]
theorem infoL : (Try.prog.info? 49).map (fun i => (i.zero, i.size, i.bytes)) = some (some (.agg #[.string ByteArray.empty, .int .i64 0]), 2, 24) := by kernel_rfl
theorem byteCells_snoc (l : List UInt8) (b : UInt8) : Lib.byteCells (l ++ [b]) = Lib.byteCells l ++ [.int .u8 (b.toNat : Int)] := by simp [Lib.byteCells]

/-- What the first half of the closure leaves: the byte is held, or not. -/
structure Half (w : World) (B b1 g most lines : Nat) (cur : List UInt8) (b : UInt8) (v v' : Value) (w' : World) : Prop where
  blk : Blk w' g #[.int .i64 most, .int .i64 lines, v', .int .i64 ((cur.length : Int) + 1), .bool (lastCr cur)] 53
  own : w'.ownsRow B 5 1 v' ((cur ++ [b]).take most).length (Lib.byteCells ((cur ++ [b]).take most))
  upd : Upd w w' (fun k => k = g ∨ v.ownBlock = some k)
  loc : ∀ k, v'.ownBlock = some k → v.ownBlock = some k ∨ w.heap.size ≤ k

/-- A call of a Go function, by its contract, as one step of a region that draws. -/
theorem step_call {P : Program} {ops : Array Oper} {o : Oper} {a : Act} {w : World} {K : Act → World → Prop} {Q : Exit → Act → World → Prop} {E : Prop} (hgd : o.guard = none) {f : FuncId} {argv : Array Value}
    (hrun : (execOp a.eval o).run P w = .ok (.enter f argv) w) {R : Ending → World → Prop} (hc : Calls P f argv w R) (h : ∀ e w', R e w' → ∃ u, e = .returned u ∧ K (a.put o.dst u) w') :
    if Region.wanted o (yielded ops a.tmps) = true then Oper.wp P o a w K Q else E := by
  have hw : Region.wanted o (yielded ops a.tmps) = true := by simp [Region.wanted, hgd]
  rw [if_pos hw]
  unfold Oper.wp
  rw [hrun]
  refine Calls.mono hc fun e w' hr => ?_
  obtain ⟨u, rfl, hk⟩ := h e w' hr
  exact hk
theorem u8_eq' (x : UInt8) (k : Nat) (hk : k < 256) (c : UInt8) (hc : c = UInt8.ofNat k) : (((x.toNat : Int)) == (k : Int)) = (x == c) := by subst hc; exact u8_eq x k hk
theorem lastCr_snoc (cur : List UInt8) (b : UInt8) : lastCr (cur ++ [b]) = (b == 13) := by simp [lastCr]

theorem own_own_ne {w : World} {B B' e e' n n' size size' : Nat} {v v' : Value} {xs xs' : List Value} (h : w.ownsRow B e size v n xs) (h' : w.ownsRow B' e' size' v' n' xs') (hne : e ≠ e') : ∀ k, v.ownBlock = some k → v'.ownBlock ≠ some k := by
  intro k hk hk'
  rcases h.2 with ⟨rfl, _⟩ | ⟨q, cap, cur, rfl, _, hq, _⟩
  · simp [Value.ownBlock] at hk
  · simp [Value.ownBlock] at hk
    subst hk
    rcases h'.2 with ⟨rfl, _⟩ | ⟨q', cap', cur', rfl, _, hq', _⟩
    · simp [Value.ownBlock] at hk'
    · simp [Value.ownBlock] at hk'
      subst hk'
      rw [hq] at hq'
      injection hq' with hq'
      injection hq' with _ h2 _
      exact hne h2
/-- What the closure leaves. -/
structure Took (w : World) (B b2 g most lines : Nat) (cur : List UInt8) (b : UInt8) (v vo : Value) (outs : List (List UInt8 × Nat)) (v' vo' : Value) (w' : World) : Prop where
  ctr : Ctr w' B g most (lines + (cuts cur [b]).1.length) (cuts cur [b]).2 v'
  out : Blk w' b2 #[vo'] 29
  own : w'.ownsRow B 49 2 vo' (outs ++ (cuts cur [b]).1.map (lineOf most)).length (lcells (outs ++ (cuts cur [b]).1.map (lineOf most)))
  upd : Upd w w' (fun k => k = g ∨ k = b2 ∨ v.ownBlock = some k ∨ vo.ownBlock = some k)
  loc : ∀ k, v'.ownBlock = some k → v.ownBlock = some k ∨ w.heap.size ≤ k
  loco : ∀ k, vo'.ownBlock = some k → vo.ownBlock = some k ∨ w.heap.size ≤ k

set_option maxHeartbeats 4000000 in
theorem take_any {w : World} {B b1 b2 g most lines : Nat} {cur : List UInt8} {v vo : Value} (b : UInt8) (hb1 : Blk w b1 #[.pointer (some ⟨g, 0, none⟩)] 25) (h : Ctr w B g most lines cur v) (hB : B ≤ w.heap.size) (hm2 : 2 ≤ most) (hmm : most ≤ 65536) (hc : cur.length < 1000000) (hln : lines < 1000000)
    {outs : List (List UInt8 × Nat)} (hb2 : Blk w b2 #[vo] 29) (hoo : w.ownsRow B 49 2 vo outs.length (lcells outs)) (hol : outs.length < 1000000) :
    Calls Try.prog 23 #[.int .u8 (b.toNat : Int), .pointer (some ⟨b1, 0, none⟩), .pointer (some ⟨b2, 0, none⟩)] w fun e w' => e = .returned (.tuple #[]) ∧ ∃ v' vo', Took w B b2 g most lines cur b v vo outs v' vo' w' := by
  obtain ⟨i0, hi, hz0, hz1, hz2⟩ := info_parts infoB
  have hbl := b.toNat_lt
  have c1 : w.cell? ⟨b1, 0, none⟩ = some (.pointer (some ⟨g, 0, none⟩)) := (hb1.cell 0).trans rfl
  have hb := h.blk
  have ho := h.own
  have g0 : w.cell? ⟨g, 0, none⟩ = some (.int .i64 most) := (hb.cell 0).trans rfl
  have g3 : w.cell? ⟨g, 3, none⟩ = some (.int .i64 cur.length) := (hb.cell 3).trans rfl
  have f3 := hb.frozen 3
  have hgb : b1 ≠ g := fun e => by subst e; exact hb1.ne hb (by decide) rfl
  go_enter Try.func23, Try.ntmps23
  go_upto_region 1 with fail
  have bg1 : Blk (w.setCell ⟨g, 3, none⟩ (.int .i64 ((cur.length : Int) + 1))) g #[.int .i64 most, .int .i64 lines, v, .int .i64 ((cur.length : Int) + 1), .bool (lastCr cur)] 53 := by simpa using hb.set 3 (.int .i64 ((cur.length : Int) + 1))
  have u1 := (Upd.refl w (· = g)).set ⟨g, 3, none⟩ (.int .i64 ((cur.length : Int) + 1)) (.inl rfl)
  have bb1 := hb1.far (p := ⟨g, 3, none⟩) hgb (.int .i64 ((cur.length : Int) + 1))
  generalize w.setCell ⟨g, 3, none⟩ (.int .i64 ((cur.length : Int) + 1)) = wa at bg1 u1 bb1 ⊢
  have ho1 := own_upd ho u1 (fun i hi => own_ne ho hb (by decide) i hi)
  clear c1 g0 g3 f3
  have c1 : wa.cell? ⟨b1, 0, none⟩ = some (.pointer (some ⟨g, 0, none⟩)) := (bb1.cell 0).trans rfl
  have g0 : wa.cell? ⟨g, 0, none⟩ = some (.int .i64 most) := (bg1.cell 0).trans rfl
  have g2 : wa.cell? ⟨g, 2, none⟩ = some v := (bg1.cell 2).trans rfl
  have g3 : wa.cell? ⟨g, 3, none⟩ = some (.int .i64 ((cur.length : Int) + 1)) := (bg1.cell 3).trans rfl
  have BG := Lib.hid bg1
  have BB := Lib.hid bb1
  have HO := Lib.hid ho1
  have HU := Lib.hid u1
  have hno : ∀ k, v.ownBlock = some k → k < w.heap.size := fun k hk => (ho.lt k hk).2
  have H1 : Blk w b1 _ 25 ∧ w.ownsRow B 5 1 v _ _ ∧ Blk w b2 _ 29 ∧ Blk w g _ 53 ∧ w.ownsRow B 49 2 vo _ _ := ⟨hb1, ho, hb2, hb, hoo⟩
  have H1 := Lib.hid H1
  clear bg1 bb1 ho1 u1 hb ho h hb1 hb2 hoo
  go_wp2_with fail
  go_region
  go_upto_if 20 with fail
  have hwa := HU.out.size
  have hlg := BG.out.lt
  have hlb := BB.out.lt
  go_cut [20] from 21 to 31 (fun s20 wx => ∃ v', Half w B b1 g most lines cur b v v' wx)
  case first =>
    by_cases hfit : cur.length + 1 ≤ most
    · have hd : decide ((cur.length : Int) + 1 ≤ (most : Int)) = true := by simp; omega
      have ht : cur.take most = cur := List.take_of_length_le (by omega)
      have ht2 : (cur ++ [b]).take most = cur ++ [b] := List.take_of_length_le (by simp; omega)
      rw [ht] at HO
      go_wp2_with fail
      have hrow := World.news_of_block (heap_alloc_new wa.drew.drew (.cells #[.int .u8 (b.toNat : Int)] 5))
      go_region_law (refine step_append_lies _ rfl (.tmp 25) (.tmp 27) 51 rfl B 5 i0 (.int .u8 0) 1 1 Try.underlying51 hi hz0 hz1 hz2 rfl (by omega) v cur.length (Lib.byteCells cur) rfl ((HO.out.drew.drew).alloc _) ⟨wa.heap.size, 0, none⟩ 1 1 [.int .u8 (b.toNat : Int)] rfl rfl hrow (by simp [Value.oneCell']) (by omega) (by unfold maxLen; omega) (by omega) (by simp; omega) _ rfl ?_; intro q cap w1 hown' hgrow hat hlt; have hg1 : Blk w1 g _ 53 := (hgrow.block g (by have := BG.out.lt; simp; omega) (fun e => own_ne HO.out BG.out (by decide) _ e.symm rfl)).trans ((BG.out.drew.drew).alloc _); have hb1 : Blk w1 b1 _ 25 := (hgrow.block b1 (by have := BB.out.lt; simp; omega) (fun e => own_ne HO.out BB.out (by decide) _ e.symm rfl)).trans ((BB.out.drew.drew).alloc _); have cw1 : w1.cell? ⟨b1, 0, none⟩ = some (.pointer (some ⟨g, 0, none⟩)) := (hb1.cell 0).trans rfl; have cw2 : w1.cell? ⟨g, 2, none⟩ = some v := (hg1.cell 2).trans rfl; have fw2 := hg1.frozen 2)
      all_goals
        have hne' : (Value.slice (some ⟨q, 0, none⟩) (cur.length + 1) cap).ownBlock ≠ some g := fun e => own_ne hown' hg1 (by decide) _ e rfl
        have hG : Half w B b1 g most lines cur b v (.slice (some ⟨q, 0, none⟩) (cur.length + 1) cap) (w1.setCell ⟨g, 2, none⟩ (.slice (some ⟨q, 0, none⟩) (cur.length + 1) cap)) := by
          refine ⟨by simpa using hg1.set 2 (.slice (some ⟨q, 0, none⟩) (cur.length + 1) cap), ?_, ?_, ?_⟩
          · have hk := hown'.kept (w' := w1.setCell ⟨g, 2, none⟩ (.slice (some ⟨q, 0, none⟩) (cur.length + 1) cap)) (row := some g) ⟨rfl, rfl, rfl, by simp [World.setCell], fun k hk hn => Below.heap_setCell _ _ _ _ (fun e => hn (by rw [e]))⟩ (.inr hne')
            rw [ht2, byteCells_snoc, List.length_append]
            exact hk
          · exact (((((HU.out.mono (fun _ _ h => Or.inl h)).drew.drew).alloc _).grown hgrow (fun k e => .inl (.inr e))).set _ _ (.inl (.inl rfl)))
          · intro k hk
            simp [Value.ownBlock] at hk
            subst hk
            rcases hat with e | e
            · exact .inl e
            · right; simp at e; omega
        clear hown' hgrow hat hne' cw1 cw2 fw2 hg1 hb1
        generalize w1.setCell ⟨g, 2, none⟩ (.slice (some ⟨q, 0, none⟩) (cur.length + 1) cap) = w3 at hG ⊢
        go_wp2_with fail
        go_meet
        exact ⟨_, hG⟩
    · have hd : decide ((cur.length : Int) + 1 ≤ (most : Int)) = false := by simp; omega
      have ht2 : (cur ++ [b]).take most = cur.take most := List.take_append_of_le_length (by omega)
      have hG : Half w B b1 g most lines cur b v v wa.drew := ⟨BG.out.drew, by rw [ht2]; exact HO.out.drew, (HU.out.mono (fun _ _ h => Or.inl h)).drew, fun k hk => .inl hk⟩
      generalize wa.drew = w3 at hG ⊢
      go_wp2_with fail
      go_meet
      exact ⟨_, hG⟩
  case rest =>
    obtain ⟨v', hG⟩ := hcut
    have H1 := H1.out
    have hF1 : ¬ (b1 = g ∨ v.ownBlock = some b1) := fun e => by rcases e with e | e; exact hgb e; exact own_ne H1.2.1 H1.1 (by decide) _ e rfl
    have hF2 : ¬ (b2 = g ∨ v.ownBlock = some b2) := fun e => by rcases e with e | e; exact (H1.2.2.1.ne H1.2.2.2.1 (by decide)) e; exact own_ne H1.2.1 H1.2.2.1 (by decide) _ e rfl
    have bb := H1.1.upd hG.upd hF1
    have bo := H1.2.2.1.upd hG.upd hF2
    have hoo := own_upd H1.2.2.2.2 hG.upd (fun i hi e => by
      rcases e with e | e
      · exact own_ne H1.2.2.2.2 H1.2.2.2.1 (by decide) i hi e
      · exact own_own_ne H1.2.1 H1.2.2.2.2 (by decide) i e hi)
    have hg2 : b2 ≠ g := H1.2.2.1.ne H1.2.2.2.1 (by decide)
    have hon : ∀ k, vo.ownBlock = some k → k < w.heap.size := fun k hk => (H1.2.2.2.2.lt k hk).2
    clear H1 hF1 hF2 BG BB HO HU
    have c1 : wc.cell? ⟨b1, 0, none⟩ = some (.pointer (some ⟨g, 0, none⟩)) := (bb.cell 0).trans rfl
    have g4 : wc.cell? ⟨g, 4, none⟩ = some (.bool (lastCr cur)) := (hG.blk.cell 4).trans rfl
    have f4 := hG.blk.frozen 4
    have q10 : (((b.toNat : Int)) == 10) = (b == 10) := u8_eq' b 10 (by decide) 10 rfl
    have q13 : (((b.toNat : Int)) == 13) = (b == 13) := u8_eq' b 13 (by decide) 13 rfl
    have hie : isEnd cur b = (lastCr cur && (b == 10)) := rfl
    cases hcr : lastCr cur
    · rw [hcr] at g4 hie
      have hce : cuts cur [b] = ([], cur ++ [b]) := cuts_one_no (by rw [hie]; rfl)
      clear q10 hie hcr
      go_upto_region 5 with fail
      have hC : Ctr (wc.setCell ⟨g, 4, none⟩ (.bool (b == 13))) B g most lines (cur ++ [b]) v' :=
        ⟨by rw [lastCr_snoc]; simpa using hG.blk.set 4 (.bool (b == 13)), own_upd hG.own ((Upd.refl wc (· = g)).set _ _ (.inl rfl)) (fun i hi => own_ne hG.own hG.blk (by decide) i hi)⟩
      have u5 := hG.upd.set ⟨g, 4, none⟩ (.bool (b == 13)) (.inl (.inl rfl))
      have bo5 := bo.far (p := ⟨g, 4, none⟩) hg2 (.bool (b == 13))
      have bb5 := bb.far (p := ⟨g, 4, none⟩) hgb (.bool (b == 13))
      have oo5 := own_upd hoo ((Upd.refl wc (· = g)).set ⟨g, 4, none⟩ (.bool (b == 13)) (.inl rfl)) (fun i hi => own_ne hoo hG.blk (by decide) i hi)
      have hloc := hG.loc
      clear hoo bo bb hG c1 g4 f4
      generalize wc.setCell ⟨g, 4, none⟩ (.bool (b == 13)) = w5 at hC u5 bo5 bb5 oo5 ⊢
      go_wp2_with fail
      go_end0
      refine ⟨rfl, v', vo, by rw [hce]; simpa using hC, bo5, by rw [hce]; simpa using oo5, u5.mono ?_, hloc, fun k hk => Or.inl hk⟩
      intro k _ hk
      rcases hk with hk | hk
      · exact Or.inl hk
      · exact Or.inr (Or.inr (Or.inl hk))
    · rw [hcr] at g4 hie
      cases h10 : b == 10
      · rw [h10] at q10 hie
        have hce : cuts cur [b] = ([], cur ++ [b]) := cuts_one_no (by rw [hie]; rfl)
        clear hie hcr h10
        go_upto_region 5 with fail
        have hC : Ctr (wc.setCell ⟨g, 4, none⟩ (.bool (b == 13))) B g most lines (cur ++ [b]) v' :=
          ⟨by rw [lastCr_snoc]; simpa using hG.blk.set 4 (.bool (b == 13)), own_upd hG.own ((Upd.refl wc (· = g)).set _ _ (.inl rfl)) (fun i hi => own_ne hG.own hG.blk (by decide) i hi)⟩
        have u5 := hG.upd.set ⟨g, 4, none⟩ (.bool (b == 13)) (.inl (.inl rfl))
        have bo5 := bo.far (p := ⟨g, 4, none⟩) hg2 (.bool (b == 13))
        have bb5 := bb.far (p := ⟨g, 4, none⟩) hgb (.bool (b == 13))
        have oo5 := own_upd hoo ((Upd.refl wc (· = g)).set ⟨g, 4, none⟩ (.bool (b == 13)) (.inl rfl)) (fun i hi => own_ne hoo hG.blk (by decide) i hi)
        have hloc := hG.loc
        clear hoo bo bb hG c1 g4 f4
        generalize wc.setCell ⟨g, 4, none⟩ (.bool (b == 13)) = w5 at hC u5 bo5 bb5 oo5 ⊢
        go_wp2_with fail
        go_end0
        refine ⟨rfl, v', vo, by rw [hce]; simpa using hC, bo5, by rw [hce]; simpa using oo5, u5.mono ?_, hloc, fun k hk => Or.inl hk⟩
        intro k _ hk
        rcases hk with hk | hk
        · exact Or.inl hk
        · exact Or.inr (Or.inr (Or.inl hk))
      · rw [h10] at q10 hie
        have hce : cuts cur [b] = ([cur ++ [b]], []) := cuts_one_yes (by rw [hie]; rfl)
        have hcr' := hcr
        clear hie hcr h10
        go_upto_region 5 with fail
        have hC : Ctr (wc.setCell ⟨g, 4, none⟩ (.bool (b == 13))) B g most lines (cur ++ [b]) v' :=
          ⟨by rw [lastCr_snoc]; simpa using hG.blk.set 4 (.bool (b == 13)), own_upd hG.own ((Upd.refl wc (· = g)).set _ _ (.inl rfl)) (fun i hi => own_ne hG.own hG.blk (by decide) i hi)⟩
        have u5 := hG.upd.set ⟨g, 4, none⟩ (.bool (b == 13)) (.inl (.inl rfl))
        have bo5 := bo.far (p := ⟨g, 4, none⟩) hg2 (.bool (b == 13))
        have bb5 := bb.far (p := ⟨g, 4, none⟩) hgb (.bool (b == 13))
        have oo5 := own_upd hoo ((Upd.refl wc (· = g)).set ⟨g, 4, none⟩ (.bool (b == 13)) (.inl rfl)) (fun i hi => own_ne hoo hG.blk (by decide) i hi)
        have hloc := hG.loc
        clear hoo bo bb hG c1 g4 f4
        generalize wc.setCell ⟨g, 4, none⟩ (.bool (b == 13)) = w5 at hC u5 bo5 bb5 oo5 ⊢
        obtain ⟨i1, hi1, hy0, hy1, hy2⟩ := info_parts infoL
        have hcl : 2 ≤ (cur ++ [b]).length := by
          simp only [lastCr, beq_iff_eq] at hcr'
          obtain ⟨t, ht⟩ := List.getLast?_eq_some_iff.1 hcr'
          rw [ht]
          simp
        have hL := line_any (w := w5.drew) ⟨hC.blk.drew, hC.own.drew⟩ hm2 hmm hcl (by simp; omega) (by omega)
        have hw5 := u5.size
        have hlb5 := bb5.lt
        have hlo5 := bo5.lt
        have cb : w5.cell? ⟨b1, 0, none⟩ = some (.pointer (some ⟨g, 0, none⟩)) := (bb5.cell 0).trans rfl
        have co : w5.cell? ⟨b2, 0, none⟩ = some vo := (bo5.cell 0).trans rfl
        have e24 : ∀ args w, (callFunc 24 args).run Try.prog w = .ok (.enter 24 args) w := enters_of Try.func24 (by kernel_rfl) rfl
        generalize hx : lineOf most (cur ++ [b]) = x at hL
        have HC := Lib.hid hC
        have HL := Lib.hid hL
        clear hL hC
        go_wp2_with fail
        go_region_law (first
          | (refine step_call rfl (f := 24) (argv := #[.pointer (some ⟨g, 0, none⟩)]) (by simp [execOp, resolve, invoke, Act.eval, e24, go_sem]) HL.out ?_; rintro e w6 ⟨rfl, hc6, hu6⟩; refine ⟨_, rfl, ?_⟩; have bo6 : Blk w6 b2 #[vo] 29 := (bo5.drew).upd hu6 hg2; have co6 : w6.cell? ⟨b2, 0, none⟩ = some vo := (bo6.cell 0).trans rfl; have fo6 := bo6.frozen 0; have hlo6 := bo6.lt; have oo6 : w6.ownsRow B 49 2 vo outs.length (lcells outs) := own_upd (oo5.drew) hu6 (fun i hi => own_ne oo5 HC.out.blk (by decide) i hi); have hw6 := hu6.size; have hrow6 := World.news_of_block (heap_alloc_new w6 (.cells #[.string ⟨x.1.toArray⟩, .int .i64 (x.2 : Int)] 49)))
          | (refine step_append_lies _ rfl (.tmp 45) (.tmp 48) 29 rfl B 49 i1 (.agg #[.string ByteArray.empty, .int .i64 0]) 2 24 Try.underlying29 hi1 hy0 hy1 hy2 rfl (by omega) vo outs.length (lcells outs) rfl (oo6.alloc _) ⟨w6.heap.size, 0, none⟩ 1 1 [.string ⟨x.1.toArray⟩, .int .i64 (x.2 : Int)] rfl rfl hrow6 (by simp [Value.oneCell']) (by omega) (by unfold maxLen; omega) (by omega) (by simp at hw6 ⊢; omega) _ rfl ?_; intro q cap w7 hown' hgrow hat hlt; have hb7 : Blk w7 b2 #[vo] 29 := (hgrow.block b2 (by simp; omega) (fun e => own_ne oo6 bo6 (by decide) _ e.symm rfl)).trans (bo6.alloc _); have cw7 : w7.cell? ⟨b2, 0, none⟩ = some vo := (hb7.cell 0).trans rfl; have fw7 := hb7.frozen 0))
        all_goals
          have u6 : Upd w w6 (fun k => k = g ∨ v.ownBlock = some k) := (u5.drew).then_ (hu6.mono (fun _ _ h => Or.inl h))
          have hne7 : ∀ k, (Value.slice (some ⟨q, 0, none⟩) (outs.length + 1) cap).ownBlock = some k → k ≠ b2 := own_ne hown' hb7 (by decide)
          have hgrow7 : Upd w6 w7 (fun k => vo.ownBlock = some k) := (((Upd.refl w6 _).alloc _).grown hgrow (fun k e => .inl e))
          have hc7 : Ctr w7 B g most (lines + 1) [] (.slice none 0 0) := hc6.upd hgrow7 (fun e => own_ne oo6 hc6.blk (by decide) _ e rfl) (fun i hi => by simp [Value.ownBlock] at hi)
          have u7 : Upd w w7 (fun k => k = g ∨ k = b2 ∨ v.ownBlock = some k ∨ vo.ownBlock = some k) := (u6.mono (fun k _ h => by rcases h with h | h; exact Or.inl h; exact Or.inr (Or.inr (Or.inl h)))).then_ (hgrow7.mono (fun _ _ h => Or.inr (Or.inr (Or.inr h))))
          have hat' : vo.ownBlock = some q ∨ w.heap.size ≤ q := by
            rcases hat with e | e
            · exact .inl e
            · right; have := u6.size; simp at e; omega
          have hc8 := hc7.upd ((Upd.refl w7 (· = b2)).set ⟨b2, 0, none⟩ (.slice (some ⟨q, 0, none⟩) (outs.length + 1) cap) (.inl rfl)) (fun e => hg2 e.symm) (fun i hi => by simp [Value.ownBlock] at hi)
          have hb8 : Blk (w7.setCell ⟨b2, 0, none⟩ (.slice (some ⟨q, 0, none⟩) (outs.length + 1) cap)) b2 #[.slice (some ⟨q, 0, none⟩) (outs.length + 1) cap] 29 := by simpa using hb7.set 0 (.slice (some ⟨q, 0, none⟩) (outs.length + 1) cap)
          have ho8 := own_upd hown' ((Upd.refl w7 (· = b2)).set ⟨b2, 0, none⟩ (.slice (some ⟨q, 0, none⟩) (outs.length + 1) cap) (.inl rfl)) (fun i hi => hne7 i hi)
          have u8 := u7.set ⟨b2, 0, none⟩ (.slice (some ⟨q, 0, none⟩) (outs.length + 1) cap) (.inl (.inr (.inl rfl)))
          clear hown' hgrow hat hlt hb7 cw7 fw7 hc7 u7 hgrow7 hne7 u6 hu6 hc6 bo6 co6 fo6 hlo6 oo6 hw6 hrow6 u5 bo5 bb5 oo5 cb co
          generalize w7.setCell ⟨b2, 0, none⟩ (.slice (some ⟨q, 0, none⟩) (outs.length + 1) cap) = w8 at hc8 hb8 ho8 u8 ⊢
          go_wp2_with fail
          go_end0
          refine ⟨rfl, .slice none 0 0, .slice (some ⟨q, 0, none⟩) (outs.length + 1) cap, by rw [hce]; exact hc8, hb8, ?_, u8, fun k hk => by simp [Value.ownBlock] at hk, fun k hk => ?_⟩
          · rw [hce]
            simp only [List.map_cons, List.map_nil, List.length_append, List.length_cons, List.length_nil]
            rw [lcells_snoc, hx]
            exact ho8
          · simp [Value.ownBlock] at hk
            subst hk
            exact hat'
end Go.Proofs.Ytomfblnflobonaa
