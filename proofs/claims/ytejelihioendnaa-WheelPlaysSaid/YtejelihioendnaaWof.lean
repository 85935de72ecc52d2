/- A wheel's 'of': the map at a place. -/
import Derived.Test.YtejelihioendnaaWho
import Derived.WalkSpells
set_option linter.unusedVariables false
set_option linter.unusedSimpArgs false
set_option linter.unusedSectionVars false
namespace Go.Proofs.Ytejelihioendnaa
open Go.RowKit

/-- The map at a slot. -/
def at_ (bs : Nat → Option Nat) (bf : Nat) (i : Nat) : Option Nat := if i = 256 then some bf else bs i
section
variable {w : World} {g : Nat} {bs : Nat → Option Nat} {bf bp : Nat} {s : Wh} (h : WH w g bs bf bp s)
include h
theorem WH.mp {i b : Nat} (hi : i ≤ 256) (hb : at_ bs bf i = some b) : Mp MI w b (s.sl i) := by
  unfold at_ at hb
  split at hb
  · rename_i e
    subst e
    injection hb with e
    subst e
    exact h.far
  · exact h.slot i b (by omega) hb
set_option maxRecDepth 100000 in
theorem of_far : Calls Try.prog 23 #[.pointer (some ⟨g, 0, none⟩), .agg #[.int .i64 4, .int .i64 0]] w fun e w' => e = .returned (.map (some bf)) ∧ Upd w w' Nope := by
  have c := (h.nn ((Upd.refl w Nope).alloc (.cells #[.int .i64 4, .int .i64 0] 67))).cf
  clear h
  go_enter Try.func23, Try.ntmps23
  go_wp2
  go_returns
  exact ⟨rfl, (Upd.refl _ _).alloc _⟩
set_option maxRecDepth 100000 in
theorem of_near (lv at' : Nat) (hl : lv < 4) (ha : at' < 64) : Calls Try.prog 23 #[.pointer (some ⟨g, 0, none⟩), .agg #[.int .i64 (lv : Int), .int .i64 (at' : Int)]] w fun e w' =>
    ∃ b bs', e = .returned (.map (some b)) ∧ WH w' g bs' bf bp s ∧ bs' (lv * 64 + at') = some b ∧ Upd w w' (· = g) ∧ (∀ k c, bs' k = some c → bs k = some c ∨ w.heap.size ≤ c) ∧ ∀ k c, bs k = some c → bs' k = some c := by
  have u1 : Upd w (w.alloc (.cells #[.int .i64 (lv : Int), .int .i64 (at' : Int)] 67)) Nope := (Upd.refl w Nope).alloc _
  have h1 := h.nn u1
  have hsz : (w.alloc (.cells #[.int .i64 (lv : Int), .int .i64 (at' : Int)] 67)).heap.size = w.heap.size + 1 := by simp
  have hb := Blk.new w #[.int .i64 (lv : Int), .int .i64 (at' : Int)] 67
  have hi : lv * 64 + at' < 256 := by omega
  have hne4 : ((lv : Int) == 4) = false := by simp; omega
  have hlg := h.blk.lt
  go_enter Try.func23, Try.ntmps23
  go_wp2_with fail
  have x0 : (w.alloc (.cells #[.int .i64 (lv : Int), .int .i64 (at' : Int)] 67)).cell? ⟨w.heap.size, 0, none⟩ = some (.int .i64 lv) := (hb.cell 0).trans rfl
  have x1 : (w.alloc (.cells #[.int .i64 (lv : Int), .int .i64 (at' : Int)] 67)).cell? ⟨w.heap.size, 1, none⟩ = some (.int .i64 at') := (hb.cell 1).trans rfl
  have ng : w.heap.size ≠ g := by omega
  clear hb
  generalize w.alloc (.cells #[.int .i64 (lv : Int), .int .i64 (at' : Int)] 67) = w1 at h1 u1 hsz x0 x1 ⊢
  have H1 := Lib.hid h1
  have U1 := Lib.hid u1
  have HS := Lib.hid hsz
  clear h h1 u1 hsz hlg
  go_big_region
  have hd := H1.out.nn ((Upd.refl w1 _).drew)
  have ud := U1.out.drew
  have c := hd.cs hi
  have fz := hd.blk.frozen (1 + (lv * 64 + at'))
  generalize w1.drew = w2 at hd ud c fz ⊢
  rw [show 1 + (lv * 64 + at') = 1 + lv * 64 + at' by omega] at c fz
  have hmm := @run_makeMap Try.prog
  cases hbs : bs (lv * 64 + at') with
  | some b =>
    rw [hbs] at c
    have hq := fun W => run_eql_map_nil (P := Try.prog) W 59 3 3 (some b) Try.underlying59
    simp only [Option.isNone_some] at hq
    have HD := Lib.hid hd
    have HBS := Lib.hid hbs
    clear hd hbs
    go_wp2_with fail
    go_ret
    exact ⟨b, bs, rfl, HD.out, HBS.out, ud.mono (fun _ _ h => h.elim), fun _ _ h => .inl h, fun _ _ h => h⟩
  | none =>
    rw [hbs] at c
    have hq := fun W => run_eql_map_nil (P := Try.prog) W 59 3 3 none Try.underlying59
    simp only [Option.isNone_none] at hq
    have HBS := Lib.hid hbs
    have hlg := hd.blk.lt
    have hm : Mp MI (w2.alloc (.map #[] 0)) w2.heap.size [] := Mp.new MI w2
    have ua : Upd w2 (w2.alloc (.map #[] 0)) Nope := (Upd.refl w2 _).alloc _
    have hda := hd.nn ua
    have ca : (w2.alloc (.map #[] 0)).cell? ⟨g, 1 + lv * 64 + at', none⟩ = some (.map none) := ua.cell c id
    have us : Upd (w2.alloc (.map #[] 0)) ((w2.alloc (.map #[] 0)).setCell ⟨g, 1 + lv * 64 + at', none⟩ (.map (some w2.heap.size))) (· = g) := (Upd.refl _ _).set ⟨g, 1 + lv * 64 + at', none⟩ _ (.inl rfl)
    have hs : s.sl (lv * 64 + at') = [] := hd.nil_ _ hi hbs
    have hb' : Blk ((w2.alloc (.map #[] 0)).setCell ⟨g, 1 + lv * 64 + at', none⟩ (.map (some w2.heap.size))) g (wcells s.now (upB bs (lv * 64 + at') w2.heap.size) bf bp) 64 := by
      have := hda.blk.set (1 + (lv * 64 + at')) (.map (some w2.heap.size))
      rw [wc_set _ _ _ _ hi] at this
      rw [show 1 + lv * 64 + at' = 1 + (lv * 64 + at') by omega]
      exact this
    have hnew : ∀ k b, k < 256 → bs k = some b → b < w2.heap.size := fun k b hk hb => (hd.slot k b hk hb).lt
    have hwh : WH ((w2.alloc (.map #[] 0)).setCell ⟨g, 1 + lv * 64 + at', none⟩ (.map (some w2.heap.size))) g (upB bs (lv * 64 + at') w2.heap.size) bf bp s := by
      refine ⟨hb', fun k hk hn => ?_, fun k b hk hb => ?_, hda.far.upd us (fun e => ?_), hda.place.upd us (fun e => ?_), fun k j b hk hj hb hb2 => ?_, fun k b hk hb => ?_, hd.fp⟩
      · unfold upB at hn
        split at hn
        · cases hn
        · exact hd.nil_ k hk hn
      · unfold upB at hb
        split at hb
        · rename_i e
          injection hb with hb
          subst hb
          rw [e, hs]
          exact hm.upd us (by omega)
        · exact (hda.slot k b hk hb).upd us (by have := hda.slot k b hk hb; exact this.ne_blk hda.blk)
      · exact hda.far.ne_blk hda.blk e
      · exact hda.place.ne_blk hda.blk e
      · unfold upB at hb hb2
        split at hb <;> split at hb2
        · omega
        · injection hb with hb; subst hb; have := hnew j _ hj hb2; omega
        · injection hb2 with hb2; subst hb2; have := hnew k _ hk hb; omega
        · exact hd.inj k j b hk hj hb hb2
      · unfold upB at hb
        split at hb
        · injection hb with hb
          subst hb
          have h1 := hd.far.lt
          have h2 := hd.place.lt
          omega
        · exact hd.nf k b hk hb
    have u2 := (ud.nn ua).mono (G := (· = g)) (fun _ _ h => h.elim)
    have hcom := World.setCell_alloc_past (w := w2) (.map #[] 0) g (1 + lv * 64 + at') (.map (some w2.heap.size)) hlg
    rw [hcom] at hwh us
    have WHF := Lib.hid hwh
    have UF := Lib.hid (u2.then_ us)
    clear hcom
    have HGR : ∀ k c, upB bs (lv * 64 + at') w2.heap.size k = some c → bs k = some c ∨ w.heap.size ≤ c := fun k c hc => by
      unfold upB at hc
      split at hc
      · injection hc with hc
        have := ud.size
        exact .inr (by omega)
      · exact .inl hc
    have GR := Lib.hid HGR
    have HOLD : ∀ k c, bs k = some c → upB bs (lv * 64 + at') w2.heap.size k = some c := fun k c hc => by
      unfold upB
      split
      · rename_i e; rw [e, hbs] at hc; cases hc
      · exact hc
    have OL := Lib.hid HOLD
    clear hbs hs hb' hnew hwh u2 us hda ua hd hm HGR HOLD ud
    go_wp2_with fail
    go_ret
    exact ⟨w2.heap.size, _, rfl, WHF.out, by simp [upB], UF.out, GR.out, OL.out⟩
end
/-- At any place. -/
theorem of_any {w : World} {g : Nat} {bs : Nat → Option Nat} {bf bp : Nat} {s : Wh} (h : WH w g bs bf bp s) (p : Int × Int) (hp : okp p) :
    Calls Try.prog 23 #[.pointer (some ⟨g, 0, none⟩), pv p] w fun e w' => ∃ b bs', e = .returned (.map (some b)) ∧ WH w' g bs' bf bp s ∧ at_ bs' bf (idx p) = some b ∧ Upd w w' (· = g) ∧ (∀ k c, bs' k = some c → bs k = some c ∨ w.heap.size ≤ c) ∧ ∀ k c, bs k = some c → bs' k = some c := by
  obtain ⟨l, a⟩ := p
  by_cases h4 : l = 4
  · subst h4
    have ha : a = 0 := by rcases hp with ⟨_, h⟩ | ⟨_, h, _⟩; exact h; exact absurd h (by simp)
    subst ha
    refine (of_far h).mono fun e w' ⟨he, hu⟩ => ⟨bf, bs, he, h.nn hu, rfl, hu.mono (fun _ _ h => h.elim), fun _ _ h => .inl h, fun _ _ h => h⟩
  · rcases hp with ⟨h, _⟩ | ⟨h1, h2, h3, h5⟩
    · exact absurd h h4
    · obtain ⟨lv, rfl⟩ := Int.eq_ofNat_of_zero_le h1
      obtain ⟨at', rfl⟩ := Int.eq_ofNat_of_zero_le h3
      simp only at h2 h5
      have e : idx ((lv : Int), (at' : Int)) = lv * 64 + at' := by unfold idx; rw [if_neg h4]; simp only; omega
      rw [e]
      refine (of_near h lv at' (by omega) (by omega)).mono fun e w' ⟨b, bs', he, hw, hb, hu, hg⟩ => ⟨b, bs', he, hw, ?_, hu, hg⟩
      unfold at_
      rw [if_neg (by omega)]
      exact hb
end Go.Proofs.Ytejelihioendnaa
