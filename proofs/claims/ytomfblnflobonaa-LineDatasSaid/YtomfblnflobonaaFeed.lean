/- Feed: pieces come. -/
import Derived.Test.YtomfblnflobonaaTake
set_option linter.unusedVariables false
set_option linter.unusedSimpArgs false
namespace Go.Proofs.Ytomfblnflobonaa
open Go.RowKit

/-- The bytes of the pieces, one behind the other. -/
def bytesOf (l : List ByteArray) : List UInt8 := (l.map (·.data.toList)).flatten
theorem bytesOf_append (a b : List ByteArray) : bytesOf (a ++ b) = bytesOf a ++ bytesOf b := by simp [bytesOf]
theorem bytesOf_take (l : List ByteArray) (k : Nat) (h : k < l.length) : bytesOf (l.take (k + 1)) = bytesOf (l.take k) ++ (l[k]'h).data.toList := by
  unfold bytesOf
  rw [List.take_succ_eq_append_getElem h, List.map_append, List.flatten_append]
  simp

/-- What Feed leaves in the midst: 'came' came so far. -/
structure Fed (w : World) (B b1 b2 g most lines : Nat) (cur : List UInt8) (v : Value) (came : List UInt8) (v' vo' : Value) (w' : World) : Prop where
  ctr : Ctr w' B g most (lines + (cuts cur came).1.length) (cuts cur came).2 v'
  box : Blk w' b1 #[.pointer (some ⟨g, 0, none⟩)] 25
  out : Blk w' b2 #[vo'] 29
  own : w'.ownsRow B 49 2 vo' ((cuts cur came).1.map (lineOf most)).length (lcells ((cuts cur came).1.map (lineOf most)))
  upd : Upd w w' (fun k => k = g ∨ v.ownBlock = some k)
  loc : ∀ k, v'.ownBlock = some k → v.ownBlock = some k ∨ w.heap.size ≤ k
  loco : ∀ k, vo'.ownBlock = some k → w.heap.size ≤ k

theorem Fed.took {w : World} {B b1 b2 g most lines : Nat} {cur : List UInt8} {v : Value} {came : List UInt8} {v' vo' : Value} {w' : World} (h : Fed w B b1 b2 g most lines cur v came v' vo' w') (hb2 : w.heap.size ≤ b2) {b : UInt8} {v2 vo2 : Value} {w2 : World}
    (k : Took w' B b2 g most (lines + (cuts cur came).1.length) (cuts cur came).2 b v' vo' ((cuts cur came).1.map (lineOf most)) v2 vo2 w2) : Fed w B b1 b2 g most lines cur v (came ++ [b]) v2 vo2 w2 := by
  have e := cuts_append came [b] cur
  have hw := h.upd.size
  have hF : ∀ i, i < w.heap.size → (i = g ∨ i = b2 ∨ v'.ownBlock = some i ∨ vo'.ownBlock = some i) → (i = g ∨ v.ownBlock = some i) := by
    intro i hi hk
    rcases hk with hk | hk | hk | hk
    · exact .inl hk
    · omega
    · rcases h.loc i hk with hk | hk
      · exact .inr hk
      · omega
    · have := h.loco i hk
      omega
  refine ⟨?_, ?_, k.out, ?_, ?_, ?_, ?_⟩
  · rw [e]
    simp only [List.length_append]
    rw [← Nat.add_assoc]
    exact k.ctr
  · refine h.box.upd k.upd (fun hk => ?_)
    rcases hk with hk | hk | hk | hk
    · exact (h.box.ne h.ctr.blk (by decide)) hk
    · exact (h.box.ne h.out (by decide)) hk
    · exact own_ne h.ctr.own h.box (by decide) _ hk rfl
    · exact own_ne h.own h.box (by decide) _ hk rfl
  · rw [e]
    simp only [List.map_append]
    exact k.own
  · exact h.upd.trans k.upd (fun _ _ h => h) hF
  · intro i hi
    rcases k.loc i hi with hk | hk
    · exact h.loc i hk
    · right; omega
  · intro i hi
    rcases k.loco i hi with hk | hk
    · exact h.loco i hk
    · omega
theorem Fed.nope {w : World} {B b1 b2 g most lines : Nat} {cur : List UInt8} {v : Value} {came : List UInt8} {v' vo' : Value} {w' w2 : World} (h : Fed w B b1 b2 g most lines cur v came v' vo' w') (k : Upd w' w2 Nope) : Fed w B b1 b2 g most lines cur v came v' vo' w2 :=
  ⟨h.ctr.upd k id (fun _ _ => id), h.box.upd k id, h.out.upd k id, own_upd h.own k (fun _ _ => id), h.upd.then_ (k.mono (fun _ _ h => h.elim)), h.loc, h.loco⟩

set_option maxHeartbeats 4000000 in
theorem feed_any {w : World} {B g most lines : Nat} {cur : List UInt8} {v : Value} (h : Ctr w B g most lines cur v) (hB : B ≤ w.heap.size) (hm2 : 2 ≤ most) (hmm : most ≤ 65536) (hln : lines ≤ 500000) (hc : cur.length ≤ 400000)
    {A : Option Addr} {cap : Nat} {l : List ByteArray} (hr : ∀ W, Upd w W (fun k => k = g ∨ v.ownBlock = some k) → Rd1 Value.string W A l) (hlen : l.length ≤ 1000000) (hby : (bytesOf l).length ≤ 400000) :
    Calls Try.prog 11 #[.pointer (some ⟨g, 0, none⟩), .slice A l.length cap] w fun e w' => ∃ v' vo', e = .returned vo' ∧ Ctr w' B g most (lines + (cuts cur (bytesOf l)).1.length) (cuts cur (bytesOf l)).2 v' ∧
      w'.ownsRow B 49 2 vo' ((cuts cur (bytesOf l)).1.map (lineOf most)).length (lcells ((cuts cur (bytesOf l)).1.map (lineOf most))) ∧ Upd w w' (fun k => k = g ∨ v.ownBlock = some k) ∧ (∀ k, v'.ownBlock = some k → v.ownBlock = some k ∨ w.heap.size ≤ k) ∧ (∀ k, vo'.ownBlock = some k → w.heap.size ≤ k) := by
  have hgl := h.blk.lt
  have H := Lib.hid h
  clear h
  go_enter Try.func11, Try.ntmps11
  go_wp2_with fail
  have hF0 : Fed w B w.heap.size (w.heap.size + 1) g most lines cur v [] v (.slice none 0 0) ((w.alloc (.cells #[.pointer (some ⟨g, 0, none⟩)] 25)).alloc (.cells #[.slice none 0 0] 29)) :=
    ⟨by simpa [cuts] using H.out.upd (((Upd.refl w Nope).alloc _).alloc _) id (fun _ _ => id), ((Blk.new w #[.pointer (some ⟨g, 0, none⟩)] 25).alloc _), by simpa using (Blk.new (w.alloc (.cells #[.pointer (some ⟨g, 0, none⟩)] 25)) #[.slice none 0 0] 29),
      by simpa [cuts, lcells] using World.ownsRow_nil _ _ _ _, ((Upd.refl w _).alloc _).alloc _, fun k hk => .inl hk, fun k hk => by simp [Value.ownBlock] at hk⟩
  have hvo : ∀ k, v.ownBlock = some k → k < w.heap.size := fun k hk => (H.out.own.lt k hk).2
  clear H
  generalize hwb : ((w.alloc (.cells #[.pointer (some ⟨g, 0, none⟩)] 25)).alloc (.cells #[.slice none 0 0] 29)) = wb at hF0 ⊢
  clear hwb
  have hb2 : w.heap.size ≤ w.heap.size + 1 := by omega
  have HB2 := Lib.hid hb2
  generalize w.heap.size + 1 = b2 at hF0 HB2 ⊢
  generalize hB1 : w.heap.size = b1 at hF0 ⊢
  clear hb2 hB1
  go_loopg [14] (l.length + 1) (fun gk i wx => ∃ (k : Nat) (v' vo' : Value), k ≤ l.length ∧ l.length < k + gk ∧ i = .int .i64 k ∧ Fed w B b1 b2 g most lines cur v (bytesOf (l.take k)) v' vo' wx)
  case atStart => exact ⟨0, v, .slice none 0 0, by omega, by omega, rfl, by rw [List.take_zero]; exact hF0⟩
  case round =>
    obtain ⟨k, v1, vo1, hk, hkg, rfl, hF⟩ := hrel
    by_cases hlt : k < l.length
    · obtain ⟨g', rfl⟩ : ∃ g', gk = g' + 1 := ⟨gk - 1, by omega⟩
      obtain ⟨ad, hA, hcell⟩ := hr wr hF.upd k hlt
      have hbt := bytesOf_take l k hlt
      have hsub : (bytesOf (l.take (k + 1))).length ≤ 400000 := by
        have : bytesOf l = bytesOf (l.take (k + 1)) ++ bytesOf (l.drop (k + 1)) := by
          rw [← bytesOf_append, List.take_append_drop]
        rw [this, List.length_append] at hby
        omega
      rw [hbt] at hsub
      generalize l[k]'hlt = s at hcell hbt hsub
      subst hA
      have HF := Lib.hid hF
      clear hF
      have kc := Lib.run_convert_string_bytes (P := Try.prog) wr 9 51 5 s Try.underlying9 Try.underlying51 Try.underlying5
      have hby0 := Byt.new wr s
      have hub := Byt.newUpd wr s Nope
      have hF1 := HF.out.nope hub
      have hbb : ∀ q, v1.ownBlock = some q → q ≠ wr.heap.size := fun q hq => by have := (HF.out.ctr.own.lt q hq).2; omega
      have hbbo : ∀ q, vo1.ownBlock = some q → q ≠ wr.heap.size := fun q hq => by have := (HF.out.own.lt q hq).2; omega
      have hbg : g ≠ wr.heap.size := by have := HF.out.ctr.blk.lt; omega
      have hbb2 : b2 ≠ wr.heap.size := by have := HF.out.out.lt; omega
      have hss : s.data.toList.length = s.size := by simp
      have hsz4 : s.size ≤ 400000 := by rw [List.length_append] at hsub; omega
      clear HF
      generalize hw1 : Lib.bytesWorld wr 5 s = w1 at kc hby0 hub hF1
      generalize wr.heap.size = bb at kc hby0 hbb hbbo hbg hbb2
      generalize grownCap wr s.size 0 5 = gc at kc
      clear hw1 hub
      have hF1 := Lib.hid hF1
      have hr := Lib.hid hr
      go_upto_region 7 with fail
      go_loopg [21] (s.size + 1) (fun gk i wx => ∃ (j : Nat) (v' vo' : Value), j ≤ s.size ∧ s.size < j + gk ∧ i = .int .i64 j ∧ Fed w B b1 b2 g most lines cur v (bytesOf (l.take k) ++ s.data.toList.take j) v' vo' wx ∧ Byt wx bb s.data.toList ∧ (∀ q, v'.ownBlock = some q → q ≠ bb) ∧ (∀ q, vo'.ownBlock = some q → q ≠ bb))
      case atStart => exact ⟨0, v1, vo1, by omega, by omega, rfl, by simpa using hF1.out, hby0, hbb, hbbo⟩
      case round =>
        clear hbb hbbo hby0 hF1
        obtain ⟨j, v2, vo2, hj, hjg, rfl, hF, hby2, hbb, hbbo⟩ := hrel
        by_cases hjl : j < s.size
        · obtain ⟨g2, rfl⟩ : ∃ g2, gk = g2 + 1 := ⟨gk - 1, by omega⟩
          have hcell2 := hby2.cell j (by omega)
          have hsn : s.data.toList.take (j + 1) = s.data.toList.take j ++ [s.data.toList.getD j 0] := by
            rw [List.take_succ_eq_append_getElem (by omega)]
            simp [List.getD, hjl]
          generalize s.data.toList.getD j 0 = b at hcell2 hsn
          have n1 := cuts_len (bytesOf (l.take k) ++ s.data.toList.take j) cur
          have n2 := cuts_count (bytesOf (l.take k) ++ s.data.toList.take j) cur
          have n3 : (bytesOf (l.take k) ++ s.data.toList.take j).length ≤ 400000 := by
            rw [List.length_append] at hsub ⊢
            rw [List.length_take]
            omega
          have hT := take_any b hF.box hF.ctr (Nat.le_trans hB hF.upd.size) hm2 hmm (by omega) (by omega) hF.out hF.own (by rw [List.length_map]; omega)
          have HT := Lib.hid hT
          have HF := Lib.hid hF
          have HY := Lib.hid hby2
          have HS := Lib.hid hsn
          have HB := Lib.hid hbb
          have HBO := Lib.hid hbbo
          clear hT hF hby2 hsn n1 n2 n3 hbb hbbo hsub hbt
          go_wp2_with fail
          refine HT.out.mono ?_
          rintro e w3 ⟨rfl, v3, vo3, hk⟩
          have hF3 := Lib.hid (HF.out.took HB2.out hk)
          have hlt3 := HY.out.lt
          have hY3 := Lib.hid (HY.out.upd hk.upd (fun h => by
            rcases h with h | h | h | h
            · exact hbg h.symm
            · exact hbb2 h.symm
            · exact HB.out _ h rfl
            · exact HBO.out _ h rfl))
          have hB3 : ∀ q, v3.ownBlock = some q → q ≠ bb := fun q hq e => by
            rcases hk.loc q hq with h | h
            · exact HB.out q h e
            · omega
          have hBO3 : ∀ q, vo3.ownBlock = some q → q ≠ bb := fun q hq e => by
            rcases hk.loco q hq with h | h
            · exact HBO.out q h e
            · omega
          have hB3 := Lib.hid hB3
          have hBO3 := Lib.hid hBO3
          clear hk HT HF HY hlt3 HB HBO
          go_wp2_with fail
          go_roundg g2
          case measure => omega
          case rel => exact ⟨j + 1, v3, vo3, by omega, by omega, by go_num, by rw [HS.out, ← List.append_assoc]; exact hF3.out, hY3.out, hB3.out, hBO3.out⟩
        · have ej : s.data.toList.take j = s.data.toList := List.take_of_length_le (by omega)
          rw [ej, ← hbt] at hF
          have HF := Lib.hid hF
          clear hF hby2 hbb hbbo hsub hbt ej
          go_wp2_with fail
          go_roundg g'
          case measure => omega
          case rel => exact ⟨k + 1, v2, vo2, by omega, by omega, by go_num, HF.out⟩
    · obtain rfl : k = l.length := by omega
      rw [List.take_length] at hF
      have co : wr.cell? ⟨b2, 0, none⟩ = some vo1 := (hF.out.cell 0).trans rfl
      have HF := Lib.hid hF
      clear hF
      go_wp2_with fail
      go_ret
      exact ⟨v1, vo1, rfl, HF.out.ctr, HF.out.own, HF.out.upd, HF.out.loc, HF.out.loco⟩
end Go.Proofs.Ytomfblnflobonaa
