/- awake: answers that the document fixes. -/
import Derived.Test.YtomfblnflobonaaUnd
set_option linter.unusedVariables false
set_option linter.unusedSimpArgs false
namespace Go.Proofs.Ytomfblnflobonaa
open Go.RowKit

abbrev pc1 : ByteArray := ⟨#[97, 98, 13]⟩
abbrev pc2 : ByteArray := ⟨#[10, 99]⟩
theorem aw_cuts : cuts [] (bytesOf [pc1, pc2]) = ([[97, 98, 13, 10]], [99]) := by decide
theorem aw_data : dataRet (LL [⟨#[46, 97]⟩, ⟨#[]⟩]) = .tuple #[.string ⟨#[46, 46, 97, 13, 10, 13, 10, 46, 13, 10]⟩, .int .i64 0] := by
  have : data (LL [⟨#[46, 97]⟩, ⟨#[]⟩]) = ([46, 46, 97, 13, 10, 13, 10, 46, 13, 10], 0) := by decide
  unfold dataRet
  rw [this]
  rfl
theorem aw_und : undata [46, 46, 97, 13, 10, 13, 10, 46, 13, 10, 120] = ([[46, 97], []], [120], 0) := by decide
theorem aw_und2 : undata [46] = ([], [], 12) := by decide

/-- New, for the walk: the cutter's block. -/
theorem new_any (most : Nat) (h1 : 2 ≤ most) (h2 : most ≤ 65536) (w : World) : Calls Try.prog 10 #[.int .i64 (most : Int)] w fun e w' =>
    ∃ g, e = .returned (.tuple #[.pointer (some ⟨g, 0, none⟩), .int .i64 0]) ∧ Ctr w' w.heap.size g most 0 [] (.slice none 0 0) ∧ w.heap.size ≤ g ∧ g < w'.heap.size ∧ Upd w w' Nope := by
  refine (new_yes most h1 h2 w).mono ?_
  rintro e w' ⟨rfl, rfl⟩
  exact ⟨_, rfl, Ctr.new w most, Nat.le_refl _, by simp, (Upd.refl _ _).alloc _⟩
/-- Feed, of a cutter whose own row and block are no older than the world W0. -/
theorem feed_new {w W0 : World} {g most lines : Nat} {cur : List UInt8} {v : Value} (h : Ctr w W0.heap.size g most lines cur v) (hu : Upd W0 w Nope) (hg : W0.heap.size ≤ g) (hm2 : 2 ≤ most) (hmm : most ≤ 65536) (hln : lines ≤ 500000) (hc : cur.length ≤ 400000)
    {A : Option Addr} {cap : Nat} {l : List ByteArray} (hr : ∀ W, Upd w W (fun k => k = g ∨ v.ownBlock = some k) → Rd1 Value.string W A l) (hlen : l.length ≤ 1000000) (hby : (bytesOf l).length ≤ 400000) :
    Calls Try.prog 11 #[.pointer (some ⟨g, 0, none⟩), .slice A l.length cap] w fun e w' => ∃ v' vo', e = .returned vo' ∧ Ctr w' W0.heap.size g most (lines + (cuts cur (bytesOf l)).1.length) (cuts cur (bytesOf l)).2 v' ∧
      w'.ownsRow W0.heap.size 49 2 vo' ((cuts cur (bytesOf l)).1.map (lineOf most)).length (lcells ((cuts cur (bytesOf l)).1.map (lineOf most))) ∧ Upd w w' (fun k => k = g ∨ v.ownBlock = some k) ∧ (∀ k, v'.ownBlock = some k → v.ownBlock = some k ∨ w.heap.size ≤ k) ∧ (∀ k, vo'.ownBlock = some k → w.heap.size ≤ k) ∧ Upd W0 w' Nope := by
  refine (feed_any h hu.size hm2 hmm hln hc hr hlen hby).mono ?_
  rintro e w' ⟨v', vo', h1, h2, h3, h4, h5, h6⟩
  refine ⟨v', vo', h1, h2, h3, h4, h5, h6, hu.trans h4 (fun _ _ h => h) (fun i hi hk => ?_)⟩
  rcases hk with hk | hk
  · omega
  · have := (h.own.lt i hk).1
    omega

set_option maxHeartbeats 4000000 in
set_option maxRecDepth 100000 in
theorem awake_any (w : World) (m : Int) (hm : w.cell? ⟨0, 0, none⟩ = some (.int .i64 m)) : Calls Try.prog 8 #[] w fun e w' => e = .returned (.bool true) ∧ Upd w w' Nope := by
  go_enter Try.func8, Try.ntmps8
  go_wp2_with fail
  refine (new_any 10 (by decide) (by decide) w).mono ?_
  rintro e w1 ⟨g, rfl, hc1, hgw, hgl, hu1⟩
  go_wp2_with fail
  refine (new_no 1 (by decide) w1).mono ?_
  rintro e w1' ⟨rfl, hw⟩
  obtain rfl : w1 = w1' := hw.symm
  go_wp2_with fail
  have hb1 := Blk.new w1 #[.string pc1, .string pc2] 9
  have hc2 : Ctr (w1.alloc (.cells #[.string pc1, .string pc2] 9)) w.heap.size g 10 0 [] (.slice none 0 0) := hc1.upd ((Upd.refl w1 Nope).alloc _) id (fun _ _ => id)
  have hu2 := hu1.alloc (.cells #[.string pc1, .string pc2] 9)
  have hne : w1.heap.size ≠ g := by omega
  clear hc1 hu1 hgl
  generalize w1.heap.size = b1 at hb1 hne ⊢
  generalize w1.alloc (.cells #[.string pc1, .string pc2] 9) = w2 at hb1 hc2 hu2 ⊢
  refine (feed_new (cap := 2) (l := [pc1, pc2]) hc2 hu2 hgw (by decide) (by decide) (by decide) (by decide) (fun W k => rd1_blk (hb1.upd k (by simp [Value.ownBlock]; exact hne)) rfl) (by decide) (by decide)).mono ?_
  rintro e w3 ⟨v3, vo3, rfl, hc3, ho3, hu3, -, -, hu3'⟩
  rw [aw_cuts] at hc3 ho3
  have hc3 : Ctr w3 w.heap.size g 10 1 [99] v3 := hc3
  have ho3 : w3.ownsRow w.heap.size 49 2 vo3 1 [.string ⟨#[97, 98]⟩, .int .i64 0] := ho3
  clear hu3 hu2 hc2 hb1
  go_wp2_with fail
  refine (pending_any hc3).mono ?_
  rintro e w4 ⟨rfl, hw⟩
  obtain rfl : w3 = w4 := hw.symm
  go_wp2_with fail
  have hb3 := Blk.new w3 #[.string ⟨#[46, 97]⟩, .string ⟨#[]⟩] 9
  have u4 : Upd w3 (w3.alloc (.cells #[.string ⟨#[46, 97]⟩, .string ⟨#[]⟩] 9)) Nope := (Upd.refl w3 Nope).alloc _
  have hc4 := hc3.upd u4 id (fun _ _ => id)
  have ho4 := own_upd ho3 u4 (fun _ _ => id)
  have hu4 := hu3'.nn u4
  clear hc3 ho3 u4 hu3'
  generalize w3.heap.size = b3 at hb3 ⊢
  generalize w3.alloc (.cells #[.string ⟨#[46, 97]⟩, .string ⟨#[]⟩] 9) = w4 at hb3 hc4 ho4 hu4 ⊢
  refine (data_any (some ⟨b3, 0, none⟩) 2 [⟨#[46, 97]⟩, ⟨#[]⟩] w4 (rd1_blk hb3 rfl) (by decide) (by decide)).mono ?_
  rw [aw_data]
  rintro e w5 ⟨rfl, u5⟩
  have hc5 := hc4.upd u5 id (fun _ _ => id)
  have ho5 := own_upd ho4 u5 (fun _ _ => id)
  have hu5 := hu4.nn u5
  clear hc4 ho4 u5 hu4 hb3
  go_wp2_with fail
  refine (undata_any ⟨#[46, 46, 97, 13, 10, 13, 10, 46, 13, 10, 120]⟩ w5 m (hu5.cell hm id) (by decide)).mono ?_
  rintro e w6 ⟨vu, rfl, hown, u6⟩
  have hown : w6.ownsRow w5.heap.size 9 1 vu 2 (([⟨#[46, 97]⟩, ⟨#[]⟩] : List ByteArray).map Value.string) := by
    have : undata (⟨#[46, 46, 97, 13, 10, 13, 10, 46, 13, 10, 120]⟩ : ByteArray).data.toList = ([[46, 97], []], [120], 0) := aw_und
    rw [this] at hown
    exact hown
  have eu : (undata (⟨#[46, 46, 97, 13, 10, 13, 10, 46, 13, 10, 120]⟩ : ByteArray).data.toList) = ([[46, 97], []], [120], 0) := aw_und
  rw [eu]
  have hc6 := hc5.upd u6 id (fun _ _ => id)
  have ho6 := own_upd ho5 u6 (fun _ _ => id)
  have hu6 := hu5.nn u6
  clear hc5 ho5 u6 hu5 eu
  go_wp2_with fail
  refine (undata_any ⟨#[46]⟩ w6 m (hu6.cell hm id) (by decide)).mono ?_
  rintro e w7 ⟨vz, rfl, -, u7⟩
  have eu : (undata (⟨#[46]⟩ : ByteArray).data.toList) = ([], [], 12) := aw_und2
  rw [eu]
  have hc7 := hc6.upd u7 id (fun _ _ => id)
  have ho7 := own_upd ho6 u7 (fun _ _ => id)
  have hn7 := own_upd hown u7 (fun _ _ => id)
  have hu7 := hu6.nn u7
  clear hc6 ho6 u7 hu6 eu hown
  obtain ⟨A, cp, rfl, -, hrd, -, -⟩ := rd1_of_owns hn7
  clear hn7
  rcases ho7.2 with ⟨-, h0⟩ | ⟨q, cap3, cur3, rfl, -, -, -⟩
  · cases h0
  have k0 : w7.cell? ⟨q, 0, none⟩ = some (.string ⟨#[97, 98]⟩) := (ho7.cellAt 0 (by decide)).trans rfl
  have k1 : w7.cell? ⟨q, 1, none⟩ = some (.int .i64 0) := (ho7.cellAt 1 (by decide)).trans rfl
  go_wp2_with fail
  refine (lines_any hc7).mono ?_
  rintro e w8 ⟨rfl, hw8⟩
  obtain rfl : w7 = w8 := hw8.symm
  go_wp2_with fail
  have hb8 := Blk.new w7 #[.string ⟨#[46, 97]⟩, .string ⟨#[]⟩] 9
  have u8 : Upd w7 (w7.alloc (.cells #[.string ⟨#[46, 97]⟩, .string ⟨#[]⟩] 9)) Nope := (Upd.refl w7 Nope).alloc _
  have hr8 := hrd.upd u8 (fun _ h => h.elim)
  have hu8 := hu7.nn u8
  clear hc7 ho7 hrd u8 hu7 k0 k1
  generalize w7.heap.size = b8 at hb8 ⊢
  generalize w7.alloc (.cells #[.string ⟨#[46, 97]⟩, .string ⟨#[]⟩] 9) = w8 at hb8 hr8 hu8 ⊢
  refine (same_any A (some ⟨b8, 0, none⟩) cp 2 [⟨#[46, 97]⟩, ⟨#[]⟩] [⟨#[46, 97]⟩, ⟨#[]⟩] w8 hr8 (rd1_blk hb8 rfl) (by decide) (by decide)).mono ?_
  rintro e w9 ⟨rfl, hd9⟩
  have hu9 := hu8.dr hd9
  clear hu8 hd9 hb8 hr8
  rw [show decide (([⟨#[46, 97]⟩, ⟨#[]⟩] : List ByteArray) = [⟨#[46, 97]⟩, ⟨#[]⟩]) = true from decide_eq_true rfl]
  go_wp2_with fail
  refine (plain_any ⟨#[97]⟩ w9 (by decide)).mono ?_
  rintro e w10 ⟨rfl, hu10⟩
  rw [show plainL (⟨#[97]⟩ : ByteArray).data.toList = true from rfl]
  go_wp2_with fail
  refine (plain_any ⟨#[10]⟩ w10 (by decide)).mono ?_
  rintro e w11 ⟨rfl, hu11⟩
  rw [show plainL (⟨#[10]⟩ : ByteArray).data.toList = false from rfl]
  go_wp2_with fail
  go_ret
  exact ⟨ret_eq (by first | rfl | simp), (hu9.nn hu10).nn hu11⟩
end Go.Proofs.Ytomfblnflobonaa
