/- Sync, Remove, Rename, Read: what begins with a file that is looked for. (Printed by mkfin.py.) -/
import Derived.Test.YtkglcgekpgcdpaaClo
set_option linter.unusedVariables false
set_option linter.unusedSimpArgs false
namespace Go.Proofs.Ytkglcgekpgcdpaa
open Go.RowKit

theorem findR_zero {d : Dk} {l : List ByteArray} {name : ByteArray} (h : (findR d l name).2 = 0) : nameOk name = true ∧ (∀ s ∈ l, nameOk s = true) ∧ look name d.L = some (findR d l name).1 := by
  unfold findR at h ⊢
  by_cases hm : mayE d.off (l ++ [name]) = 0
  · rw [if_pos hm] at h ⊢
    obtain ⟨_, ha⟩ := may_zero hm
    refine ⟨ha _ (by simp), fun s hs => ha s (by simp [hs]), ?_⟩
    cases hl : look name d.L with
    | none => rw [hl] at h; cases h
    | some f => rfl
  · rw [if_neg hm] at h
    exact absurd h hm
theorem owns_nil (w : World) : w.ownsRow 0 9 1 (.slice none 0 0) ([] : List ByteArray).length (([] : List ByteArray).map Value.string) := ⟨by simp, .inl ⟨rfl, rfl⟩⟩
def syncR (d : Dk) (name : ByteArray) : Dk × Int := if (findR d [] name).2 = 0 then changeR d false (put name ⟨(findR d [] name).1.s, (findR d [] name).1.s.size⟩ d.L) else (d, (findR d [] name).2)
def removeR (d : Dk) (name : ByteArray) : Dk × Int := if (findR d [] name).2 = 0 then changeR d false (del name d.L) else (d, (findR d [] name).2)
def renameR (d : Dk) (name tn : ByteArray) : Dk × Int := if (findR d [tn] name).2 = 0 then changeR d false (put tn (findR d [tn] name).1 (del name d.L)) else (d, (findR d [tn] name).2)
theorem put_ok {L : List (ByteArray × Fl)} (h : ∀ p ∈ L, p.2.ok) (k : ByteArray) {f : Fl} (hf : f.ok) : ∀ p ∈ put k f L, p.2.ok := fun p hp => by
  rcases mem_put hp with rfl | h' | h'
  · exact hf
  · exact h p h'.1
  · exact h p h'
theorem del_ok {L : List (ByteArray × Fl)} (h : ∀ p ∈ L, p.2.ok) (k : ByteArray) : ∀ p ∈ del k L, p.2.ok := fun p hp => h p (List.mem_filter.1 hp).1

theorem read_any {w : World} {g b : Nat} {d : Dk} (h : DK w g b d) (name : ByteArray) :
    Calls Try.prog 18 #[.pointer (some ⟨g, 0, none⟩), .string name] w fun e w' => e = .returned (.tuple #[.string (findR d [] name).1.s, .int .i64 (findR d [] name).2]) ∧ Upd w w' Nope := by
  have hF := find_any h name (owns_nil w) (Nat.zero_le _) (by simp) (fun k hk => by simp [Value.ownBlock] at hk)
  generalize findR d [] name = R at hF ⊢
  clear h
  go_enter Try.func18, Try.ntmps18
  go_wp2_with fail
  refine hF.mono ?_
  rintro e w3 ⟨rfl, hu3⟩
  go_wp2
  go_ret2
  exact ⟨rfl, (hu3.mono (fun k _ h => by simp [Value.ownBlock] at h)).alloc _⟩
set_option maxHeartbeats 2000000 in
theorem sync_any {w : World} {g b : Nat} {d : Dk} (h : DK w g b d) (hd : d.ok) (name : ByteArray) :
    Calls Try.prog 19 #[.pointer (some ⟨g, 0, none⟩), .string name] w fun e w' => e = .returned (.int .i64 (syncR d name).2) ∧ DK w' g b (syncR d name).1 ∧ Upd w w' (fun i => i = g ∨ i = b) := by
  have hlg := h.blk.lt
  have hlb := h.mp.lt
  have bd := Blk.new w #[.pointer (some ⟨g, 0, none⟩)] 25
  have bn := Blk.new (w.alloc (.cells #[.pointer (some ⟨g, 0, none⟩)] 25)) #[.string name] 9
  rw [show (w.alloc (.cells #[.pointer (some ⟨g, 0, none⟩)] 25)).heap.size = w.heap.size + 1 by simp] at bn
  have bd := bd.alloc (.cells #[.string name] 9)
  have u0 : Upd w ((w.alloc (.cells #[.pointer (some ⟨g, 0, none⟩)] 25)).alloc (.cells #[.string name] 9)) Nope := ((Upd.refl w _).alloc _).alloc _
  have h0 := h.nn u0
  have hsz : ((w.alloc (.cells #[.pointer (some ⟨g, 0, none⟩)] 25)).alloc (.cells #[.string name] 9)).heap.size = w.heap.size + 2 := by simp
  have hF := find_any h0 name (owns_nil _) (Nat.zero_le _) (by simp) (fun k hk => by simp [Value.ownBlock] at hk)
  have hz := fun e => findR_zero (d := d) (l := []) (name := name) e
  have e1 : (findR d [] name).2 ≠ 0 → syncR d name = (d, (findR d [] name).2) := fun e => by unfold syncR; rw [if_neg e]
  have e2 : (findR d [] name).2 = 0 → syncR d name = changeR d false (put name ⟨(findR d [] name).1.s, (findR d [] name).1.s.size⟩ d.L) := fun e => by unfold syncR; rw [if_pos e]
  generalize syncR d name = R at e1 e2 ⊢
  generalize findR d [] name = fr at hF hz e1 e2
  obtain ⟨fo, E⟩ := fr
  simp only at hF hz e1 e2
  have HFi := Lib.hid hF
  have H0 := Lib.hid h0
  have E1 := Lib.hid e1
  have E2 := Lib.hid e2
  have HZ := Lib.hid hz
  have HD := Lib.hid hd
  have HBD := Lib.hid bd
  have HBN := Lib.hid bn
  clear hF h0 e1 e2 hz hd bd bn h
  go_enter Try.func19, Try.ntmps19
  go_upto_region 2 with (go_at_call 30; refine HFi.out.mono ?_; rintro e w3 ⟨rfl, hu3⟩)
  have hu3' : Upd ((w.alloc (.cells #[.pointer (some ⟨g, 0, none⟩)] 25)).alloc (.cells #[.string name] 9)) w3 Nope := hu3.mono (fun k _ h => by simp [Value.ownBlock] at h)
  have hdx := H0.out.nn hu3'
  have xd : w3.cell? ⟨w.heap.size, 0, none⟩ = some (.pointer (some ⟨g, 0, none⟩)) := ((HBD.out.upd hu3' id).cell 0).trans rfl
  have xn : w3.cell? ⟨w.heap.size + 1, 0, none⟩ = some (.string name) := ((HBN.out.upd hu3' id).cell 0).trans rfl
  have l3 : w.heap.size + 2 ≤ w3.heap.size := by have := hu3'.size; omega
  have u3 : Upd w w3 Nope := u0.nn hu3'
  have hb4 := Blk.new w3 #[.string fo.s, .int .i64 fo.n] 57
  have hd4 : DK (w3.alloc (.cells #[.string fo.s, .int .i64 fo.n] 57)) g b d := hdx.nn ((Upd.refl w3 _).alloc _)
  have u4 : Upd w3 (w3.alloc (.cells #[.string fo.s, .int .i64 fo.n] 57)) Nope := (Upd.refl w3 _).alloc _
  have xd := u4.cell xd id
  have xn := u4.cell xn id
  have u5 := u3.nn u4
  have nd : w.heap.size ≠ b := by omega
  have nn : w.heap.size + 1 ≠ b := by omega
  have ndg : w.heap.size ≠ g := by omega
  have nng : w.heap.size + 1 ≠ g := by omega
  have nf : w3.heap.size ≠ b := by omega
  have nfg : w3.heap.size ≠ g := by omega
  clear HBD HBN H0 HFi hu3 hu3' u0 u3 u4 hdx l3 hsz hlg hlb
  generalize w3.alloc (.cells #[.string fo.s, .int .i64 fo.n] 57) = w4 at hb4 hd4 xd xn u5 ⊢
  generalize w3.heap.size = qf at hb4 nf nfg ⊢
  generalize w.heap.size + 1 = qn at xn nn nng ⊢
  generalize w.heap.size = qd at xd nd ndg ⊢
  by_cases hE : E = 0
  · subst hE
    obtain ⟨hn1, hl1, hlk⟩ := HZ.out rfl
    have hn := nameOk_max hn1
    have fok : fo.ok := HD.out.fs _ (look_mem hlk)
    have y0 : w4.cell? ⟨qf, 0, none⟩ = some (.string fo.s) := (hb4.cell 0).trans rfl
    have y1 : w4.cell? ⟨qf, 1, none⟩ = some (.int .i64 fo.n) := (hb4.cell 1).trans rfl
    have hC := change_any hd4 false (put name ⟨fo.s, fo.s.size⟩ d.L) HD.out (put_ok HD.out.fs name (f := ⟨fo.s, fo.s.size⟩) ⟨by simp, by simp, fok.n2⟩) 31 #[.pointer (some ⟨qf, 0, none⟩), .pointer (some ⟨qd, 0, none⟩), .pointer (some ⟨qn, 0, none⟩)] (fun w => by rfl) (fun w1 h1 hu1 => clo_sync h1 (hu1.cell xd ndg) (hu1.cell xn nng) hn (hu1.cell y0 nfg))
    have HC := Lib.hid hC
    clear hC hd4 hb4 hlk
    go_wp2_with fail
    refine HC.out.mono ?_
    rintro e w6 ⟨rfl, hd6, hu6⟩
    have H6 := Lib.hid hd6
    clear hd6
    go_wp2
    go_ret
    exact ⟨by rw [E2.out (by simp)]; rfl, by rw [E2.out (by simp)]; exact H6.out, (u5.mono (fun _ _ h => h.elim)).then_ hu6⟩
  · have hE' : (E == 0) = false := by simpa using hE
    have HD4 := Lib.hid hd4
    clear hd4 hb4
    go_wp2
    go_returns
    exact ⟨by rw [E1.out hE]; rfl, by rw [E1.out hE]; exact HD4.out, u5.mono (fun _ _ h => h.elim)⟩
set_option maxHeartbeats 2000000 in
theorem remove_any {w : World} {g b : Nat} {d : Dk} (h : DK w g b d) (hd : d.ok) (name : ByteArray) :
    Calls Try.prog 23 #[.pointer (some ⟨g, 0, none⟩), .string name] w fun e w' => e = .returned (.int .i64 (removeR d name).2) ∧ DK w' g b (removeR d name).1 ∧ Upd w w' (fun i => i = g ∨ i = b) := by
  have hlg := h.blk.lt
  have hlb := h.mp.lt
  have bd := Blk.new w #[.pointer (some ⟨g, 0, none⟩)] 25
  have bn := Blk.new (w.alloc (.cells #[.pointer (some ⟨g, 0, none⟩)] 25)) #[.string name] 9
  rw [show (w.alloc (.cells #[.pointer (some ⟨g, 0, none⟩)] 25)).heap.size = w.heap.size + 1 by simp] at bn
  have bd := bd.alloc (.cells #[.string name] 9)
  have u0 : Upd w ((w.alloc (.cells #[.pointer (some ⟨g, 0, none⟩)] 25)).alloc (.cells #[.string name] 9)) Nope := ((Upd.refl w _).alloc _).alloc _
  have h0 := h.nn u0
  have hsz : ((w.alloc (.cells #[.pointer (some ⟨g, 0, none⟩)] 25)).alloc (.cells #[.string name] 9)).heap.size = w.heap.size + 2 := by simp
  have hF := find_any h0 name (owns_nil _) (Nat.zero_le _) (by simp) (fun k hk => by simp [Value.ownBlock] at hk)
  have hz := fun e => findR_zero (d := d) (l := []) (name := name) e
  have e1 : (findR d [] name).2 ≠ 0 → removeR d name = (d, (findR d [] name).2) := fun e => by unfold removeR; rw [if_neg e]
  have e2 : (findR d [] name).2 = 0 → removeR d name = changeR d false (del name d.L) := fun e => by unfold removeR; rw [if_pos e]
  generalize removeR d name = R at e1 e2 ⊢
  generalize findR d [] name = fr at hF hz e1 e2
  obtain ⟨fo, E⟩ := fr
  simp only at hF hz e1 e2
  have HFi := Lib.hid hF
  have H0 := Lib.hid h0
  have E1 := Lib.hid e1
  have E2 := Lib.hid e2
  have HZ := Lib.hid hz
  have HD := Lib.hid hd
  have HBD := Lib.hid bd
  have HBN := Lib.hid bn
  clear hF h0 e1 e2 hz hd bd bn h
  go_enter Try.func23, Try.ntmps23
  go_upto_region 2 with (go_at_call 30; refine HFi.out.mono ?_; rintro e w3 ⟨rfl, hu3⟩)
  have hu3' : Upd ((w.alloc (.cells #[.pointer (some ⟨g, 0, none⟩)] 25)).alloc (.cells #[.string name] 9)) w3 Nope := hu3.mono (fun k _ h => by simp [Value.ownBlock] at h)
  have hdx := H0.out.nn hu3'
  have xd : w3.cell? ⟨w.heap.size, 0, none⟩ = some (.pointer (some ⟨g, 0, none⟩)) := ((HBD.out.upd hu3' id).cell 0).trans rfl
  have xn : w3.cell? ⟨w.heap.size + 1, 0, none⟩ = some (.string name) := ((HBN.out.upd hu3' id).cell 0).trans rfl
  have l3 : w.heap.size + 2 ≤ w3.heap.size := by have := hu3'.size; omega
  have u3 : Upd w w3 Nope := u0.nn hu3'
  have hb4 := Blk.new w3 #[.string fo.s, .int .i64 fo.n] 57
  have hd4 : DK (w3.alloc (.cells #[.string fo.s, .int .i64 fo.n] 57)) g b d := hdx.nn ((Upd.refl w3 _).alloc _)
  have u4 : Upd w3 (w3.alloc (.cells #[.string fo.s, .int .i64 fo.n] 57)) Nope := (Upd.refl w3 _).alloc _
  have xd := u4.cell xd id
  have xn := u4.cell xn id
  have u5 := u3.nn u4
  have nd : w.heap.size ≠ b := by omega
  have nn : w.heap.size + 1 ≠ b := by omega
  have ndg : w.heap.size ≠ g := by omega
  have nng : w.heap.size + 1 ≠ g := by omega
  have nf : w3.heap.size ≠ b := by omega
  have nfg : w3.heap.size ≠ g := by omega
  clear HBD HBN H0 HFi hu3 hu3' u0 u3 u4 hdx l3 hsz hlg hlb
  generalize w3.alloc (.cells #[.string fo.s, .int .i64 fo.n] 57) = w4 at hb4 hd4 xd xn u5 ⊢
  generalize w3.heap.size = qf at hb4 nf nfg ⊢
  generalize w.heap.size + 1 = qn at xn nn nng ⊢
  generalize w.heap.size = qd at xd nd ndg ⊢
  by_cases hE : E = 0
  · subst hE
    obtain ⟨hn1, hl1, hlk⟩ := HZ.out rfl
    have hn := nameOk_max hn1
    have fok : fo.ok := HD.out.fs _ (look_mem hlk)
    have y0 : w4.cell? ⟨qf, 0, none⟩ = some (.string fo.s) := (hb4.cell 0).trans rfl
    have y1 : w4.cell? ⟨qf, 1, none⟩ = some (.int .i64 fo.n) := (hb4.cell 1).trans rfl
    have hC := change_any hd4 false (del name d.L) HD.out (del_ok HD.out.fs name) 33 #[.pointer (some ⟨qd, 0, none⟩), .pointer (some ⟨qn, 0, none⟩)] (fun w => by rfl) (fun w1 h1 hu1 => clo_remove h1 (hu1.cell xd ndg) (hu1.cell xn nng) hn)
    have HC := Lib.hid hC
    clear hC hd4 hb4 hlk
    go_wp2_with fail
    refine HC.out.mono ?_
    rintro e w6 ⟨rfl, hd6, hu6⟩
    have H6 := Lib.hid hd6
    clear hd6
    go_wp2
    go_ret
    exact ⟨by rw [E2.out (by simp)]; rfl, by rw [E2.out (by simp)]; exact H6.out, (u5.mono (fun _ _ h => h.elim)).then_ hu6⟩
  · have hE' : (E == 0) = false := by simpa using hE
    have HD4 := Lib.hid hd4
    clear hd4 hb4
    go_wp2
    go_returns
    exact ⟨by rw [E1.out hE]; rfl, by rw [E1.out hE]; exact HD4.out, u5.mono (fun _ _ h => h.elim)⟩
set_option maxHeartbeats 2000000 in
theorem rename_any {w : World} {g b : Nat} {d : Dk} (h : DK w g b d) (hd : d.ok) (name tn : ByteArray) :
    Calls Try.prog 20 #[.pointer (some ⟨g, 0, none⟩), .string name, .string tn] w fun e w' => e = .returned (.int .i64 (renameR d name tn).2) ∧ DK w' g b (renameR d name tn).1 ∧ Upd w w' (fun i => i = g ∨ i = b) := by
  have hlg := h.blk.lt
  have hlb := h.mp.lt
  have bd := Blk.new w #[.pointer (some ⟨g, 0, none⟩)] 25
  have bn := Blk.new (w.alloc (.cells #[.pointer (some ⟨g, 0, none⟩)] 25)) #[.string name] 9
  rw [show (w.alloc (.cells #[.pointer (some ⟨g, 0, none⟩)] 25)).heap.size = w.heap.size + 1 by simp] at bn
  have bt := Blk.new ((w.alloc (.cells #[.pointer (some ⟨g, 0, none⟩)] 25)).alloc (.cells #[.string name] 9)) #[.string tn] 9
  rw [show ((w.alloc (.cells #[.pointer (some ⟨g, 0, none⟩)] 25)).alloc (.cells #[.string name] 9)).heap.size = w.heap.size + 1 + 1 by simp] at bt
  have bl := Blk.new (((w.alloc (.cells #[.pointer (some ⟨g, 0, none⟩)] 25)).alloc (.cells #[.string name] 9)).alloc (.cells #[.string tn] 9)) #[.string tn] 9
  rw [show (((w.alloc (.cells #[.pointer (some ⟨g, 0, none⟩)] 25)).alloc (.cells #[.string name] 9)).alloc (.cells #[.string tn] 9)).heap.size = w.heap.size + 1 + 1 + 1 by simp] at bl
  have bd := ((bd.alloc (.cells #[.string name] 9)).alloc (.cells #[.string tn] 9)).alloc (.cells #[.string tn] 9)
  have bn := (bn.alloc (.cells #[.string tn] 9)).alloc (.cells #[.string tn] 9)
  have bt := bt.alloc (.cells #[.string tn] 9)
  have u0 : Upd w ((((w.alloc (.cells #[.pointer (some ⟨g, 0, none⟩)] 25)).alloc (.cells #[.string name] 9)).alloc (.cells #[.string tn] 9)).alloc (.cells #[.string tn] 9)) Nope := ((((Upd.refl w _).alloc _).alloc _).alloc _).alloc _
  have h0 := h.nn u0
  have hsz : ((((w.alloc (.cells #[.pointer (some ⟨g, 0, none⟩)] 25)).alloc (.cells #[.string name] 9)).alloc (.cells #[.string tn] 9)).alloc (.cells #[.string tn] 9)).heap.size = w.heap.size + 4 := by simp
  have hown : ((((w.alloc (.cells #[.pointer (some ⟨g, 0, none⟩)] 25)).alloc (.cells #[.string name] 9)).alloc (.cells #[.string tn] 9)).alloc (.cells #[.string tn] 9)).ownsRow (w.heap.size + 1 + 1 + 1) 9 1 (.slice (some ⟨w.heap.size + 1 + 1 + 1, 0, none⟩) 1 1) [tn].length ([tn].map Value.string) := ⟨by simp, .inr ⟨w.heap.size + 1 + 1 + 1, 1, #[.string tn], rfl, Nat.le_refl _, bl, by simp, by simp [maxLen], by simp, by simp⟩⟩
  have hF := find_any h0 name hown (by omega) (by simp) (fun k hk => by simp [Value.ownBlock] at hk; omega)
  have hz := fun e => findR_zero (d := d) (l := [tn]) (name := name) e
  have e1 : (findR d [tn] name).2 ≠ 0 → renameR d name tn = (d, (findR d [tn] name).2) := fun e => by unfold renameR; rw [if_neg e]
  have e2 : (findR d [tn] name).2 = 0 → renameR d name tn = changeR d false (put tn (findR d [tn] name).1 (del name d.L)) := fun e => by unfold renameR; rw [if_pos e]
  generalize renameR d name tn = R at e1 e2 ⊢
  generalize findR d [tn] name = fr at hF hz e1 e2
  obtain ⟨fo, E⟩ := fr
  simp only at hF hz e1 e2
  have HFi := Lib.hid hF
  have H0 := Lib.hid h0
  have E1 := Lib.hid e1
  have E2 := Lib.hid e2
  have HZ := Lib.hid hz
  have HD := Lib.hid hd
  have HBD := Lib.hid bd
  have HBN := Lib.hid bn
  have HBT := Lib.hid bt
  clear hF h0 e1 e2 hz hd bd bn h bt bl hown
  go_enter Try.func20, Try.ntmps20
  go_upto_region 2 with (go_at_call 30; refine HFi.out.mono ?_; rintro e w3 ⟨rfl, hu3⟩)
  have hdx : DK w3 g b d := H0.out.upd hu3 (by simp only [Value.ownBlock, Option.map_some, Option.some.injEq]; omega) (by simp only [Value.ownBlock, Option.map_some, Option.some.injEq]; omega)
  have xd : w3.cell? ⟨w.heap.size, 0, none⟩ = some (.pointer (some ⟨g, 0, none⟩)) := ((HBD.out.upd hu3 (by simp only [Value.ownBlock, Option.map_some, Option.some.injEq]; omega)).cell 0).trans rfl
  have xn : w3.cell? ⟨w.heap.size + 1, 0, none⟩ = some (.string name) := ((HBN.out.upd hu3 (by simp only [Value.ownBlock, Option.map_some, Option.some.injEq]; omega)).cell 0).trans rfl
  have xt : w3.cell? ⟨w.heap.size + 1 + 1, 0, none⟩ = some (.string tn) := ((HBT.out.upd hu3 (by simp only [Value.ownBlock, Option.map_some, Option.some.injEq]; omega)).cell 0).trans rfl
  have l3 : w.heap.size + 4 ≤ w3.heap.size := by have := hu3.size; omega
  have u3 : Upd w w3 Nope := u0.trans hu3 (fun _ _ h => h) (fun i hi h => by simp [Value.ownBlock] at h; omega)
  have hb4 := Blk.new w3 #[.string fo.s, .int .i64 fo.n] 57
  have hd4 : DK (w3.alloc (.cells #[.string fo.s, .int .i64 fo.n] 57)) g b d := hdx.nn ((Upd.refl w3 _).alloc _)
  have u4 : Upd w3 (w3.alloc (.cells #[.string fo.s, .int .i64 fo.n] 57)) Nope := (Upd.refl w3 _).alloc _
  have xd := u4.cell xd id
  have xn := u4.cell xn id
  have xt := u4.cell xt id
  have u5 := u3.nn u4
  have nd : w.heap.size ≠ b := by omega
  have nn : w.heap.size + 1 ≠ b := by omega
  have ndg : w.heap.size ≠ g := by omega
  have nng : w.heap.size + 1 ≠ g := by omega
  have nt : w.heap.size + 1 + 1 ≠ b := by omega
  have ntg : w.heap.size + 1 + 1 ≠ g := by omega
  have nf : w3.heap.size ≠ b := by omega
  have nfg : w3.heap.size ≠ g := by omega
  clear HBD HBN H0 HFi hu3 u0 u3 u4 hdx l3 hsz HBT hlg hlb
  generalize w3.alloc (.cells #[.string fo.s, .int .i64 fo.n] 57) = w4 at hb4 hd4 xd xn xt u5 ⊢
  generalize w3.heap.size = qf at hb4 nf nfg ⊢
  generalize w.heap.size + 1 + 1 = qt at xt nt ntg ⊢
  generalize w.heap.size + 1 = qn at xn nn nng ⊢
  generalize w.heap.size = qd at xd nd ndg ⊢
  by_cases hE : E = 0
  · subst hE
    obtain ⟨hn1, hl1, hlk⟩ := HZ.out rfl
    have hn := nameOk_max hn1
    have htn := nameOk_max (hl1 tn (by simp))
    have fok : fo.ok := HD.out.fs _ (look_mem hlk)
    have y0 : w4.cell? ⟨qf, 0, none⟩ = some (.string fo.s) := (hb4.cell 0).trans rfl
    have y1 : w4.cell? ⟨qf, 1, none⟩ = some (.int .i64 fo.n) := (hb4.cell 1).trans rfl
    have hC := change_any hd4 false (put tn fo (del name d.L)) HD.out (put_ok (del_ok HD.out.fs name) tn fok) 32 #[.pointer (some ⟨qd, 0, none⟩), .pointer (some ⟨qn, 0, none⟩), .pointer (some ⟨qf, 0, none⟩), .pointer (some ⟨qt, 0, none⟩)] (fun w => by rfl) (fun w1 h1 hu1 => clo_rename h1 (hu1.cell xd ndg) (hu1.cell xn nng) hn (hu1.cell y0 nfg) (hu1.cell y1 nfg) (hu1.cell xt ntg) htn nd nt nf)
    have HC := Lib.hid hC
    clear hC hd4 hb4 hlk
    go_wp2_with fail
    refine HC.out.mono ?_
    rintro e w6 ⟨rfl, hd6, hu6⟩
    have H6 := Lib.hid hd6
    clear hd6
    go_wp2
    go_ret
    exact ⟨by rw [E2.out (by simp)]; rfl, by rw [E2.out (by simp)]; exact H6.out, (u5.mono (fun _ _ h => h.elim)).then_ hu6⟩
  · have hE' : (E == 0) = false := by simpa using hE
    have HD4 := Lib.hid hd4
    clear hd4 hb4
    go_wp2
    go_returns
    exact ⟨by rw [E1.out hE]; rfl, by rw [E1.out hE]; exact HD4.out, u5.mono (fun _ _ h => h.elim)⟩
end Go.Proofs.Ytkglcgekpgcdpaa
