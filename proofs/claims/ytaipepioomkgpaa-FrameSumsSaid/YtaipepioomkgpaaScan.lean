/- The contract of frame.Scan. -/
import Derived.Test.YtaipepioomkgpaaOne
set_option linter.unusedVariables false
set_option linter.unusedSimpArgs false
namespace Go.Proofs.Ytaipepioomkgpaa
open Go.RowKit

/-- The length of the record at the front, if a frame stands there. -/
def frontOf (t : List UInt8) : Option Nat :=
  if t.length < 10 then none else if headOk t = false then none else if t.length < lenOf t + 10 then none else if bodyOk t = false then none else some (lenOf t)
theorem frontOf_some {t : List UInt8} {n : Nat} (h : frontOf t = some n) : 10 ≤ t.length ∧ headOk t = true ∧ n = lenOf t ∧ n + 10 ≤ t.length ∧ bodyOk t = true := by
  unfold frontOf at h
  split at h
  · cases h
  · split at h
    · cases h
    · split at h
      · cases h
      · split at h
        · cases h
        · injection h with h
          subst h
          rename_i h1 h2 h3 h4
          exact ⟨by omega, by simpa using h2, rfl, by omega, by simpa using h4⟩
theorem frontOf_none {t : List UInt8} (h : frontOf t = none) : t.length < 10 ∨ (10 ≤ t.length ∧ headOk t = false) ∨ (10 ≤ t.length ∧ headOk t = true ∧ (t.length < lenOf t + 10 ∨ bodyOk t = false)) := by
  unfold frontOf at h
  by_cases h1 : t.length < 10
  · exact .inl h1
  · rw [if_neg h1] at h
    by_cases h2 : headOk t = false
    · exact .inr (.inl ⟨by omega, h2⟩)
    · rw [if_neg h2] at h
      refine .inr (.inr ⟨by omega, by simpa using h2, ?_⟩)
      by_cases h3 : t.length < lenOf t + 10
      · exact .inl h3
      · rw [if_neg h3] at h
        by_cases h4 : bodyOk t = false
        · exact .inr h4
        · rw [if_neg h4] at h
          cases h

/-- The records of the frames at the front, and how many bytes these have. -/
def scanL (t : List UInt8) : List (List UInt8) × Nat :=
  match h : frontOf t with
  | none => ([], 0)
  | some n => ((t.drop 6).take n :: (scanL (t.drop (n + 10))).1, n + 10 + (scanL (t.drop (n + 10))).2)
termination_by t.length
decreasing_by all_goals (have := frontOf_some h; simp; omega)

theorem scanL_none {t : List UInt8} (h : frontOf t = none) : scanL t = ([], 0) := by
  rw [scanL]; split
  · rfl
  · rename_i n h'; rw [h] at h'; cases h'
theorem scanL_some {t : List UInt8} {n : Nat} (h : frontOf t = some n) : scanL t = ((t.drop 6).take n :: (scanL (t.drop (n + 10))).1, n + 10 + (scanL (t.drop (n + 10))).2) := by
  rw [scanL]; split
  · rename_i h'; rw [h] at h'; cases h'
  · rename_i m h'; rw [h] at h'; injection h' with h'; subst h'; rfl

/-- As values of Go: each record a string. -/
def strs (l : List (List UInt8)) : List ByteArray := l.map fun x => ⟨x.toArray⟩

/-- What Scan answers. -/
def ScanPost (w : World) (s : ByteArray) (e : Ending) (w' : World) : Prop :=
  ∃ v, e = .returned (.tuple #[v, .int .i64 ((scanL s.data.toList).2 : Nat)]) ∧ w'.ownsRow w.heap.size 9 1 v (scanL s.data.toList).1.length ((strs (scanL s.data.toList).1).map Value.string) ∧ Upd w w' Nope

set_option maxHeartbeats 2000000 in
theorem scan_any (s : ByteArray) (w : World) (hs : s.size ≤ 1000000) : Calls Try.prog 12 #[.string s] w (ScanPost w s) := by
  go_enter Try.func12, Try.ntmps12
  go_wp2_with fail
  obtain ⟨B0, hB0⟩ : ∃ B0, B0 = w.heap.size := ⟨_, rfl⟩
  have hs0 : Blk (((w.alloc (.cells #[.string s] 9)).alloc (.cells #[.slice none 0 0] 22)).alloc (.cells #[.int .i64 0] 3)) w.heap.size #[.string s] 9 := ((Blk.new _ _ _).alloc _).alloc _
  have ho0 : Blk (((w.alloc (.cells #[.string s] 9)).alloc (.cells #[.slice none 0 0] 22)).alloc (.cells #[.int .i64 0] 3)) (w.heap.size + 1) #[.slice none 0 0] 22 := by
    have := (Blk.new (w.alloc (.cells #[.string s] 9)) #[.slice none 0 0] 22).alloc (.cells #[.int .i64 0] 3)
    simpa using this
  have ha0 : Blk (((w.alloc (.cells #[.string s] 9)).alloc (.cells #[.slice none 0 0] 22)).alloc (.cells #[.int .i64 0] 3)) (w.heap.size + 1 + 1) #[.int .i64 ((0 : Nat) : Int)] 3 := by
    have := Blk.new ((w.alloc (.cells #[.string s] 9)).alloc (.cells #[.slice none 0 0] 22)) #[.int .i64 0] 3
    simpa using this
  have hu0 : Upd w (((w.alloc (.cells #[.string s] 9)).alloc (.cells #[.slice none 0 0] 22)).alloc (.cells #[.int .i64 0] 3)) Nope := (((Upd.refl _ _).alloc _).alloc _).alloc _
  have hsz0 : w.heap.size ≤ (((w.alloc (.cells #[.string s] 9)).alloc (.cells #[.slice none 0 0] 22)).alloc (.cells #[.int .i64 0] 3)).heap.size := hu0.size
  generalize (((w.alloc (.cells #[.string s] 9)).alloc (.cells #[.slice none 0 0] 22)).alloc (.cells #[.int .i64 0] 3)) = w0 at hs0 ho0 ha0 hu0 hsz0 ⊢
  rw [← hB0] at hs0 ho0 ha0 ⊢
  have HB0 := Lib.hid hB0
  clear hB0
  obtain ⟨bs, hbs⟩ : ∃ b, b = B0 := ⟨_, rfl⟩
  obtain ⟨bo, hbo⟩ : ∃ b, b = B0 + 1 := ⟨_, rfl⟩
  obtain ⟨ba, hba⟩ : ∃ b, b = B0 + 1 + 1 := ⟨_, rfl⟩
  rw [← hba, ← hbo, ← hbs]
  rw [← hbs] at hs0
  rw [← hbo] at ho0
  rw [← hba] at ha0
  have q1 : B0 ≤ bs := by omega
  have q2 : B0 ≤ bo := by omega
  have q3 : B0 ≤ ba := by omega
  clear hbs hbo hba
  go_loopg [9] (s.size + 1) (fun kq _ wr => ∃ (a : Nat) (xs : List ByteArray) (v : Value), a ≤ s.size ∧ Blk wr bs #[.string s] 9 ∧ Blk wr bo #[v] 22 ∧ Blk wr ba #[.int .i64 (a : Int)] 3 ∧ wr.ownsRow B0 9 1 v xs.length (xs.map Value.string) ∧ v.ownBlock ≠ some bs ∧
    Hid (strs (scanL s.data.toList).1 = xs ++ strs (scanL (s.data.toList.drop a)).1 ∧ (scanL s.data.toList).2 = a + (scanL (s.data.toList.drop a)).2) ∧ xs.length ≤ a ∧ s.size - a < kq ∧ Upd w wr Nope)
  case atStart => exact ⟨0, [], _, Nat.zero_le _, hs0, ho0, ha0, World.ownsRow_nil _ _ _ _, by simp [Value.ownBlock], Lib.hid ⟨by simp, by simp⟩, by simp, by omega, hu0⟩
  case round =>
    clear hs0 ho0 ha0 hu0
    obtain ⟨a, xs, v, ha, hs1, ho1, ha1, hown, hne, HP, hxa, hka, hu⟩ := hrel
    have c0 : wr.cell? ⟨bs, 0, none⟩ = some (.string s) := (hs1.cell 0).trans rfl
    have c1 : wr.cell? ⟨ba, 0, none⟩ = some (.int .i64 (a : Int)) := (ha1.cell 0).trans rfl
    obtain ⟨t, ht⟩ : ∃ t, s.extract a s.size = t := ⟨_, rfl⟩
    have htl : t.data.toList = s.data.toList.drop a := by rw [← ht, ext_list]; exact List.take_of_length_le (by simp)
    have hts : t.size = s.size - a := by rw [← ht]; simp
    have htn : t.data.toList.length = t.size := by simp
    have hB := hu.size
    cases hf : frontOf t.data.toList with
    | none =>
      have hcall : Calls Try.prog 23 #[.pointer (some ⟨bs, 0, none⟩), .pointer (some ⟨ba, 0, none⟩), .pointer (some ⟨bo, 0, none⟩)] wr fun e w' => e = .returned (.bool false) ∧ Upd wr w' Nope := by
        rcases frontOf_none hf with h | ⟨h, h'⟩ | ⟨h, h', h''⟩
        · exact one_short s t a bs ba bo wr c0 c1 ha (by omega) ht (by omega)
        · exact one_head s t a bs ba bo wr c0 c1 ha (by omega) ht (by omega) (by omega) h'
        · exact one_body s t a bs ba bo wr c0 c1 ha (by omega) ht (by omega) (by omega) h' (by rw [← htn]; exact h'')
      have hsc := scanL_none hf
      have HC := Lib.hid hcall
      have HS := Lib.hid hsc
      have HT := Lib.hid htl
      clear hcall hsc htl hf c0 c1 ht hts htn
      go_wp2_with fail
      refine HC.out.mono ?_
      rintro e w2 ⟨rfl, hu2⟩
      have ho2 := ho1.upd hu2 id
      have ha2 := ha1.upd hu2 id
      have co : w2.cell? ⟨bo, 0, none⟩ = some v := (ho2.cell 0).trans rfl
      have ca : w2.cell? ⟨ba, 0, none⟩ = some (.int .i64 (a : Int)) := (ha2.cell 0).trans rfl
      have hown2 : w2.ownsRow B0 9 1 v xs.length (xs.map Value.string) := hown.kept (row := none) ⟨hu2.os, hu2.tape, hu2.output, hu2.size, fun k hk _ => hu2.block k hk id⟩ (by cases v.ownBlock <;> simp)
      have hp := HP.out
      rw [← HT.out, HS.out] at hp
      simp only [strs, List.map_nil, List.append_nil, Nat.add_zero] at hp
      have HP2 := Lib.hid hp
      clear hp HP
      go_wp2_with fail
      repeat (go_quiet (fail); try go_wp2)
      go_ret2
      have h1 := HP2.out.1
      have hlen : xs.length = (scanL s.data.toList).1.length := by rw [← h1]; simp
      refine ⟨v, ?_, ?_, (hu.nn hu2).drewN _⟩
      · rw [HP2.out.2]; rfl
      · rw [← hlen, ← HB0.out]
        unfold strs
        rw [h1]
        exact hown2
    | some n =>
      obtain ⟨f1, f2, f3, f4, f5⟩ := frontOf_some hf
      have hcall := one_yes s t a bs ba bo B0 v xs wr c0 ha1 ho1 hown (by have := HB0.out; omega) (by omega) ha (by omega) ht (by omega) (by omega) f2 (by omega) f5
      rw [← f3] at hcall
      have hsc := scanL_some hf
      have hdd : (s.data.toList.drop a).drop (n + 10) = s.data.toList.drop (a + (n + 10)) := List.drop_drop ..
      rw [htl, hdd] at hsc
      have hrec : (t.extract 6 (6 + n)).data.toList = ((s.data.toList.drop a).drop 6).take n := by rw [ext_list, htl]; congr 1; omega
      have HC := Lib.hid hcall
      have HS := Lib.hid hsc
      have HR := Lib.hid hrec
      generalize t.extract 6 (6 + n) = rr at HC HR
      have b1 : a + n + 10 ≤ s.size := by omega
      clear hcall hsc hrec htl hf c0 c1 ht hts htn f1 f2 f3 f4 f5
      have hlt := hs1.lt
      go_wp2_with fail
      refine HC.out.mono ?_
      rintro e w2 ⟨rfl, hpost⟩
      obtain ⟨g, cap, hA, hO, hW, hloc, hU⟩ := hpost
      have hs2 := hs1.upd hU (fun h => by
        rcases h with h | h | h
        · exact Blk.ne hs1 ha1 (by decide) h
        · exact Blk.ne hs1 ho1 (by decide) h
        · exact hne h)
      have hne2 : (Value.slice (some ⟨g, 0, none⟩) (xs.length + 1) cap).ownBlock ≠ some bs := by
        intro e
        simp [Value.ownBlock] at e
        rcases hloc with h | h
        · exact hne (by rw [h, e])
        · omega
      have hU2 : Upd w w2 Nope := hu.trans hU (fun _ _ h => h) (fun i hi h => by
        have := HB0.out
        rcases h with h | h | h
        · omega
        · omega
        · have := (hown.lt i h).1; omega)
      have hp := HP.out
      rw [HS.out] at hp
      have hp2 : strs (scanL s.data.toList).1 = (xs ++ [rr]) ++ strs (scanL (s.data.toList.drop (a + (n + 10)))).1 ∧ (scanL s.data.toList).2 = (a + (n + 10)) + (scanL (s.data.toList.drop (a + (n + 10)))).2 := by
        refine ⟨?_, by have := hp.2; simp only at this; omega⟩
        have e1 : rr = ⟨(((s.data.toList.drop a).drop 6).take n).toArray⟩ := by
          rw [← HR.out]
        have h1 := hp.1
        simp only [strs, List.map_cons] at h1 ⊢
        rw [h1, e1]
        simp
      have HP2 := Lib.hid hp2
      clear hp hp2 HP
      go_wp2
      cases gk with
      | zero => omega
      | succ gk =>
        go_roundg gk
        case measure => omega
        case rel => exact ⟨a + (n + 10), xs ++ [rr], _, by omega, hs2, hO, hA, by simpa using hW, hne2, HP2, by simp; omega, by omega, hU2⟩
end Go.Proofs.Ytaipepioomkgpaa
