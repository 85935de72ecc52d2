/- Scripts of acts: Few, does. -/
import Derived.Test.YtkglcgekpgcdpaaRows5
import Derived.Test.YtkglcgekpgcdpaaDoe
import Derived.Test.YtkglcgekpgcdpaaNames
set_option linter.unusedVariables false
set_option linter.unusedSimpArgs false
set_option linter.unusedSectionVars false
namespace Go.Proofs.Ytkglcgekpgcdpaa
open Go.RowKit

structure Ac where
  k : Int
  n : ByteArray
  s : ByteArray
  ca : Int
  ck : Int
def Ac.cs (a : Ac) : List Value := [.int .i64 a.k, .string a.n, .string a.s, .int .i64 a.ca, .int .i64 a.ck]
def Ac.ok (a : Ac) : Prop := (-9223372036854775808 ≤ a.ck ∧ a.ck ≤ 9223372036854775807) ∧ a.n.size ≤ maxLen ∧ a.s.size ≤ maxLen
def shortA (a : Ac) : Bool := decide (a.n.size ≤ 100) && decide (a.s.size ≤ 2000)
def fewR (l : List Ac) : Bool := decide (l.length ≤ 200) && l.all shortA
abbrev RdA (w : World) (A : Option Addr) (l : List Ac) : Prop := RdS 5 Ac.cs w A l
theorem few_of {l : List Ac} (h : fewR l = true) : l.length ≤ 200 ∧ ∀ a ∈ l, a.n.size ≤ 100 ∧ a.s.size ≤ 2000 := by
  simpa [fewR, shortA] using h
theorem few_not {l : List Ac} {k : Nat} (hk : k < l.length) (h : 200 ≤ k ∨ shortA (l[k]'hk) = false) : fewR l = false := by
  cases hf : fewR l with
  | false => rfl
  | true =>
    have h1 : l.length ≤ 200 ∧ ∀ a ∈ l, shortA a = true := by simpa [fewR] using hf
    rcases h with h | h
    · omega
    · rw [h1.2 _ (List.getElem_mem hk)] at h
      cases h

set_option maxHeartbeats 1000000 in
theorem few_any {w : World} {A : Option Addr} {cap : Nat} {l : List Ac} (h : RdA w A l) (hl : l.length ≤ maxLen) :
    Calls Try.prog 8 #[.slice A l.length cap] w fun e w' => e = .returned (.bool (fewR l)) ∧ w' = w := by
  unfold maxLen at hl
  have HR := Lib.hid h
  clear h
  go_enter Try.func8, Try.ntmps8
  go_wp2_with fail
  go_loop [3] (fun i => ∃ k : Nat, k ≤ l.length ∧ i = .int .i64 k ∧ k ≤ 200 ∧ (l.take k).all shortA = true) (fun i => l.length - (intOf i).toNat)
  case atStart => exact ⟨0, Nat.zero_le _, rfl, by omega, by simp⟩
  case round =>
    obtain ⟨k, hk, rfl, hk2, hall⟩ := hrel
    by_cases hlt : k < l.length
    · obtain ⟨ad, rfl, hcs⟩ := HR.out k hlt
      have c1 := HR.out.fs hlt 0 rfl
      have c2 := HR.out.fs hlt 1 rfl
      simp only [Nat.zero_add, Nat.reduceAdd] at c1 c2
      have hno := fun h => few_not hlt h
      have hsn : l.take (k + 1) = l.take k ++ [l[k]] := by rw [List.take_add_one, List.getElem?_eq_getElem hlt]; rfl
      clear hcs
      generalize l[k] = x at c1 c2 hno hsn
      have HN := Lib.hid hno
      have HS := Lib.hid hsn
      have HA := Lib.hid hall
      clear hno hsn hall
      by_cases h0 : 200 ≤ k
      · have d0 : decide (200 ≤ (k : Int)) = true := by simp; omega
        have e0 := HN.out (.inl h0)
        have E0 := Lib.hid e0
        clear e0
        go_wp2
        go_returns
        exact ⟨by rw [E0.out]; rfl, rfl⟩
      have d0 : decide (200 ≤ (k : Int)) = false := by simp; omega
      by_cases h1 : 100 < x.n.size
      · have d1 : decide (100 < (x.n.size : Int)) = true := by simp; omega
        have e0 := HN.out (.inr (by simp [shortA]; omega))
        have E0 := Lib.hid e0
        clear e0
        go_wp2
        go_returns
        exact ⟨by rw [E0.out]; rfl, rfl⟩
      have d1 : decide (100 < (x.n.size : Int)) = false := by simp; omega
      by_cases h2 : 2000 < x.s.size
      · have d2 : decide (2000 < (x.s.size : Int)) = true := by simp; omega
        have e0 := HN.out (.inr (by simp [shortA]; omega))
        have E0 := Lib.hid e0
        clear e0
        go_wp2
        go_returns
        exact ⟨by rw [E0.out]; rfl, rfl⟩
      have d2 : decide (2000 < (x.s.size : Int)) = false := by simp; omega
      have hs : shortA x = true := by simp [shortA]; omega
      have HX := Lib.hid hs
      clear hs
      go_wp2
      go_round
      case rel => exact ⟨k + 1, by omega, by go_num, by omega, by rw [HS.out, List.all_append, HA.out]; simp [HX.out]⟩
      case measure => simp [intOf]; omega
    · obtain rfl : k = l.length := by omega
      rw [List.take_length] at hall
      have hf : fewR l = true := by simp only [fewR, hall]; simpa using hk2
      have HF := Lib.hid hf
      clear hf hall
      go_wp2
      go_ret
      exact ⟨by rw [HF.out]; rfl, rfl⟩
theorem doesR_0 (d : Dk) (n s : ByteArray) (ca ck : Int) : doesR d 0 n s ca ck = appendR d n s := rfl
theorem doesR_1 (d : Dk) (n s : ByteArray) (ca ck : Int) : doesR d 1 n s ca ck = syncR d n := rfl
theorem doesR_2 (d : Dk) (n s : ByteArray) (ca ck : Int) : doesR d 2 n s ca ck = renameR d n s := rfl
theorem doesR_3 (d : Dk) (n s : ByteArray) (ca ck : Int) : doesR d 3 n s ca ck = removeR d n := rfl
theorem doesR_4 (d : Dk) (n s : ByteArray) (ca ck : Int) : doesR d 4 n s ca ck = (armR d ca ck, 0) := rfl
theorem doesR_5 (d : Dk) (n s : ByteArray) (ca ck : Int) : doesR d 5 n s ca ck = (d.crash ck, 0) := rfl
theorem doesR_6 (d : Dk) (n s : ByteArray) (ca ck : Int) : doesR d 6 n s ca ck = (startR d, 0) := rfl
theorem doesR_n {k : Int} (h : k ≠ 0 ∧ k ≠ 1 ∧ k ≠ 2 ∧ k ≠ 3 ∧ k ≠ 4 ∧ k ≠ 5 ∧ k ≠ 6) (d : Dk) (n s : ByteArray) (ca ck : Int) : doesR d k n s ca ck = (d, 0) := by
  unfold doesR
  obtain ⟨h0, h1, h2, h3, h4, h5, h6⟩ := h
  rw [if_neg h0, if_neg h1, if_neg h2, if_neg h3, if_neg h4, if_neg h5, if_neg h6]

set_option maxHeartbeats 4000000 in
theorem does_any {w : World} {g b : Nat} {d : Dk} (h : DK w g b d) (hd : d.fit) (a : Ac) (ha : a.ok) (hs : a.s.size ≤ 2000) :
    Calls Try.prog 11 #[.pointer (some ⟨g, 0, none⟩), .agg #[.int .i64 a.k, .string a.n, .string a.s, .int .i64 a.ca, .int .i64 a.ck]] w fun e w' =>
      e = .returned (.int .i64 (doesR d a.k a.n a.s a.ca a.ck).2) ∧ DK w' g b (doesR d a.k a.n a.s a.ca a.ck).1 ∧ Upd w w' (fun i => i = g ∨ i = b) := by
  obtain ⟨k, n, s, ca, ck⟩ := a
  obtain ⟨hck, _, _⟩ := ha
  simp only at hck hs ⊢
  have u0 : Upd w (w.alloc (.cells #[.int .i64 k, .string n, .string s, .int .i64 ca, .int .i64 ck] 33)) (fun i => i = g ∨ i = b) := (Upd.refl w _).alloc _
  have hb0 := Blk.new w #[.int .i64 k, .string n, .string s, .int .i64 ca, .int .i64 ck] 33
  have h0 := h.nn ((Upd.refl w Nope).alloc (.cells #[.int .i64 k, .string n, .string s, .int .i64 ca, .int .i64 ck] 33))
  have U0 := Lib.hid u0
  have H0 := Lib.hid h0
  clear u0 h0 h hb0
  by_cases hk : k ≠ 0 ∧ k ≠ 1 ∧ k ≠ 2 ∧ k ≠ 3 ∧ k ≠ 4 ∧ k ≠ 5 ∧ k ≠ 6
  · rw [doesR_n hk]
    have b0 : (k == 0) = false := by simpa using hk.1
    have b1 : (k == 1) = false := by simpa using hk.2.1
    have b2 : (k == 2) = false := by simpa using hk.2.2.1
    have b3 : (k == 3) = false := by simpa using hk.2.2.2.1
    have b4 : (k == 4) = false := by simpa using hk.2.2.2.2.1
    have b5 : (k == 5) = false := by simpa using hk.2.2.2.2.2.1
    have b6 : (k == 6) = false := by simpa using hk.2.2.2.2.2.2
    clear hk
    go_enter Try.func11, Try.ntmps11
    go_wp2_with fail
    go_ret
    exact ⟨rfl, H0.out, U0.out⟩
  have hk' : k = 0 ∨ k = 1 ∨ k = 2 ∨ k = 3 ∨ k = 4 ∨ k = 5 ∨ k = 6 := by omega
  clear hk
  rcases hk' with rfl | rfl | rfl | rfl | rfl | rfl | rfl
  · rw [doesR_0]
    have hc := append_any H0.out hd n s (by omega)
    have HC := Lib.hid hc
    clear hc
    go_enter Try.func11, Try.ntmps11
    go_wp2_with fail
    refine HC.out.mono ?_
    rintro e w2 ⟨rfl, hd2, hu2⟩
    have H2 := Lib.hid hd2
    clear hd2
    go_wp2
    go_ret
    exact ⟨rfl, H2.out, U0.out.then_ hu2⟩
  · rw [doesR_1]
    have hc := sync_any H0.out hd.ok n
    have HC := Lib.hid hc
    clear hc
    go_enter Try.func11, Try.ntmps11
    go_wp2_with fail
    refine HC.out.mono ?_
    rintro e w2 ⟨rfl, hd2, hu2⟩
    have H2 := Lib.hid hd2
    clear hd2
    go_wp2
    go_ret
    exact ⟨rfl, H2.out, U0.out.then_ hu2⟩
  · rw [doesR_2]
    have hc := rename_any H0.out hd.ok n s
    have HC := Lib.hid hc
    clear hc
    go_enter Try.func11, Try.ntmps11
    go_wp2_with fail
    refine HC.out.mono ?_
    rintro e w2 ⟨rfl, hd2, hu2⟩
    have H2 := Lib.hid hd2
    clear hd2
    go_wp2
    go_ret
    exact ⟨rfl, H2.out, U0.out.then_ hu2⟩
  · rw [doesR_3]
    have hc := remove_any H0.out hd.ok n
    have HC := Lib.hid hc
    clear hc
    go_enter Try.func11, Try.ntmps11
    go_wp2_with fail
    refine HC.out.mono ?_
    rintro e w2 ⟨rfl, hd2, hu2⟩
    have H2 := Lib.hid hd2
    clear hd2
    go_wp2
    go_ret
    exact ⟨rfl, H2.out, U0.out.then_ hu2⟩
  · rw [doesR_4]
    have hc := arm_any H0.out ca ck
    have HC := Lib.hid hc
    clear hc
    go_enter Try.func11, Try.ntmps11
    go_wp2_with fail
    refine HC.out.mono ?_
    rintro e w2 ⟨rfl, hd2, hu2⟩
    have H2 := Lib.hid hd2
    clear hd2
    go_wp2
    go_ret
    exact ⟨rfl, H2.out, U0.out.then_ (hu2.mono (fun _ _ h => Or.inl h))⟩
  · rw [doesR_5]
    have hc := crash_any H0.out ck hd.ok.fs hck
    have HC := Lib.hid hc
    clear hc
    go_enter Try.func11, Try.ntmps11
    go_wp2_with fail
    refine HC.out.mono ?_
    rintro e w2 ⟨rfl, hd2, hu2⟩
    have H2 := Lib.hid hd2
    clear hd2
    go_wp2
    go_ret
    exact ⟨rfl, H2.out, U0.out.then_ hu2⟩
  · rw [doesR_6]
    have hc := start_any H0.out
    have HC := Lib.hid hc
    clear hc
    go_enter Try.func11, Try.ntmps11
    go_wp2_with fail
    refine HC.out.mono ?_
    rintro e w2 ⟨rfl, hd2, hu2⟩
    have H2 := Lib.hid hd2
    clear hd2
    go_wp2
    go_ret
    exact ⟨rfl, H2.out, U0.out.then_ (hu2.mono (fun _ _ h => Or.inl h))⟩
end Go.Proofs.Ytkglcgekpgcdpaa
