/- The queue, as it lies; what its methods do that change nothing. -/
import Derived.Test.YthpilbooolgkiaaFre
import Derived.Test.YthpilbooolgkiaaStd
set_option linter.unusedVariables false
set_option linter.unusedSimpArgs false
namespace Go.Proofs.Ythpilbooolgkiaa
open Go.RowKit

/-- The cells of a queue. -/
def rcs (age limit room : Int) (A : Option Addr) (n cap b : Nat) : Array Value := #[.int .i64 age, .int .i64 limit, .int .i64 room, .slice A n cap, .map (some b)]
/-- A queue at g, its blocks F. -/
structure RO (w : World) (g : Nat) (F : Nat → Prop) (age limit room : Int) (l : List En) (fly : List (Int × ByteArray)) : Prop where
  out : ∃ A cap b, Blk w g (rcs age limit room A l.length cap b) 67 ∧ SL w A cap l ∧ Mp MS w b fly ∧ (∀ k, F k ↔ k = g ∨ k = b ∨ ∃ ad, A = some ad ∧ k = ad.block) ∧ b ≠ g ∧ ∀ ad, A = some ad → ad.block ≠ g ∧ ad.block ≠ b
  ok : ∀ e ∈ l, e.ok
section
variable {w w' : World} {g : Nat} {F : Nat → Prop} {age limit room : Int} {l : List En} {fly : List (Int × ByteArray)} (h : RO w g F age limit room l fly)
include h
omit h in
theorem SL.upd {w w' : World} {A : Option Addr} {cap : Nat} {l : List En} {G : Nat → Prop} (h : SL w A cap l) (u : Upd w w' G) (hA : ∀ ad, A = some ad → ¬ G ad.block) : SL w' A cap l := by
  rcases h with h | ⟨q, rfl, hA'⟩
  · exact .inl h
  · exact .inr ⟨q, rfl, hA'.upd u (hA _ rfl)⟩
theorem RO.apart {G : Nat → Prop} (u : Upd w w' G) (hd : ∀ i, F i → ¬ G i) : RO w' g F age limit room l fly := by
  obtain ⟨A, cap, b, h1, h2, h3, h4, h5, h6⟩ := h.out
  exact ⟨⟨A, cap, b, h1.upd u (hd g ((h4 g).2 (.inl rfl))), h2.upd u (fun ad e => hd _ ((h4 _).2 (.inr (.inr ⟨ad, e, rfl⟩)))), h3.upd u (hd b ((h4 b).2 (.inr (.inl rfl)))), h4, h5, h6⟩, h.ok⟩
theorem RO.nn (u : Upd w w' Nope) : RO w' g F age limit room l fly := h.apart u (fun _ _ h => h)
theorem RO.len_ (hl : l.length ≤ 5000) : Calls Try.prog 23 #[.pointer (some ⟨g, 0, none⟩)] w fun e w' => e = .returned (.int .i64 l.length) ∧ w' = w := by
  obtain ⟨A, cap, b, h1, _⟩ := h.out
  have c3 : w.cell? ⟨g, 3, none⟩ = some (.slice A l.length cap) := (h1.cell 3).trans rfl
  clear h h1
  go_enter Try.func23, Try.ntmps23
  go_wp2
  go_ret
  exact ⟨rfl, rfl⟩
theorem RO.flying_ (d : ByteArray) (hl : fly.length ≤ 5000) : Calls Try.prog 24 #[.pointer (some ⟨g, 0, none⟩), .string d] w fun r w' => r = .returned (.int .i64 (cntD d fly)) ∧ Upd w w' Nope := by
  obtain ⟨A, cap, b, h1, _, h3, _⟩ := h.out
  exact flying_any w g b fly d ((h1.cell 4).trans rfl) h3 hl
theorem RO.at_ (id : Int) (hl : l.length ≤ 5000) : Calls Try.prog 28 #[.pointer (some ⟨g, 0, none⟩), .int .i64 id] w fun r w' => r = .returned (.int .i64 (posOf (fun e => e.id == id) l)) ∧ Upd w w' Nope := by
  obtain ⟨A, cap, b, h1, h2, _⟩ := h.out
  exact at_any w g A cap l ((h1.cell 3).trans rfl) h2 hl id
theorem RO.sorted_ (now : Int) (hl : l.length ≤ 1000) (h1 : -2199023255552 ≤ now) (h2 : now ≤ 2199023255552) (h3 : 1 ≤ age) (h4 : age ≤ 1048576) : Calls Try.prog 31 #[.pointer (some ⟨g, 0, none⟩), .int .i64 now] w (SortedP w l now age) := by
  obtain ⟨A, cap, b, k1, k2, _⟩ := h.out
  exact sorted_any w g now age A cap l ((k1.cell 0).trans rfl) ((k1.cell 3).trans rfl) k2 hl h.ok h1 h2 h3 h4
end
end Go.Proofs.Ythpilbooolgkiaa
