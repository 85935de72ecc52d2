/-
  No cell of these rows narrows 'for every input' (looked for: loops, veiled, ifaces, maps, wideKeys, modest, calm, conditions, laid).
  DERIVED. THE GIVEN ROWS OF THIS SEAT. 4 by the template 'for every input the law returns true; each argument reads behind the call as it read before'; 0 by the template 'total and deterministic' (their statements: YtojpgdhbfhdpoaaTotals.lean).
  GIVEN WITH THE SEED: the statements are not yours to turn. If you find one false, say at which input.
  Laid BY PROGRAM, IN A SANDBOX (cutbox-rows.mjs): the forced cells as the released guide's own fill.sh prints them over the translation 2f810cc3e68a729a… (all of the seat's roots in one cut). By AI agents, Wed Nov 11 2026. No macro, syntax, notation, axiom, sorry.
-/
import Derived.Test.YtojpgdhbfhdpoaaChecked
import GoSem.Claim
import GoSem.ClaimJoined
import GoSem.ClaimMapViews
import Derived.JoinedTies
import Derived.KernelRfl
namespace Go.Proofs.Ytojpgdhbfhdpoaa
/- THE CELL 'sum', in the pinned program and in every row, IS THE sha256 OF THE DUMP (.gsa) THAT YtojpgdhbfhdpoaaProg.lean LOADS. Nothing in Lean hashes anything: it is a label: what it is worth is what the hold of that sum in a sandbox is worth. -/
noncomputable def Try.pinned : Pinned := { name := "ytojpgdhbfhdpoaa", sum := "2f810cc3e68a729a8e9936af002687b08edb63597fdeaa6a78ac3b1c214f1092", checked := Try.checked }
namespace Rows
def none {H : Type} : Left H := { results := [], args := [] }

/-- 'duepostlaw12.ClockTells': WHATEVER THE INPUT: true; the input reads as it did. -/
def clockTellsSpec : ChangeSpec := { name := "clockTells", fn := fun _ => fun
  | [d1, d2, d3, d4] => { results := [.lit (.bool true)], args := [d1, d2, d3, d4] }
  | _ => none }
def clockTellsRow : OpenClaim := { program := "ytojpgdhbfhdpoaa", sum := "2f810cc3e68a729a8e9936af002687b08edb63597fdeaa6a78ac3b1c214f1092", func := "duepost/duepostlaw12.ClockTells", spec := "clockTells", unfollowed := true, recurses := true, apart := false }
def ClockTellsSaid : Prop := clockTellsRow.holds Try.pinned (OpenSpec.ofChange clockTellsSpec)

/-- ITS FALSE NEIGHBOUR: 'it returns false'. Refute it at one input. -/
def clockTellsWrong : ChangeSpec := { name := "clockTells", fn := fun _ => fun
  | [d1, d2, d3, d4] => { results := [.lit (.bool false)], args := [d1, d2, d3, d4] }
  | _ => none }
def ClockTellsWrongFalsely : Prop := clockTellsRow.holds Try.pinned (OpenSpec.ofChange clockTellsWrong)

/-- 'duepostlaw12.ClockRises': WHATEVER THE INPUT: true; the input reads as it did. -/
def clockRisesSpec : ChangeSpec := { name := "clockRises", fn := fun _ => fun
  | [d1, d2, d3] => { results := [.lit (.bool true)], args := [d1, d2, d3] }
  | _ => none }
def clockRisesRow : OpenClaim := { program := "ytojpgdhbfhdpoaa", sum := "2f810cc3e68a729a8e9936af002687b08edb63597fdeaa6a78ac3b1c214f1092", func := "duepost/duepostlaw12.ClockRises", spec := "clockRises", unfollowed := true, recurses := true, apart := false }
def ClockRisesSaid : Prop := clockRisesRow.holds Try.pinned (OpenSpec.ofChange clockRisesSpec)

/-- ITS FALSE NEIGHBOUR: 'it returns false'. Refute it at one input. -/
def clockRisesWrong : ChangeSpec := { name := "clockRises", fn := fun _ => fun
  | [d1, d2, d3] => { results := [.lit (.bool false)], args := [d1, d2, d3] }
  | _ => none }
def ClockRisesWrongFalsely : Prop := clockRisesRow.holds Try.pinned (OpenSpec.ofChange clockRisesWrong)

/-- 'duepostlaw12.ClockLasts': WHATEVER THE INPUT: true; the input reads as it did. -/
def clockLastsSpec : ChangeSpec := { name := "clockLasts", fn := fun _ => fun
  | [d1, d2] => { results := [.lit (.bool true)], args := [d1, d2] }
  | _ => none }
def clockLastsRow : OpenClaim := { program := "ytojpgdhbfhdpoaa", sum := "2f810cc3e68a729a8e9936af002687b08edb63597fdeaa6a78ac3b1c214f1092", func := "duepost/duepostlaw12.ClockLasts", spec := "clockLasts", unfollowed := true, recurses := true, apart := false }
def ClockLastsSaid : Prop := clockLastsRow.holds Try.pinned (OpenSpec.ofChange clockLastsSpec)

/-- ITS FALSE NEIGHBOUR: 'it returns false'. Refute it at one input. -/
def clockLastsWrong : ChangeSpec := { name := "clockLasts", fn := fun _ => fun
  | [d1, d2] => { results := [.lit (.bool false)], args := [d1, d2] }
  | _ => none }
def ClockLastsWrongFalsely : Prop := clockLastsRow.holds Try.pinned (OpenSpec.ofChange clockLastsWrong)

/-- 'duepostlaw12.ClockHolds': WHATEVER THE INPUT: true; the input reads as it did. -/
def clockHoldsSpec : ChangeSpec := { name := "clockHolds", fn := fun _ => fun
  | [d1, d2, d3] => { results := [.lit (.bool true)], args := [d1, d2, d3] }
  | _ => none }
def clockHoldsRow : OpenClaim := { program := "ytojpgdhbfhdpoaa", sum := "2f810cc3e68a729a8e9936af002687b08edb63597fdeaa6a78ac3b1c214f1092", func := "duepost/duepostlaw12.ClockHolds", spec := "clockHolds", unfollowed := true, recurses := true, apart := false }
def ClockHoldsSaid : Prop := clockHoldsRow.holds Try.pinned (OpenSpec.ofChange clockHoldsSpec)

/-- ITS FALSE NEIGHBOUR: 'it returns false'. Refute it at one input. -/
def clockHoldsWrong : ChangeSpec := { name := "clockHolds", fn := fun _ => fun
  | [d1, d2, d3] => { results := [.lit (.bool false)], args := [d1, d2, d3] }
  | _ => none }
def ClockHoldsWrongFalsely : Prop := clockHoldsRow.holds Try.pinned (OpenSpec.ofChange clockHoldsWrong)

/- THE SECOND FORM. 'bulk': how many values and letters a reading holds, each counted each time it is reached (what is shared counts as often as it is met; a slice's spare places count too). A statement '..UptoSaid' is the law's where the arguments, and the package variables that the reading takes, are together of bulk at most 1048576: NARROWER than '..Said'. Prove '..Said' where nothing that the law and all that it calls make is longer than what came in: it says more and counts as full. Else prove '..UptoSaid'. A law counts once. -/
mutual
def uptoBulk {H : Type} : DataW H → Nat
  | .lit (.string bytes) => bytes.length + 1
  | .lit _ => 1
  | .nil => 1
  | .ptr d => uptoBulk d + 1
  | .slice elems spare => uptoBulkAll elems + uptoBulkAll spare + 1
  | .agg parts => uptoBulkAll parts + 1
  | .iface _ d => uptoBulk d + 1
  | .map entries => uptoBulkEntries entries + 1
  | .held _ => 1
def uptoBulkAll {H : Type} : List (DataW H) → Nat
  | [] => 0
  | d :: r => uptoBulk d + uptoBulkAll r
def uptoBulkEntries {H : Type} : List (Lit × DataW H) → Nat
  | [] => 0
  | x :: r => uptoBulkEntry x + uptoBulkEntries r
def uptoBulkEntry {H : Type} : Lit × DataW H → Nat
  | (.string bytes, d) => bytes.length + uptoBulk d + 1
  | (_, d) => uptoBulk d + 1
 end
def uptoSmall : (H : Type) → List (DataW H) → Bool := fun _ ds => decide (uptoBulkAll ds ≤ 1048576)
def OpenSpec.upto (s : _root_.Go.ChangeSpec) : _root_.Go.OpenSpec := { _root_.Go.OpenSpec.ofChange s with cond := some uptoSmall }

/-- 'duepostlaw12.ClockTells', WHERE WHAT IT READS IS OF BULK AT MOST 1048576: true; the input reads as it did. -/
def clockTellsUptoRow : OpenClaim := { program := "ytojpgdhbfhdpoaa", sum := "2f810cc3e68a729a8e9936af002687b08edb63597fdeaa6a78ac3b1c214f1092", func := "duepost/duepostlaw12.ClockTells", spec := "clockTells", unfollowed := true, recurses := true, apart := false, narrowed := true }
def ClockTellsUptoSaid : Prop := clockTellsUptoRow.holds Try.pinned (OpenSpec.upto clockTellsSpec)

/-- 'duepostlaw12.ClockRises', WHERE WHAT IT READS IS OF BULK AT MOST 1048576: true; the input reads as it did. -/
def clockRisesUptoRow : OpenClaim := { program := "ytojpgdhbfhdpoaa", sum := "2f810cc3e68a729a8e9936af002687b08edb63597fdeaa6a78ac3b1c214f1092", func := "duepost/duepostlaw12.ClockRises", spec := "clockRises", unfollowed := true, recurses := true, apart := false, narrowed := true }
def ClockRisesUptoSaid : Prop := clockRisesUptoRow.holds Try.pinned (OpenSpec.upto clockRisesSpec)

/-- 'duepostlaw12.ClockLasts', WHERE WHAT IT READS IS OF BULK AT MOST 1048576: true; the input reads as it did. -/
def clockLastsUptoRow : OpenClaim := { program := "ytojpgdhbfhdpoaa", sum := "2f810cc3e68a729a8e9936af002687b08edb63597fdeaa6a78ac3b1c214f1092", func := "duepost/duepostlaw12.ClockLasts", spec := "clockLasts", unfollowed := true, recurses := true, apart := false, narrowed := true }
def ClockLastsUptoSaid : Prop := clockLastsUptoRow.holds Try.pinned (OpenSpec.upto clockLastsSpec)

/-- 'duepostlaw12.ClockHolds', WHERE WHAT IT READS IS OF BULK AT MOST 1048576: true; the input reads as it did. -/
def clockHoldsUptoRow : OpenClaim := { program := "ytojpgdhbfhdpoaa", sum := "2f810cc3e68a729a8e9936af002687b08edb63597fdeaa6a78ac3b1c214f1092", func := "duepost/duepostlaw12.ClockHolds", spec := "clockHolds", unfollowed := true, recurses := true, apart := false, narrowed := true }
def ClockHoldsUptoSaid : Prop := clockHoldsUptoRow.holds Try.pinned (OpenSpec.upto clockHoldsSpec)

end Rows
end Go.Proofs.Ytojpgdhbfhdpoaa
