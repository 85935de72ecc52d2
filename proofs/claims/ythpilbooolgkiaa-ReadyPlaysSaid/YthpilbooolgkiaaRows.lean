/-
  No cell of these rows narrows 'for every input' (looked for: loops, veiled, ifaces, maps, wideKeys, modest, calm, conditions, laid).
  DERIVED. THE GIVEN ROWS OF THIS SEAT. 5 by the template 'for every input the law returns true; each argument reads behind the call as it read before'; 0 by the template 'total and deterministic' (their statements: YthpilbooolgkiaaTotals.lean).
  GIVEN WITH THE SEED: the statements are not yours to turn. If you find one false, say at which input.
  Laid BY PROGRAM, IN A SANDBOX (cutbox-rows.mjs): the forced cells as the released guide's own fill.sh prints them over the translation 85c66a0c47409f55… (all of the seat's roots in one cut). By AI agents, Wed Nov 11 2026. No macro, syntax, notation, axiom, sorry.
-/
import Derived.Test.YthpilbooolgkiaaChecked
import GoSem.Claim
import GoSem.ClaimJoined
import GoSem.ClaimMapViews
import Derived.JoinedTies
import Derived.KernelRfl
namespace Go.Proofs.Ythpilbooolgkiaa
/- THE CELL 'sum', in the pinned program and in every row, IS THE sha256 OF THE DUMP (.gsa) THAT YthpilbooolgkiaaProg.lean LOADS. Nothing in Lean hashes anything: it is a label: what it is worth is what the hold of that sum in a sandbox is worth. -/
noncomputable def Try.pinned : Pinned := { name := "ythpilbooolgkiaa", sum := "85c66a0c47409f555802d8669c4ba0a69484f594328f577cfe7cdf3d9d89cde3", checked := Try.checked }
namespace Rows
def none {H : Type} : Left H := { results := [], args := [] }

/-- 'duepostlaw14.ReadyPlays': WHATEVER THE INPUT: true; the input reads as it did. -/
def readyPlaysSpec : ChangeSpec := { name := "readyPlays", fn := fun _ => fun
  | [d1, d2, d3, d4] => { results := [.lit (.bool true)], args := [d1, d2, d3, d4] }
  | _ => none }
def readyPlaysRow : OpenClaim := { program := "ythpilbooolgkiaa", sum := "85c66a0c47409f555802d8669c4ba0a69484f594328f577cfe7cdf3d9d89cde3", func := "duepost/duepostlaw14.ReadyPlays", spec := "readyPlays", unfollowed := true, recurses := true, apart := false }
def ReadyPlaysSaid : Prop := readyPlaysRow.holds Try.pinned (OpenSpec.ofChange readyPlaysSpec)

/-- ITS FALSE NEIGHBOUR: 'it returns false'. Refute it at one input. -/
def readyPlaysWrong : ChangeSpec := { name := "readyPlays", fn := fun _ => fun
  | [d1, d2, d3, d4] => { results := [.lit (.bool false)], args := [d1, d2, d3, d4] }
  | _ => none }
def ReadyPlaysWrongFalsely : Prop := readyPlaysRow.holds Try.pinned (OpenSpec.ofChange readyPlaysWrong)

/-- 'duepostlaw14.ReadyRanks': WHATEVER THE INPUT: true; the input reads as it did. -/
def readyRanksSpec : ChangeSpec := { name := "readyRanks", fn := fun _ => fun
  | [d1, d2, d3, d4] => { results := [.lit (.bool true)], args := [d1, d2, d3, d4] }
  | _ => none }
def readyRanksRow : OpenClaim := { program := "ythpilbooolgkiaa", sum := "85c66a0c47409f555802d8669c4ba0a69484f594328f577cfe7cdf3d9d89cde3", func := "duepost/duepostlaw14.ReadyRanks", spec := "readyRanks", unfollowed := true, recurses := true, apart := false }
def ReadyRanksSaid : Prop := readyRanksRow.holds Try.pinned (OpenSpec.ofChange readyRanksSpec)

/-- ITS FALSE NEIGHBOUR: 'it returns false'. Refute it at one input. -/
def readyRanksWrong : ChangeSpec := { name := "readyRanks", fn := fun _ => fun
  | [d1, d2, d3, d4] => { results := [.lit (.bool false)], args := [d1, d2, d3, d4] }
  | _ => none }
def ReadyRanksWrongFalsely : Prop := readyRanksRow.holds Try.pinned (OpenSpec.ofChange readyRanksWrong)

/-- 'duepostlaw14.ReadyFirst': WHATEVER THE INPUT: true; the input reads as it did. -/
def readyFirstSpec : ChangeSpec := { name := "readyFirst", fn := fun _ => fun
  | [d1, d2, d3] => { results := [.lit (.bool true)], args := [d1, d2, d3] }
  | _ => none }
def readyFirstRow : OpenClaim := { program := "ythpilbooolgkiaa", sum := "85c66a0c47409f555802d8669c4ba0a69484f594328f577cfe7cdf3d9d89cde3", func := "duepost/duepostlaw14.ReadyFirst", spec := "readyFirst", unfollowed := true, recurses := true, apart := false }
def ReadyFirstSaid : Prop := readyFirstRow.holds Try.pinned (OpenSpec.ofChange readyFirstSpec)

/-- ITS FALSE NEIGHBOUR: 'it returns false'. Refute it at one input. -/
def readyFirstWrong : ChangeSpec := { name := "readyFirst", fn := fun _ => fun
  | [d1, d2, d3] => { results := [.lit (.bool false)], args := [d1, d2, d3] }
  | _ => none }
def ReadyFirstWrongFalsely : Prop := readyFirstRow.holds Try.pinned (OpenSpec.ofChange readyFirstWrong)

/-- 'duepostlaw14.ReadyWaits': WHATEVER THE INPUT: true; the input reads as it did. -/
def readyWaitsSpec : ChangeSpec := { name := "readyWaits", fn := fun _ => fun
  | [d1, d2, d3] => { results := [.lit (.bool true)], args := [d1, d2, d3] }
  | _ => none }
def readyWaitsRow : OpenClaim := { program := "ythpilbooolgkiaa", sum := "85c66a0c47409f555802d8669c4ba0a69484f594328f577cfe7cdf3d9d89cde3", func := "duepost/duepostlaw14.ReadyWaits", spec := "readyWaits", unfollowed := true, recurses := true, apart := false }
def ReadyWaitsSaid : Prop := readyWaitsRow.holds Try.pinned (OpenSpec.ofChange readyWaitsSpec)

/-- ITS FALSE NEIGHBOUR: 'it returns false'. Refute it at one input. -/
def readyWaitsWrong : ChangeSpec := { name := "readyWaits", fn := fun _ => fun
  | [d1, d2, d3] => { results := [.lit (.bool false)], args := [d1, d2, d3] }
  | _ => none }
def ReadyWaitsWrongFalsely : Prop := readyWaitsRow.holds Try.pinned (OpenSpec.ofChange readyWaitsWrong)

/-- 'duepostlaw14.ReadyOrder': WHATEVER THE INPUT: true; the input reads as it did. -/
def readyOrderSpec : ChangeSpec := { name := "readyOrder", fn := fun _ => fun
  | [d1, d2, d3] => { results := [.lit (.bool true)], args := [d1, d2, d3] }
  | _ => none }
def readyOrderRow : OpenClaim := { program := "ythpilbooolgkiaa", sum := "85c66a0c47409f555802d8669c4ba0a69484f594328f577cfe7cdf3d9d89cde3", func := "duepost/duepostlaw14.ReadyOrder", spec := "readyOrder", unfollowed := true, recurses := true, apart := false }
def ReadyOrderSaid : Prop := readyOrderRow.holds Try.pinned (OpenSpec.ofChange readyOrderSpec)

/-- ITS FALSE NEIGHBOUR: 'it returns false'. Refute it at one input. -/
def readyOrderWrong : ChangeSpec := { name := "readyOrder", fn := fun _ => fun
  | [d1, d2, d3] => { results := [.lit (.bool false)], args := [d1, d2, d3] }
  | _ => none }
def ReadyOrderWrongFalsely : Prop := readyOrderRow.holds Try.pinned (OpenSpec.ofChange readyOrderWrong)

/- THE SECOND FORM. 'bulk': how many values and letters a reading holds, each counted each time it is reached (what is shared counts as often as it is met; a slice's spare places count too). A statement '..UptoSaid' is the law's where the arguments, and the package variables that the reading takes, are together of bulk at most 1048576: NARROWER than '..Said'. Prove '..Said' where nothing that the law and all that it calls make is longer than what came in: it says more and counts as full. Else prove '..UptoSaid'. A law counts once. -/
mutual
def uptoBulk {H : Type} : DataW H → Nat
  | .lit (.string bytes) => bytes.length + 1
  | .lit _ => 1
  | .nil => 1
  | .ptr d => uptoBulk d + 1
  | .slice elems spare => uptoBulkAll elems + uptoBulkAll spare + 1
  | .agg parts => uptoBulkAll parts + 1
  | .iface _ d => uptoBulk d + 1
  | .map entries => uptoBulkEntries entries + 1
  | .held _ => 1
def uptoBulkAll {H : Type} : List (DataW H) → Nat
  | [] => 0
  | d :: r => uptoBulk d + uptoBulkAll r
def uptoBulkEntries {H : Type} : List (Lit × DataW H) → Nat
  | [] => 0
  | x :: r => uptoBulkEntry x + uptoBulkEntries r
def uptoBulkEntry {H : Type} : Lit × DataW H → Nat
  | (.string bytes, d) => bytes.length + uptoBulk d + 1
  | (_, d) => uptoBulk d + 1
 end
def uptoSmall : (H : Type) → List (DataW H) → Bool := fun _ ds => decide (uptoBulkAll ds ≤ 1048576)
def OpenSpec.upto (s : _root_.Go.ChangeSpec) : _root_.Go.OpenSpec := { _root_.Go.OpenSpec.ofChange s with cond := some uptoSmall }

/-- 'duepostlaw14.ReadyPlays', WHERE WHAT IT READS IS OF BULK AT MOST 1048576: true; the input reads as it did. -/
def readyPlaysUptoRow : OpenClaim := { program := "ythpilbooolgkiaa", sum := "85c66a0c47409f555802d8669c4ba0a69484f594328f577cfe7cdf3d9d89cde3", func := "duepost/duepostlaw14.ReadyPlays", spec := "readyPlays", unfollowed := true, recurses := true, apart := false, narrowed := true }
def ReadyPlaysUptoSaid : Prop := readyPlaysUptoRow.holds Try.pinned (OpenSpec.upto readyPlaysSpec)

/-- 'duepostlaw14.ReadyRanks', WHERE WHAT IT READS IS OF BULK AT MOST 1048576: true; the input reads as it did. -/
def readyRanksUptoRow : OpenClaim := { program := "ythpilbooolgkiaa", sum := "85c66a0c47409f555802d8669c4ba0a69484f594328f577cfe7cdf3d9d89cde3", func := "duepost/duepostlaw14.ReadyRanks", spec := "readyRanks", unfollowed := true, recurses := true, apart := false, narrowed := true }
def ReadyRanksUptoSaid : Prop := readyRanksUptoRow.holds Try.pinned (OpenSpec.upto readyRanksSpec)

/-- 'duepostlaw14.ReadyFirst', WHERE WHAT IT READS IS OF BULK AT MOST 1048576: true; the input reads as it did. -/
def readyFirstUptoRow : OpenClaim := { program := "ythpilbooolgkiaa", sum := "85c66a0c47409f555802d8669c4ba0a69484f594328f577cfe7cdf3d9d89cde3", func := "duepost/duepostlaw14.ReadyFirst", spec := "readyFirst", unfollowed := true, recurses := true, apart := false, narrowed := true }
def ReadyFirstUptoSaid : Prop := readyFirstUptoRow.holds Try.pinned (OpenSpec.upto readyFirstSpec)

/-- 'duepostlaw14.ReadyWaits', WHERE WHAT IT READS IS OF BULK AT MOST 1048576: true; the input reads as it did. -/
def readyWaitsUptoRow : OpenClaim := { program := "ythpilbooolgkiaa", sum := "85c66a0c47409f555802d8669c4ba0a69484f594328f577cfe7cdf3d9d89cde3", func := "duepost/duepostlaw14.ReadyWaits", spec := "readyWaits", unfollowed := true, recurses := true, apart := false, narrowed := true }
def ReadyWaitsUptoSaid : Prop := readyWaitsUptoRow.holds Try.pinned (OpenSpec.upto readyWaitsSpec)

/-- 'duepostlaw14.ReadyOrder', WHERE WHAT IT READS IS OF BULK AT MOST 1048576: true; the input reads as it did. -/
def readyOrderUptoRow : OpenClaim := { program := "ythpilbooolgkiaa", sum := "85c66a0c47409f555802d8669c4ba0a69484f594328f577cfe7cdf3d9d89cde3", func := "duepost/duepostlaw14.ReadyOrder", spec := "readyOrder", unfollowed := true, recurses := true, apart := false, narrowed := true }
def ReadyOrderUptoSaid : Prop := readyOrderUptoRow.holds Try.pinned (OpenSpec.upto readyOrderSpec)

end Rows
end Go.Proofs.Ythpilbooolgkiaa
