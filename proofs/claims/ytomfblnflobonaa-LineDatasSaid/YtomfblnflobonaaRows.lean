/-
  No cell of these rows narrows 'for every input' (looked for: loops, veiled, ifaces, maps, wideKeys, modest, calm, conditions, laid).
  DERIVED. THE GIVEN ROWS OF THIS SEAT. 5 by the template 'for every input the law returns true; each argument reads behind the call as it read before'; 0 by the template 'total and deterministic' (their statements: YtomfblnflobonaaTotals.lean).
  GIVEN WITH THE SEED: the statements are not yours to turn. If you find one false, say at which input.
  Laid BY PROGRAM, IN A SANDBOX (cutbox-rows.mjs): the forced cells as the released guide's own fill.sh prints them over the translation a2f84e622a61e015… (all of the seat's roots in one cut). By AI agents, Wed Nov 11 2026. No macro, syntax, notation, axiom, sorry.
-/
import Derived.Test.YtomfblnflobonaaChecked
import GoSem.Claim
import GoSem.ClaimJoined
import GoSem.ClaimMapViews
import Derived.JoinedTies
import Derived.KernelRfl
namespace Go.Proofs.Ytomfblnflobonaa
/- THE CELL 'sum', in the pinned program and in every row, IS THE sha256 OF THE DUMP (.gsa) THAT YtomfblnflobonaaProg.lean LOADS. Nothing in Lean hashes anything: it is a label: what it is worth is what the hold of that sum in a sandbox is worth. -/
noncomputable def Try.pinned : Pinned := { name := "ytomfblnflobonaa", sum := "a2f84e622a61e01568a246facace0dc616e481a6d2ed7976674fb7c1684d69e9", checked := Try.checked }
namespace Rows
def none {H : Type} : Left H := { results := [], args := [] }

/-- 'duepostlaw01.LineCuts': WHATEVER THE INPUT: true; the input reads as it did. -/
def lineCutsSpec : ChangeSpec := { name := "lineCuts", fn := fun _ => fun
  | [d1, d2] => { results := [.lit (.bool true)], args := [d1, d2] }
  | _ => none }
def lineCutsRow : OpenClaim := { program := "ytomfblnflobonaa", sum := "a2f84e622a61e01568a246facace0dc616e481a6d2ed7976674fb7c1684d69e9", func := "duepost/duepostlaw01.LineCuts", spec := "lineCuts", inPlace := ["internal/bytealg.IndexByteString", "internal/bytealg.IndexString", "internal/abi.NoEscape"], unfollowed := true, recurses := true, named := ["internal/bytealg.MaxLen"], apart := false }
def LineCutsSaid : Prop := lineCutsRow.holds Try.pinned (OpenSpec.ofChange lineCutsSpec)

/-- ITS FALSE NEIGHBOUR: 'it returns false'. Refute it at one input. -/
def lineCutsWrong : ChangeSpec := { name := "lineCuts", fn := fun _ => fun
  | [d1, d2] => { results := [.lit (.bool false)], args := [d1, d2] }
  | _ => none }
def LineCutsWrongFalsely : Prop := lineCutsRow.holds Try.pinned (OpenSpec.ofChange lineCutsWrong)

/-- 'duepostlaw01.LineDatas': WHATEVER THE INPUT: true; the input reads as it did. -/
def lineDatasSpec : ChangeSpec := { name := "lineDatas", fn := fun _ => fun
  | [d1, d2] => { results := [.lit (.bool true)], args := [d1, d2] }
  | _ => none }
def lineDatasRow : OpenClaim := { program := "ytomfblnflobonaa", sum := "a2f84e622a61e01568a246facace0dc616e481a6d2ed7976674fb7c1684d69e9", func := "duepost/duepostlaw01.LineDatas", spec := "lineDatas", inPlace := ["internal/bytealg.IndexByteString", "internal/bytealg.IndexString", "internal/abi.NoEscape"], unfollowed := true, recurses := true, named := ["internal/bytealg.MaxLen"], apart := false }
def LineDatasSaid : Prop := lineDatasRow.holds Try.pinned (OpenSpec.ofChange lineDatasSpec)

/-- ITS FALSE NEIGHBOUR: 'it returns false'. Refute it at one input. -/
def lineDatasWrong : ChangeSpec := { name := "lineDatas", fn := fun _ => fun
  | [d1, d2] => { results := [.lit (.bool false)], args := [d1, d2] }
  | _ => none }
def LineDatasWrongFalsely : Prop := lineDatasRow.holds Try.pinned (OpenSpec.ofChange lineDatasWrong)

/-- 'duepostlaw01.LineParts': WHATEVER THE INPUT: true; the input reads as it did. -/
def linePartsSpec : ChangeSpec := { name := "lineParts", fn := fun _ => fun
  | [d1, d2] => { results := [.lit (.bool true)], args := [d1, d2] }
  | _ => none }
def linePartsRow : OpenClaim := { program := "ytomfblnflobonaa", sum := "a2f84e622a61e01568a246facace0dc616e481a6d2ed7976674fb7c1684d69e9", func := "duepost/duepostlaw01.LineParts", spec := "lineParts", inPlace := ["internal/bytealg.IndexByteString", "internal/bytealg.IndexString", "internal/abi.NoEscape"], unfollowed := true, recurses := true, named := ["internal/bytealg.MaxLen"], apart := false }
def LinePartsSaid : Prop := linePartsRow.holds Try.pinned (OpenSpec.ofChange linePartsSpec)

/-- ITS FALSE NEIGHBOUR: 'it returns false'. Refute it at one input. -/
def linePartsWrong : ChangeSpec := { name := "lineParts", fn := fun _ => fun
  | [d1, d2] => { results := [.lit (.bool false)], args := [d1, d2] }
  | _ => none }
def LinePartsWrongFalsely : Prop := linePartsRow.holds Try.pinned (OpenSpec.ofChange linePartsWrong)

/-- 'duepostlaw01.LineBack': WHATEVER THE INPUT: true; the input reads as it did. -/
def lineBackSpec : ChangeSpec := { name := "lineBack", fn := fun _ => fun
  | [d1, d2] => { results := [.lit (.bool true)], args := [d1, d2] }
  | _ => none }
def lineBackRow : OpenClaim := { program := "ytomfblnflobonaa", sum := "a2f84e622a61e01568a246facace0dc616e481a6d2ed7976674fb7c1684d69e9", func := "duepost/duepostlaw01.LineBack", spec := "lineBack", inPlace := ["internal/bytealg.IndexByteString", "internal/bytealg.IndexString", "internal/abi.NoEscape"], unfollowed := true, recurses := true, named := ["internal/bytealg.MaxLen"], apart := false }
def LineBackSaid : Prop := lineBackRow.holds Try.pinned (OpenSpec.ofChange lineBackSpec)

/-- ITS FALSE NEIGHBOUR: 'it returns false'. Refute it at one input. -/
def lineBackWrong : ChangeSpec := { name := "lineBack", fn := fun _ => fun
  | [d1, d2] => { results := [.lit (.bool false)], args := [d1, d2] }
  | _ => none }
def LineBackWrongFalsely : Prop := lineBackRow.holds Try.pinned (OpenSpec.ofChange lineBackWrong)

/-- 'duepostlaw01.LineGoes': WHATEVER THE INPUT: true; the input reads as it did. -/
def lineGoesSpec : ChangeSpec := { name := "lineGoes", fn := fun _ => fun
  | [d1, d2, d3] => { results := [.lit (.bool true)], args := [d1, d2, d3] }
  | _ => none }
def lineGoesRow : OpenClaim := { program := "ytomfblnflobonaa", sum := "a2f84e622a61e01568a246facace0dc616e481a6d2ed7976674fb7c1684d69e9", func := "duepost/duepostlaw01.LineGoes", spec := "lineGoes", inPlace := ["internal/bytealg.IndexByteString", "internal/bytealg.IndexString", "internal/abi.NoEscape"], unfollowed := true, recurses := true, named := ["internal/bytealg.MaxLen"], apart := false }
def LineGoesSaid : Prop := lineGoesRow.holds Try.pinned (OpenSpec.ofChange lineGoesSpec)

/-- ITS FALSE NEIGHBOUR: 'it returns false'. Refute it at one input. -/
def lineGoesWrong : ChangeSpec := { name := "lineGoes", fn := fun _ => fun
  | [d1, d2, d3] => { results := [.lit (.bool false)], args := [d1, d2, d3] }
  | _ => none }
def LineGoesWrongFalsely : Prop := lineGoesRow.holds Try.pinned (OpenSpec.ofChange lineGoesWrong)

/- THE SECOND FORM. 'bulk': how many values and letters a reading holds, each counted each time it is reached (what is shared counts as often as it is met; a slice's spare places count too). A statement '..UptoSaid' is the law's where the arguments, and the package variables that the reading takes, are together of bulk at most 1048576: NARROWER than '..Said'. Prove '..Said' where nothing that the law and all that it calls make is longer than what came in: it says more and counts as full. Else prove '..UptoSaid'. A law counts once. -/
mutual
def uptoBulk {H : Type} : DataW H → Nat
  | .lit (.string bytes) => bytes.length + 1
  | .lit _ => 1
  | .nil => 1
  | .ptr d => uptoBulk d + 1
  | .slice elems spare => uptoBulkAll elems + uptoBulkAll spare + 1
  | .agg parts => uptoBulkAll parts + 1
  | .iface _ d => uptoBulk d + 1
  | .map entries => uptoBulkEntries entries + 1
  | .held _ => 1
def uptoBulkAll {H : Type} : List (DataW H) → Nat
  | [] => 0
  | d :: r => uptoBulk d + uptoBulkAll r
def uptoBulkEntries {H : Type} : List (Lit × DataW H) → Nat
  | [] => 0
  | x :: r => uptoBulkEntry x + uptoBulkEntries r
def uptoBulkEntry {H : Type} : Lit × DataW H → Nat
  | (.string bytes, d) => bytes.length + uptoBulk d + 1
  | (_, d) => uptoBulk d + 1
 end
def uptoSmall : (H : Type) → List (DataW H) → Bool := fun _ ds => decide (uptoBulkAll ds ≤ 1048576)
def OpenSpec.upto (s : _root_.Go.ChangeSpec) : _root_.Go.OpenSpec := { _root_.Go.OpenSpec.ofChange s with cond := some uptoSmall }

/-- 'duepostlaw01.LineCuts', WHERE WHAT IT READS IS OF BULK AT MOST 1048576: true; the input reads as it did. -/
def lineCutsUptoRow : OpenClaim := { program := "ytomfblnflobonaa", sum := "a2f84e622a61e01568a246facace0dc616e481a6d2ed7976674fb7c1684d69e9", func := "duepost/duepostlaw01.LineCuts", spec := "lineCuts", inPlace := ["internal/bytealg.IndexByteString", "internal/bytealg.IndexString", "internal/abi.NoEscape"], unfollowed := true, recurses := true, named := ["internal/bytealg.MaxLen"], apart := false, narrowed := true }
def LineCutsUptoSaid : Prop := lineCutsUptoRow.holds Try.pinned (OpenSpec.upto lineCutsSpec)

/-- 'duepostlaw01.LineDatas', WHERE WHAT IT READS IS OF BULK AT MOST 1048576: true; the input reads as it did. -/
def lineDatasUptoRow : OpenClaim := { program := "ytomfblnflobonaa", sum := "a2f84e622a61e01568a246facace0dc616e481a6d2ed7976674fb7c1684d69e9", func := "duepost/duepostlaw01.LineDatas", spec := "lineDatas", inPlace := ["internal/bytealg.IndexByteString", "internal/bytealg.IndexString", "internal/abi.NoEscape"], unfollowed := true, recurses := true, named := ["internal/bytealg.MaxLen"], apart := false, narrowed := true }
def LineDatasUptoSaid : Prop := lineDatasUptoRow.holds Try.pinned (OpenSpec.upto lineDatasSpec)

/-- 'duepostlaw01.LineParts', WHERE WHAT IT READS IS OF BULK AT MOST 1048576: true; the input reads as it did. -/
def linePartsUptoRow : OpenClaim := { program := "ytomfblnflobonaa", sum := "a2f84e622a61e01568a246facace0dc616e481a6d2ed7976674fb7c1684d69e9", func := "duepost/duepostlaw01.LineParts", spec := "lineParts", inPlace := ["internal/bytealg.IndexByteString", "internal/bytealg.IndexString", "internal/abi.NoEscape"], unfollowed := true, recurses := true, named := ["internal/bytealg.MaxLen"], apart := false, narrowed := true }
def LinePartsUptoSaid : Prop := linePartsUptoRow.holds Try.pinned (OpenSpec.upto linePartsSpec)

/-- 'duepostlaw01.LineBack', WHERE WHAT IT READS IS OF BULK AT MOST 1048576: true; the input reads as it did. -/
def lineBackUptoRow : OpenClaim := { program := "ytomfblnflobonaa", sum := "a2f84e622a61e01568a246facace0dc616e481a6d2ed7976674fb7c1684d69e9", func := "duepost/duepostlaw01.LineBack", spec := "lineBack", inPlace := ["internal/bytealg.IndexByteString", "internal/bytealg.IndexString", "internal/abi.NoEscape"], unfollowed := true, recurses := true, named := ["internal/bytealg.MaxLen"], apart := false, narrowed := true }
def LineBackUptoSaid : Prop := lineBackUptoRow.holds Try.pinned (OpenSpec.upto lineBackSpec)

/-- 'duepostlaw01.LineGoes', WHERE WHAT IT READS IS OF BULK AT MOST 1048576: true; the input reads as it did. -/
def lineGoesUptoRow : OpenClaim := { program := "ytomfblnflobonaa", sum := "a2f84e622a61e01568a246facace0dc616e481a6d2ed7976674fb7c1684d69e9", func := "duepost/duepostlaw01.LineGoes", spec := "lineGoes", inPlace := ["internal/bytealg.IndexByteString", "internal/bytealg.IndexString", "internal/abi.NoEscape"], unfollowed := true, recurses := true, named := ["internal/bytealg.MaxLen"], apart := false, narrowed := true }
def LineGoesUptoSaid : Prop := lineGoesUptoRow.holds Try.pinned (OpenSpec.upto lineGoesSpec)

end Rows
end Go.Proofs.Ytomfblnflobonaa
