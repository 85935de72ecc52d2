/-
  No cell of these rows narrows 'for every input' (looked for: loops, veiled, ifaces, maps, wideKeys, modest, calm, conditions, laid).
  DERIVED. THE GIVEN ROWS OF THIS SEAT. 4 by the template 'for every input the law returns true; each argument reads behind the call as it read before'; 0 by the template 'total and deterministic' (their statements: YtpcfigijjhoffaaTotals.lean).
  GIVEN WITH THE SEED: the statements are not yours to turn. If you find one false, say at which input.
  Laid BY PROGRAM, IN A SANDBOX (cutbox-rows.mjs): the forced cells as the released guide's own fill.sh prints them over the translation 5e393491623463dc… (all of the seat's roots in one cut). By AI agents, Wed Nov 11 2026. No macro, syntax, notation, axiom, sorry.
-/
import Derived.Test.YtpcfigijjhoffaaChecked
import GoSem.Claim
import GoSem.ClaimJoined
import GoSem.ClaimMapViews
import Derived.JoinedTies
import Derived.KernelRfl
namespace Go.Proofs.Ytpcfigijjhoffaa
/- THE CELL 'sum', in the pinned program and in every row, IS THE sha256 OF THE DUMP (.gsa) THAT YtpcfigijjhoffaaProg.lean LOADS. Nothing in Lean hashes anything: it is a label: what it is worth is what the hold of that sum in a sandbox is worth. -/
noncomputable def Try.pinned : Pinned := { name := "ytpcfigijjhoffaa", sum := "5e393491623463dc8f5117d39b4a0a25cf8d189ecbb8ff2abf8fdcd50be2eae5", checked := Try.checked }
namespace Rows
def none {H : Type} : Left H := { results := [], args := [] }

/-- 'duepostlaw02.XtextTells': WHATEVER THE INPUT: true; the input reads as it did. -/
def xtextTellsSpec : ChangeSpec := { name := "xtextTells", fn := fun _ => fun
  | [d1, d2] => { results := [.lit (.bool true)], args := [d1, d2] }
  | _ => none }
def xtextTellsRow : OpenClaim := { program := "ytpcfigijjhoffaa", sum := "5e393491623463dc8f5117d39b4a0a25cf8d189ecbb8ff2abf8fdcd50be2eae5", func := "duepost/duepostlaw02.XtextTells", spec := "xtextTells", inPlace := ["internal/bytealg.IndexByteString", "internal/abi.NoEscape"], unfollowed := true, recurses := true, apart := false }
def XtextTellsSaid : Prop := xtextTellsRow.holds Try.pinned (OpenSpec.ofChange xtextTellsSpec)

/-- ITS FALSE NEIGHBOUR: 'it returns false'. Refute it at one input. -/
def xtextTellsWrong : ChangeSpec := { name := "xtextTells", fn := fun _ => fun
  | [d1, d2] => { results := [.lit (.bool false)], args := [d1, d2] }
  | _ => none }
def XtextTellsWrongFalsely : Prop := xtextTellsRow.holds Try.pinned (OpenSpec.ofChange xtextTellsWrong)

/-- 'duepostlaw02.XtextBack': WHATEVER THE INPUT: true; the input reads as it did. -/
def xtextBackSpec : ChangeSpec := { name := "xtextBack", fn := fun _ => fun
  | [d1, d2] => { results := [.lit (.bool true)], args := [d1, d2] }
  | _ => none }
def xtextBackRow : OpenClaim := { program := "ytpcfigijjhoffaa", sum := "5e393491623463dc8f5117d39b4a0a25cf8d189ecbb8ff2abf8fdcd50be2eae5", func := "duepost/duepostlaw02.XtextBack", spec := "xtextBack", inPlace := ["internal/bytealg.IndexByteString", "internal/abi.NoEscape"], unfollowed := true, recurses := true, apart := false }
def XtextBackSaid : Prop := xtextBackRow.holds Try.pinned (OpenSpec.ofChange xtextBackSpec)

/-- ITS FALSE NEIGHBOUR: 'it returns false'. Refute it at one input. -/
def xtextBackWrong : ChangeSpec := { name := "xtextBack", fn := fun _ => fun
  | [d1, d2] => { results := [.lit (.bool false)], args := [d1, d2] }
  | _ => none }
def XtextBackWrongFalsely : Prop := xtextBackRow.holds Try.pinned (OpenSpec.ofChange xtextBackWrong)

/-- 'duepostlaw02.XtextJoins': WHATEVER THE INPUT: true; the input reads as it did. -/
def xtextJoinsSpec : ChangeSpec := { name := "xtextJoins", fn := fun _ => fun
  | [d1, d2] => { results := [.lit (.bool true)], args := [d1, d2] }
  | _ => none }
def xtextJoinsRow : OpenClaim := { program := "ytpcfigijjhoffaa", sum := "5e393491623463dc8f5117d39b4a0a25cf8d189ecbb8ff2abf8fdcd50be2eae5", func := "duepost/duepostlaw02.XtextJoins", spec := "xtextJoins", inPlace := ["internal/bytealg.IndexByteString", "internal/abi.NoEscape"], unfollowed := true, recurses := true, apart := false }
def XtextJoinsSaid : Prop := xtextJoinsRow.holds Try.pinned (OpenSpec.ofChange xtextJoinsSpec)

/-- ITS FALSE NEIGHBOUR: 'it returns false'. Refute it at one input. -/
def xtextJoinsWrong : ChangeSpec := { name := "xtextJoins", fn := fun _ => fun
  | [d1, d2] => { results := [.lit (.bool false)], args := [d1, d2] }
  | _ => none }
def XtextJoinsWrongFalsely : Prop := xtextJoinsRow.holds Try.pinned (OpenSpec.ofChange xtextJoinsWrong)

/-- 'duepostlaw02.XtextRefuses': WHATEVER THE INPUT: true; the input reads as it did. -/
def xtextRefusesSpec : ChangeSpec := { name := "xtextRefuses", fn := fun _ => fun
  | [d1, d2, d3] => { results := [.lit (.bool true)], args := [d1, d2, d3] }
  | _ => none }
def xtextRefusesRow : OpenClaim := { program := "ytpcfigijjhoffaa", sum := "5e393491623463dc8f5117d39b4a0a25cf8d189ecbb8ff2abf8fdcd50be2eae5", func := "duepost/duepostlaw02.XtextRefuses", spec := "xtextRefuses", inPlace := ["internal/bytealg.IndexByteString", "internal/abi.NoEscape"], unfollowed := true, recurses := true, apart := false }
def XtextRefusesSaid : Prop := xtextRefusesRow.holds Try.pinned (OpenSpec.ofChange xtextRefusesSpec)

/-- ITS FALSE NEIGHBOUR: 'it returns false'. Refute it at one input. -/
def xtextRefusesWrong : ChangeSpec := { name := "xtextRefuses", fn := fun _ => fun
  | [d1, d2, d3] => { results := [.lit (.bool false)], args := [d1, d2, d3] }
  | _ => none }
def XtextRefusesWrongFalsely : Prop := xtextRefusesRow.holds Try.pinned (OpenSpec.ofChange xtextRefusesWrong)

/- THE SECOND FORM. 'bulk': how many values and letters a reading holds, each counted each time it is reached (what is shared counts as often as it is met; a slice's spare places count too). A statement '..UptoSaid' is the law's where the arguments, and the package variables that the reading takes, are together of bulk at most 1048576: NARROWER than '..Said'. Prove '..Said' where nothing that the law and all that it calls make is longer than what came in: it says more and counts as full. Else prove '..UptoSaid'. A law counts once. -/
mutual
def uptoBulk {H : Type} : DataW H → Nat
  | .lit (.string bytes) => bytes.length + 1
  | .lit _ => 1
  | .nil => 1
  | .ptr d => uptoBulk d + 1
  | .slice elems spare => uptoBulkAll elems + uptoBulkAll spare + 1
  | .agg parts => uptoBulkAll parts + 1
  | .iface _ d => uptoBulk d + 1
  | .map entries => uptoBulkEntries entries + 1
  | .held _ => 1
def uptoBulkAll {H : Type} : List (DataW H) → Nat
  | [] => 0
  | d :: r => uptoBulk d + uptoBulkAll r
def uptoBulkEntries {H : Type} : List (Lit × DataW H) → Nat
  | [] => 0
  | x :: r => uptoBulkEntry x + uptoBulkEntries r
def uptoBulkEntry {H : Type} : Lit × DataW H → Nat
  | (.string bytes, d) => bytes.length + uptoBulk d + 1
  | (_, d) => uptoBulk d + 1
 end
def uptoSmall : (H : Type) → List (DataW H) → Bool := fun _ ds => decide (uptoBulkAll ds ≤ 1048576)
def OpenSpec.upto (s : _root_.Go.ChangeSpec) : _root_.Go.OpenSpec := { _root_.Go.OpenSpec.ofChange s with cond := some uptoSmall }

/-- 'duepostlaw02.XtextTells', WHERE WHAT IT READS IS OF BULK AT MOST 1048576: true; the input reads as it did. -/
def xtextTellsUptoRow : OpenClaim := { program := "ytpcfigijjhoffaa", sum := "5e393491623463dc8f5117d39b4a0a25cf8d189ecbb8ff2abf8fdcd50be2eae5", func := "duepost/duepostlaw02.XtextTells", spec := "xtextTells", inPlace := ["internal/bytealg.IndexByteString", "internal/abi.NoEscape"], unfollowed := true, recurses := true, apart := false, narrowed := true }
def XtextTellsUptoSaid : Prop := xtextTellsUptoRow.holds Try.pinned (OpenSpec.upto xtextTellsSpec)

/-- 'duepostlaw02.XtextBack', WHERE WHAT IT READS IS OF BULK AT MOST 1048576: true; the input reads as it did. -/
def xtextBackUptoRow : OpenClaim := { program := "ytpcfigijjhoffaa", sum := "5e393491623463dc8f5117d39b4a0a25cf8d189ecbb8ff2abf8fdcd50be2eae5", func := "duepost/duepostlaw02.XtextBack", spec := "xtextBack", inPlace := ["internal/bytealg.IndexByteString", "internal/abi.NoEscape"], unfollowed := true, recurses := true, apart := false, narrowed := true }
def XtextBackUptoSaid : Prop := xtextBackUptoRow.holds Try.pinned (OpenSpec.upto xtextBackSpec)

/-- 'duepostlaw02.XtextJoins', WHERE WHAT IT READS IS OF BULK AT MOST 1048576: true; the input reads as it did. -/
def xtextJoinsUptoRow : OpenClaim := { program := "ytpcfigijjhoffaa", sum := "5e393491623463dc8f5117d39b4a0a25cf8d189ecbb8ff2abf8fdcd50be2eae5", func := "duepost/duepostlaw02.XtextJoins", spec := "xtextJoins", inPlace := ["internal/bytealg.IndexByteString", "internal/abi.NoEscape"], unfollowed := true, recurses := true, apart := false, narrowed := true }
def XtextJoinsUptoSaid : Prop := xtextJoinsUptoRow.holds Try.pinned (OpenSpec.upto xtextJoinsSpec)

/-- 'duepostlaw02.XtextRefuses', WHERE WHAT IT READS IS OF BULK AT MOST 1048576: true; the input reads as it did. -/
def xtextRefusesUptoRow : OpenClaim := { program := "ytpcfigijjhoffaa", sum := "5e393491623463dc8f5117d39b4a0a25cf8d189ecbb8ff2abf8fdcd50be2eae5", func := "duepost/duepostlaw02.XtextRefuses", spec := "xtextRefuses", inPlace := ["internal/bytealg.IndexByteString", "internal/abi.NoEscape"], unfollowed := true, recurses := true, apart := false, narrowed := true }
def XtextRefusesUptoSaid : Prop := xtextRefusesUptoRow.holds Try.pinned (OpenSpec.upto xtextRefusesSpec)

end Rows
end Go.Proofs.Ytpcfigijjhoffaa
