/-
  No cell of these rows narrows 'for every input' (looked for: loops, veiled, ifaces, maps, wideKeys, modest, calm, conditions, laid).
  DERIVED. THE GIVEN ROWS OF THIS SEAT. 5 by the template 'for every input the law returns true; each argument reads behind the call as it read before'; 0 by the template 'total and deterministic' (their statements: YtejelihioendnaaTotals.lean).
  GIVEN WITH THE SEED: the statements are not yours to turn. If you find one false, say at which input.
  Laid BY PROGRAM, IN A SANDBOX (cutbox-rows.mjs): the forced cells as the released guide's own fill.sh prints them over the translation ffc97df60d83ef1c… (all of the seat's roots in one cut). By AI agents, Wed Nov 11 2026. No macro, syntax, notation, axiom, sorry.
-/
import Derived.Test.YtejelihioendnaaChecked
import GoSem.Claim
import GoSem.ClaimJoined
import GoSem.ClaimMapViews
import Derived.JoinedTies
import Derived.KernelRfl
namespace Go.Proofs.Ytejelihioendnaa
/- THE CELL 'sum', in the pinned program and in every row, IS THE sha256 OF THE DUMP (.gsa) THAT YtejelihioendnaaProg.lean LOADS. Nothing in Lean hashes anything: it is a label: what it is worth is what the hold of that sum in a sandbox is worth. -/
noncomputable def Try.pinned : Pinned := { name := "ytejelihioendnaa", sum := "ffc97df60d83ef1c0d991b4e523c568795680aeddb6d40828d566d930ad5da74", checked := Try.checked }
namespace Rows
def none {H : Type} : Left H := { results := [], args := [] }

/-- 'duepostlaw13.WheelPlays': WHATEVER THE INPUT: true; the input reads as it did. -/
def wheelPlaysSpec : ChangeSpec := { name := "wheelPlays", fn := fun _ => fun
  | [d1, d2] => { results := [.lit (.bool true)], args := [d1, d2] }
  | _ => none }
def wheelPlaysRow : OpenClaim := { program := "ytejelihioendnaa", sum := "ffc97df60d83ef1c0d991b4e523c568795680aeddb6d40828d566d930ad5da74", func := "duepost/duepostlaw13.WheelPlays", spec := "wheelPlays", inPlace := ["maps.clone"], unfollowed := true, recurses := true, apart := false }
def WheelPlaysSaid : Prop := wheelPlaysRow.holds Try.pinned (OpenSpec.ofChange wheelPlaysSpec)

/-- ITS FALSE NEIGHBOUR: 'it returns false'. Refute it at one input. -/
def wheelPlaysWrong : ChangeSpec := { name := "wheelPlays", fn := fun _ => fun
  | [d1, d2] => { results := [.lit (.bool false)], args := [d1, d2] }
  | _ => none }
def WheelPlaysWrongFalsely : Prop := wheelPlaysRow.holds Try.pinned (OpenSpec.ofChange wheelPlaysWrong)

/-- 'duepostlaw13.WheelOnce': WHATEVER THE INPUT: true; the input reads as it did. -/
def wheelOnceSpec : ChangeSpec := { name := "wheelOnce", fn := fun _ => fun
  | [d1, d2, d3, d4] => { results := [.lit (.bool true)], args := [d1, d2, d3, d4] }
  | _ => none }
def wheelOnceRow : OpenClaim := { program := "ytejelihioendnaa", sum := "ffc97df60d83ef1c0d991b4e523c568795680aeddb6d40828d566d930ad5da74", func := "duepost/duepostlaw13.WheelOnce", spec := "wheelOnce", inPlace := ["maps.clone"], unfollowed := true, recurses := true, apart := false }
def WheelOnceSaid : Prop := wheelOnceRow.holds Try.pinned (OpenSpec.ofChange wheelOnceSpec)

/-- ITS FALSE NEIGHBOUR: 'it returns false'. Refute it at one input. -/
def wheelOnceWrong : ChangeSpec := { name := "wheelOnce", fn := fun _ => fun
  | [d1, d2, d3, d4] => { results := [.lit (.bool false)], args := [d1, d2, d3, d4] }
  | _ => none }
def WheelOnceWrongFalsely : Prop := wheelOnceRow.holds Try.pinned (OpenSpec.ofChange wheelOnceWrong)

/-- 'duepostlaw13.WheelRebuilt': WHATEVER THE INPUT: true; the input reads as it did. -/
def wheelRebuiltSpec : ChangeSpec := { name := "wheelRebuilt", fn := fun _ => fun
  | [d1, d2, d3] => { results := [.lit (.bool true)], args := [d1, d2, d3] }
  | _ => none }
def wheelRebuiltRow : OpenClaim := { program := "ytejelihioendnaa", sum := "ffc97df60d83ef1c0d991b4e523c568795680aeddb6d40828d566d930ad5da74", func := "duepost/duepostlaw13.WheelRebuilt", spec := "wheelRebuilt", inPlace := ["maps.clone"], unfollowed := true, recurses := true, apart := false }
def WheelRebuiltSaid : Prop := wheelRebuiltRow.holds Try.pinned (OpenSpec.ofChange wheelRebuiltSpec)

/-- ITS FALSE NEIGHBOUR: 'it returns false'. Refute it at one input. -/
def wheelRebuiltWrong : ChangeSpec := { name := "wheelRebuilt", fn := fun _ => fun
  | [d1, d2, d3] => { results := [.lit (.bool false)], args := [d1, d2, d3] }
  | _ => none }
def WheelRebuiltWrongFalsely : Prop := wheelRebuiltRow.holds Try.pinned (OpenSpec.ofChange wheelRebuiltWrong)

/-- 'duepostlaw13.WheelSets': WHATEVER THE INPUT: true; the input reads as it did. -/
def wheelSetsSpec : ChangeSpec := { name := "wheelSets", fn := fun _ => fun
  | [d1, d2, d3] => { results := [.lit (.bool true)], args := [d1, d2, d3] }
  | _ => none }
def wheelSetsRow : OpenClaim := { program := "ytejelihioendnaa", sum := "ffc97df60d83ef1c0d991b4e523c568795680aeddb6d40828d566d930ad5da74", func := "duepost/duepostlaw13.WheelSets", spec := "wheelSets", inPlace := ["maps.clone"], unfollowed := true, recurses := true, apart := false }
def WheelSetsSaid : Prop := wheelSetsRow.holds Try.pinned (OpenSpec.ofChange wheelSetsSpec)

/-- ITS FALSE NEIGHBOUR: 'it returns false'. Refute it at one input. -/
def wheelSetsWrong : ChangeSpec := { name := "wheelSets", fn := fun _ => fun
  | [d1, d2, d3] => { results := [.lit (.bool false)], args := [d1, d2, d3] }
  | _ => none }
def WheelSetsWrongFalsely : Prop := wheelSetsRow.holds Try.pinned (OpenSpec.ofChange wheelSetsWrong)

/-- 'duepostlaw13.WheelNext': WHATEVER THE INPUT: true; the input reads as it did. -/
def wheelNextSpec : ChangeSpec := { name := "wheelNext", fn := fun _ => fun
  | [d1, d2] => { results := [.lit (.bool true)], args := [d1, d2] }
  | _ => none }
def wheelNextRow : OpenClaim := { program := "ytejelihioendnaa", sum := "ffc97df60d83ef1c0d991b4e523c568795680aeddb6d40828d566d930ad5da74", func := "duepost/duepostlaw13.WheelNext", spec := "wheelNext", inPlace := ["maps.clone"], unfollowed := true, recurses := true, apart := false }
def WheelNextSaid : Prop := wheelNextRow.holds Try.pinned (OpenSpec.ofChange wheelNextSpec)

/-- ITS FALSE NEIGHBOUR: 'it returns false'. Refute it at one input. -/
def wheelNextWrong : ChangeSpec := { name := "wheelNext", fn := fun _ => fun
  | [d1, d2] => { results := [.lit (.bool false)], args := [d1, d2] }
  | _ => none }
def WheelNextWrongFalsely : Prop := wheelNextRow.holds Try.pinned (OpenSpec.ofChange wheelNextWrong)

/- THE SECOND FORM. 'bulk': how many values and letters a reading holds, each counted each time it is reached (what is shared counts as often as it is met; a slice's spare places count too). A statement '..UptoSaid' is the law's where the arguments, and the package variables that the reading takes, are together of bulk at most 1048576: NARROWER than '..Said'. Prove '..Said' where nothing that the law and all that it calls make is longer than what came in: it says more and counts as full. Else prove '..UptoSaid'. A law counts once. -/
mutual
def uptoBulk {H : Type} : DataW H → Nat
  | .lit (.string bytes) => bytes.length + 1
  | .lit _ => 1
  | .nil => 1
  | .ptr d => uptoBulk d + 1
  | .slice elems spare => uptoBulkAll elems + uptoBulkAll spare + 1
  | .agg parts => uptoBulkAll parts + 1
  | .iface _ d => uptoBulk d + 1
  | .map entries => uptoBulkEntries entries + 1
  | .held _ => 1
def uptoBulkAll {H : Type} : List (DataW H) → Nat
  | [] => 0
  | d :: r => uptoBulk d + uptoBulkAll r
def uptoBulkEntries {H : Type} : List (Lit × DataW H) → Nat
  | [] => 0
  | x :: r => uptoBulkEntry x + uptoBulkEntries r
def uptoBulkEntry {H : Type} : Lit × DataW H → Nat
  | (.string bytes, d) => bytes.length + uptoBulk d + 1
  | (_, d) => uptoBulk d + 1
 end
def uptoSmall : (H : Type) → List (DataW H) → Bool := fun _ ds => decide (uptoBulkAll ds ≤ 1048576)
def OpenSpec.upto (s : _root_.Go.ChangeSpec) : _root_.Go.OpenSpec := { _root_.Go.OpenSpec.ofChange s with cond := some uptoSmall }

/-- 'duepostlaw13.WheelPlays', WHERE WHAT IT READS IS OF BULK AT MOST 1048576: true; the input reads as it did. -/
def wheelPlaysUptoRow : OpenClaim := { program := "ytejelihioendnaa", sum := "ffc97df60d83ef1c0d991b4e523c568795680aeddb6d40828d566d930ad5da74", func := "duepost/duepostlaw13.WheelPlays", spec := "wheelPlays", inPlace := ["maps.clone"], unfollowed := true, recurses := true, apart := false, narrowed := true }
def WheelPlaysUptoSaid : Prop := wheelPlaysUptoRow.holds Try.pinned (OpenSpec.upto wheelPlaysSpec)

/-- 'duepostlaw13.WheelOnce', WHERE WHAT IT READS IS OF BULK AT MOST 1048576: true; the input reads as it did. -/
def wheelOnceUptoRow : OpenClaim := { program := "ytejelihioendnaa", sum := "ffc97df60d83ef1c0d991b4e523c568795680aeddb6d40828d566d930ad5da74", func := "duepost/duepostlaw13.WheelOnce", spec := "wheelOnce", inPlace := ["maps.clone"], unfollowed := true, recurses := true, apart := false, narrowed := true }
def WheelOnceUptoSaid : Prop := wheelOnceUptoRow.holds Try.pinned (OpenSpec.upto wheelOnceSpec)

/-- 'duepostlaw13.WheelRebuilt', WHERE WHAT IT READS IS OF BULK AT MOST 1048576: true; the input reads as it did. -/
def wheelRebuiltUptoRow : OpenClaim := { program := "ytejelihioendnaa", sum := "ffc97df60d83ef1c0d991b4e523c568795680aeddb6d40828d566d930ad5da74", func := "duepost/duepostlaw13.WheelRebuilt", spec := "wheelRebuilt", inPlace := ["maps.clone"], unfollowed := true, recurses := true, apart := false, narrowed := true }
def WheelRebuiltUptoSaid : Prop := wheelRebuiltUptoRow.holds Try.pinned (OpenSpec.upto wheelRebuiltSpec)

/-- 'duepostlaw13.WheelSets', WHERE WHAT IT READS IS OF BULK AT MOST 1048576: true; the input reads as it did. -/
def wheelSetsUptoRow : OpenClaim := { program := "ytejelihioendnaa", sum := "ffc97df60d83ef1c0d991b4e523c568795680aeddb6d40828d566d930ad5da74", func := "duepost/duepostlaw13.WheelSets", spec := "wheelSets", inPlace := ["maps.clone"], unfollowed := true, recurses := true, apart := false, narrowed := true }
def WheelSetsUptoSaid : Prop := wheelSetsUptoRow.holds Try.pinned (OpenSpec.upto wheelSetsSpec)

/-- 'duepostlaw13.WheelNext', WHERE WHAT IT READS IS OF BULK AT MOST 1048576: true; the input reads as it did. -/
def wheelNextUptoRow : OpenClaim := { program := "ytejelihioendnaa", sum := "ffc97df60d83ef1c0d991b4e523c568795680aeddb6d40828d566d930ad5da74", func := "duepost/duepostlaw13.WheelNext", spec := "wheelNext", inPlace := ["maps.clone"], unfollowed := true, recurses := true, apart := false, narrowed := true }
def WheelNextUptoSaid : Prop := wheelNextUptoRow.holds Try.pinned (OpenSpec.upto wheelNextSpec)

end Rows
end Go.Proofs.Ytejelihioendnaa
