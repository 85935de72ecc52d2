/-
  DERIVED. GIVEN WITH THE SEED: THE CARDS: each row of YthfmjiafdfoajaaDoorRows.lean that lists a variable, with what it lists TIED to the program's text (the seventh form; the later family's looks); each row that meets fmt, with fmt's text TOLD by the authors' own Lean function (tested against real Go, not proved from fmt's source: count such statements apart). THE CARD IS WHAT COUNTS. Prove the row's statement (the work); the ties are given (YthfmjiafdfoajaaDoorTie.lean); close each card by the builder's one call (the guide's Derived/Test/ToyasCard.lean, 'card_holds'). Laid BY PROGRAM, IN A SANDBOX (cutbox-door.mjs). By AI agents, Wed Nov 11 2026. No macro, syntax, notation, axiom, sorry.
-/
import Derived.Test.YthfmjiafdfoajaaDoorRows
import GoSem.ClaimSeven
namespace Go.Proofs.YthfmjiafdfoajaaDoor
namespace Rows

/-- THE TIED CARD OF 'duepostlaw04.PathTells'. -/
def pathTellsCard : Claim7 := { stood := { row := pathTellsRow, standIns := [], harness := (true, "4182b9dd36bfa1234353d046f6a1266862addc75730ae19ce50b21921f0e0bfc"), looks := false }, kinds := [], alts := [], laidByText := true, laidKinds := [.data, .pinned, .pinned], laidTests := true, laidLooks := .later }
def PathTellsCardSaid : Prop := Claim7.holds Tryd.pinned (.plain (OpenSpec.ofChange pathTellsSpec)) pathTellsCard

/-- THE TIED CARD OF 'duepostlaw04.PathBack'. -/
def pathBackCard : Claim7 := { stood := { row := pathBackRow, standIns := [], harness := (true, "4182b9dd36bfa1234353d046f6a1266862addc75730ae19ce50b21921f0e0bfc"), looks := false }, kinds := [], alts := [], laidByText := true, laidKinds := [.data, .pinned, .pinned], laidTests := true, laidLooks := .later }
def PathBackCardSaid : Prop := Claim7.holds Tryd.pinned (.plain (OpenSpec.ofChange pathBackSpec)) pathBackCard

/-- THE TIED CARD OF 'duepostlaw04.PathDomains'. -/
def pathDomainsCard : Claim7 := { stood := { row := pathDomainsRow, standIns := [], harness := (true, "4182b9dd36bfa1234353d046f6a1266862addc75730ae19ce50b21921f0e0bfc"), looks := false }, kinds := [], alts := [], laidByText := true, laidKinds := [.data, .pinned, .pinned], laidTests := true, laidLooks := .later }
def PathDomainsCardSaid : Prop := Claim7.holds Tryd.pinned (.plain (OpenSpec.ofChange pathDomainsSpec)) pathDomainsCard

/-- THE TIED CARD OF 'duepostlaw04.PathJoins'. -/
def pathJoinsCard : Claim7 := { stood := { row := pathJoinsRow, standIns := [], harness := (true, "4182b9dd36bfa1234353d046f6a1266862addc75730ae19ce50b21921f0e0bfc"), looks := false }, kinds := [], alts := [], laidByText := true, laidKinds := [.data, .pinned, .pinned], laidTests := true, laidLooks := .later }
def PathJoinsCardSaid : Prop := Claim7.holds Tryd.pinned (.plain (OpenSpec.ofChange pathJoinsSpec)) pathJoinsCard

/-- THE TIED CARD OF 'duepostlaw04.PathQuotes'. -/
def pathQuotesCard : Claim7 := { stood := { row := pathQuotesRow, standIns := [], harness := (true, "4182b9dd36bfa1234353d046f6a1266862addc75730ae19ce50b21921f0e0bfc"), looks := false }, kinds := [], alts := [], laidByText := true, laidKinds := [.data, .pinned, .pinned], laidTests := true, laidLooks := .later }
def PathQuotesCardSaid : Prop := Claim7.holds Tryd.pinned (.plain (OpenSpec.ofChange pathQuotesSpec)) pathQuotesCard

/-- THE SECOND FORM's CARD OF 'duepostlaw04.PathTells'. -/
def pathTellsUptoCard : Claim7 := { stood := { row := pathTellsUptoRow, standIns := [], harness := (true, "4182b9dd36bfa1234353d046f6a1266862addc75730ae19ce50b21921f0e0bfc"), looks := false }, kinds := [], alts := [], laidByText := true, laidKinds := [.data, .pinned, .pinned], laidTests := true, laidLooks := .later }
def PathTellsUptoCardSaid : Prop := Claim7.holds Tryd.pinned (.plain (OpenSpec.upto pathTellsSpec)) pathTellsUptoCard

/-- THE SECOND FORM's CARD OF 'duepostlaw04.PathBack'. -/
def pathBackUptoCard : Claim7 := { stood := { row := pathBackUptoRow, standIns := [], harness := (true, "4182b9dd36bfa1234353d046f6a1266862addc75730ae19ce50b21921f0e0bfc"), looks := false }, kinds := [], alts := [], laidByText := true, laidKinds := [.data, .pinned, .pinned], laidTests := true, laidLooks := .later }
def PathBackUptoCardSaid : Prop := Claim7.holds Tryd.pinned (.plain (OpenSpec.upto pathBackSpec)) pathBackUptoCard

/-- THE SECOND FORM's CARD OF 'duepostlaw04.PathDomains'. -/
def pathDomainsUptoCard : Claim7 := { stood := { row := pathDomainsUptoRow, standIns := [], harness := (true, "4182b9dd36bfa1234353d046f6a1266862addc75730ae19ce50b21921f0e0bfc"), looks := false }, kinds := [], alts := [], laidByText := true, laidKinds := [.data, .pinned, .pinned], laidTests := true, laidLooks := .later }
def PathDomainsUptoCardSaid : Prop := Claim7.holds Tryd.pinned (.plain (OpenSpec.upto pathDomainsSpec)) pathDomainsUptoCard

/-- THE SECOND FORM's CARD OF 'duepostlaw04.PathJoins'. -/
def pathJoinsUptoCard : Claim7 := { stood := { row := pathJoinsUptoRow, standIns := [], harness := (true, "4182b9dd36bfa1234353d046f6a1266862addc75730ae19ce50b21921f0e0bfc"), looks := false }, kinds := [], alts := [], laidByText := true, laidKinds := [.data, .pinned, .pinned], laidTests := true, laidLooks := .later }
def PathJoinsUptoCardSaid : Prop := Claim7.holds Tryd.pinned (.plain (OpenSpec.upto pathJoinsSpec)) pathJoinsUptoCard

/-- THE SECOND FORM's CARD OF 'duepostlaw04.PathQuotes'. -/
def pathQuotesUptoCard : Claim7 := { stood := { row := pathQuotesUptoRow, standIns := [], harness := (true, "4182b9dd36bfa1234353d046f6a1266862addc75730ae19ce50b21921f0e0bfc"), looks := false }, kinds := [], alts := [], laidByText := true, laidKinds := [.data, .pinned, .pinned], laidTests := true, laidLooks := .later }
def PathQuotesUptoCardSaid : Prop := Claim7.holds Tryd.pinned (.plain (OpenSpec.upto pathQuotesSpec)) pathQuotesUptoCard
end Rows
end Go.Proofs.YthfmjiafdfoajaaDoor
