/-
  DERIVED. GIVEN WITH THE SEED: THE CARDS: each row of YtkldomkooleecaaGreatDoorRows.lean that lists a variable, with what it lists TIED to the program's text (the seventh form; the later family's looks); each row that meets fmt, with fmt's text TOLD by the authors' own Lean function (tested against real Go, not proved from fmt's source: count such statements apart). THE CARD IS WHAT COUNTS. Prove the row's statement (the work); the ties are given (YtkldomkooleecaaGreatDoorTie.lean); close each card by the builder's one call (the guide's Derived/Test/ToyasCard.lean, 'card_holds'). Laid BY PROGRAM, IN A SANDBOX (cutbox-door.mjs). By AI agents, Wed Nov 11 2026. No macro, syntax, notation, axiom, sorry.
-/
import Derived.Test.YtkldomkooleecaaGreatDoorRows
import GoSem.ClaimSeven
namespace Go.Proofs.YtkldomkooleecaaGreatDoor
namespace Rows

/-- THE TIED CARD OF 'tellaw32.GraphInverse'. -/
def graphInverseCard : Claim7 := { stood := { row := graphInverseRow, standIns := [], harness := (true, "59d51fcfc020d719ef1e0ef372ba8dd1786b11923f34005568a6b6b9657fb0cf"), looks := false }, kinds := [], alts := [], laidByText := true, laidKinds := [.data, .data, .data, .data, .pinned, .pinned, .pinned, .pinned, .pinned, .pinned], laidTests := true, laidLooks := .later }
def GraphInverseCardSaid : Prop := Claim7.holds Tryz.pinned (.plain (OpenSpec.ofChange graphInverseSpec)) graphInverseCard

/-- THE TIED CARD OF 'tellaw32.GraphOperations'. -/
def graphOperationsCard : Claim7 := { stood := { row := graphOperationsRow, standIns := [], harness := (true, "59d51fcfc020d719ef1e0ef372ba8dd1786b11923f34005568a6b6b9657fb0cf"), looks := false }, kinds := [], alts := [], laidByText := true, laidKinds := [.data, .data, .data, .data, .pinned, .pinned, .pinned, .pinned, .pinned, .pinned], laidTests := true, laidLooks := .later }
def GraphOperationsCardSaid : Prop := Claim7.holds Tryz.pinned (.plain (OpenSpec.ofChange graphOperationsSpec)) graphOperationsCard

/-- THE TIED CARD OF 'tellaw32.GraphClosure'. -/
def graphClosureCard : Claim7 := { stood := { row := graphClosureRow, standIns := [], harness := (true, "59d51fcfc020d719ef1e0ef372ba8dd1786b11923f34005568a6b6b9657fb0cf"), looks := false }, kinds := [], alts := [], laidByText := true, laidKinds := [.data, .data, .data, .data, .pinned, .pinned, .pinned, .pinned, .pinned, .pinned], laidTests := true, laidLooks := .later }
def GraphClosureCardSaid : Prop := Claim7.holds Tryz.pinned (.plain (OpenSpec.ofChange graphClosureSpec)) graphClosureCard

/-- THE TIED CARD OF 'tellaw32.GraphByFunction'. -/
def graphByFunctionCard : Claim7 := { stood := { row := graphByFunctionRow, standIns := [], harness := (true, "59d51fcfc020d719ef1e0ef372ba8dd1786b11923f34005568a6b6b9657fb0cf"), looks := false }, kinds := [], alts := [], laidByText := true, laidKinds := [.data, .data, .data, .data, .pinned, .pinned, .pinned, .pinned, .pinned, .pinned], laidTests := true, laidLooks := .later }
def GraphByFunctionCardSaid : Prop := Claim7.holds Tryz.pinned (.plain (OpenSpec.ofChange graphByFunctionSpec)) graphByFunctionCard

/-- THE SECOND FORM's CARD OF 'tellaw32.GraphInverse'. -/
def graphInverseUptoCard : Claim7 := { stood := { row := graphInverseUptoRow, standIns := [], harness := (true, "59d51fcfc020d719ef1e0ef372ba8dd1786b11923f34005568a6b6b9657fb0cf"), looks := false }, kinds := [], alts := [], laidByText := true, laidKinds := [.data, .data, .data, .data, .pinned, .pinned, .pinned, .pinned, .pinned, .pinned], laidTests := true, laidLooks := .later }
def GraphInverseUptoCardSaid : Prop := Claim7.holds Tryz.pinned (.plain (OpenSpec.upto graphInverseSpec)) graphInverseUptoCard

/-- THE SECOND FORM's CARD OF 'tellaw32.GraphOperations'. -/
def graphOperationsUptoCard : Claim7 := { stood := { row := graphOperationsUptoRow, standIns := [], harness := (true, "59d51fcfc020d719ef1e0ef372ba8dd1786b11923f34005568a6b6b9657fb0cf"), looks := false }, kinds := [], alts := [], laidByText := true, laidKinds := [.data, .data, .data, .data, .pinned, .pinned, .pinned, .pinned, .pinned, .pinned], laidTests := true, laidLooks := .later }
def GraphOperationsUptoCardSaid : Prop := Claim7.holds Tryz.pinned (.plain (OpenSpec.upto graphOperationsSpec)) graphOperationsUptoCard

/-- THE SECOND FORM's CARD OF 'tellaw32.GraphClosure'. -/
def graphClosureUptoCard : Claim7 := { stood := { row := graphClosureUptoRow, standIns := [], harness := (true, "59d51fcfc020d719ef1e0ef372ba8dd1786b11923f34005568a6b6b9657fb0cf"), looks := false }, kinds := [], alts := [], laidByText := true, laidKinds := [.data, .data, .data, .data, .pinned, .pinned, .pinned, .pinned, .pinned, .pinned], laidTests := true, laidLooks := .later }
def GraphClosureUptoCardSaid : Prop := Claim7.holds Tryz.pinned (.plain (OpenSpec.upto graphClosureSpec)) graphClosureUptoCard

/-- THE SECOND FORM's CARD OF 'tellaw32.GraphByFunction'. -/
def graphByFunctionUptoCard : Claim7 := { stood := { row := graphByFunctionUptoRow, standIns := [], harness := (true, "59d51fcfc020d719ef1e0ef372ba8dd1786b11923f34005568a6b6b9657fb0cf"), looks := false }, kinds := [], alts := [], laidByText := true, laidKinds := [.data, .data, .data, .data, .pinned, .pinned, .pinned, .pinned, .pinned, .pinned], laidTests := true, laidLooks := .later }
def GraphByFunctionUptoCardSaid : Prop := Claim7.holds Tryz.pinned (.plain (OpenSpec.upto graphByFunctionSpec)) graphByFunctionUptoCard
end Rows
end Go.Proofs.YtkldomkooleecaaGreatDoor
