/-
  DERIVED. GIVEN WITH THE SEED: THE CARDS: each row of YtkldomkooleecaaDoorRows.lean that lists a variable, with what it lists TIED to the program's text (the seventh form; the later family's looks); each row that meets fmt, with fmt's text TOLD by the authors' own Lean function (tested against real Go, not proved from fmt's source: count such statements apart). THE CARD IS WHAT COUNTS. Prove the row's statement (the work); the ties are given (YtkldomkooleecaaDoorTie.lean); close each card by the builder's one call (the guide's Derived/Test/ToyasCard.lean, 'card_holds'). Laid BY PROGRAM, IN A SANDBOX (cutbox-door.mjs). By AI agents, Wed Nov 11 2026. No macro, syntax, notation, axiom, sorry.
-/
import Derived.Test.YtkldomkooleecaaDoorRows
import GoSem.ClaimSeven
namespace Go.Proofs.YtkldomkooleecaaDoor
namespace Rows

/-- THE TIED CARD OF 'tellaw31.CacheFindsValid'. -/
def cacheFindsValidCard : Claim7 := { stood := { row := cacheFindsValidRow, standIns := [], harness := (true, "e9eb6e6d86963d7d8cfd1992d3afb01be6a6350ce66f3d45849fa92991833010"), looks := false }, kinds := [], alts := [], laidByText := true, laidKinds := [.data, .data, .data, .data, .pinned, .pinned, .pinned, .pinned, .pinned, .pinned], laidTests := true, laidLooks := .later }
def CacheFindsValidCardSaid : Prop := Claim7.holds Tryd.pinned (.plain (OpenSpec.ofChange cacheFindsValidSpec)) cacheFindsValidCard

/-- THE TIED CARD OF 'tellaw31.CacheCapacity'. -/
def cacheCapacityCard : Claim7 := { stood := { row := cacheCapacityRow, standIns := [], harness := (true, "e9eb6e6d86963d7d8cfd1992d3afb01be6a6350ce66f3d45849fa92991833010"), looks := false }, kinds := [], alts := [], laidByText := true, laidKinds := [.data, .data, .data, .data, .pinned, .pinned, .pinned, .pinned, .pinned, .pinned], laidTests := true, laidLooks := .later }
def CacheCapacityCardSaid : Prop := Claim7.holds Tryd.pinned (.plain (OpenSpec.ofChange cacheCapacitySpec)) cacheCapacityCard

/-- THE TIED CARD OF 'tellaw31.CacheOperations'. -/
def cacheOperationsCard : Claim7 := { stood := { row := cacheOperationsRow, standIns := [], harness := (true, "e9eb6e6d86963d7d8cfd1992d3afb01be6a6350ce66f3d45849fa92991833010"), looks := false }, kinds := [], alts := [], laidByText := true, laidKinds := [.data, .data, .data, .data, .pinned, .pinned, .pinned, .pinned, .pinned, .pinned], laidTests := true, laidLooks := .later }
def CacheOperationsCardSaid : Prop := Claim7.holds Tryd.pinned (.plain (OpenSpec.ofChange cacheOperationsSpec)) cacheOperationsCard

/-- THE SECOND FORM's CARD OF 'tellaw31.CacheFindsValid'. -/
def cacheFindsValidUptoCard : Claim7 := { stood := { row := cacheFindsValidUptoRow, standIns := [], harness := (true, "e9eb6e6d86963d7d8cfd1992d3afb01be6a6350ce66f3d45849fa92991833010"), looks := false }, kinds := [], alts := [], laidByText := true, laidKinds := [.data, .data, .data, .data, .pinned, .pinned, .pinned, .pinned, .pinned, .pinned], laidTests := true, laidLooks := .later }
def CacheFindsValidUptoCardSaid : Prop := Claim7.holds Tryd.pinned (.plain (OpenSpec.upto cacheFindsValidSpec)) cacheFindsValidUptoCard

/-- THE SECOND FORM's CARD OF 'tellaw31.CacheCapacity'. -/
def cacheCapacityUptoCard : Claim7 := { stood := { row := cacheCapacityUptoRow, standIns := [], harness := (true, "e9eb6e6d86963d7d8cfd1992d3afb01be6a6350ce66f3d45849fa92991833010"), looks := false }, kinds := [], alts := [], laidByText := true, laidKinds := [.data, .data, .data, .data, .pinned, .pinned, .pinned, .pinned, .pinned, .pinned], laidTests := true, laidLooks := .later }
def CacheCapacityUptoCardSaid : Prop := Claim7.holds Tryd.pinned (.plain (OpenSpec.upto cacheCapacitySpec)) cacheCapacityUptoCard

/-- THE SECOND FORM's CARD OF 'tellaw31.CacheOperations'. -/
def cacheOperationsUptoCard : Claim7 := { stood := { row := cacheOperationsUptoRow, standIns := [], harness := (true, "e9eb6e6d86963d7d8cfd1992d3afb01be6a6350ce66f3d45849fa92991833010"), looks := false }, kinds := [], alts := [], laidByText := true, laidKinds := [.data, .data, .data, .data, .pinned, .pinned, .pinned, .pinned, .pinned, .pinned], laidTests := true, laidLooks := .later }
def CacheOperationsUptoCardSaid : Prop := Claim7.holds Tryd.pinned (.plain (OpenSpec.upto cacheOperationsSpec)) cacheOperationsUptoCard
end Rows
end Go.Proofs.YtkldomkooleecaaDoor
