/-
  DERIVED. GIVEN WITH THE SEED: THE CARDS: each row of YtmbiiemlepfoaaaGreatDoorRows.lean that lists a variable, with what it lists TIED to the program's text (the seventh form; the later family's looks); each row that meets fmt, with fmt's text TOLD by the authors' own Lean function (tested against real Go, not proved from fmt's source: count such statements apart). THE CARD IS WHAT COUNTS. Prove the row's statement (the work); the ties are given (YtmbiiemlepfoaaaGreatDoorTie.lean); close each card by the builder's one call (the guide's Derived/Test/ToyasCard.lean, 'card_holds'). Laid BY PROGRAM, IN A SANDBOX (cutbox-door.mjs). By AI agents, Wed Nov 11 2026. No macro, syntax, notation, axiom, sorry.
-/
import Derived.Test.YtmbiiemlepfoaaaGreatDoorRows
import GoSem.ClaimSeven
namespace Go.Proofs.YtmbiiemlepfoaaaGreatDoor
namespace Rows

/-- THE TIED CARD OF 'brushwoodtop.TopBytes'. -/
def topBytesCard : Claim7 := { stood := { row := topBytesRow, standIns := [], harness := (true, "5e7da965d934e288d2756db9785a1210ca2a229da5dba6b7b2a9bec46618c4f4"), looks := true }, kinds := [], alts := [], laidByText := true, laidKinds := [.data, .data, .data, .data, .data, .pinned], laidTests := true, laidLooks := .later }
def TopBytesCardSaid : Prop := Claim7.holds Tryz.pinned (.plain (OpenSpec.ofChange topBytesSpec)) topBytesCard

/-- THE TIED CARD OF 'brushwoodtop.TopFlood'. -/
def topFloodCard : Claim7 := { stood := { row := topFloodRow, standIns := [], harness := (true, "5e7da965d934e288d2756db9785a1210ca2a229da5dba6b7b2a9bec46618c4f4"), looks := true }, kinds := [], alts := [], laidByText := true, laidKinds := [.data, .data, .data, .data, .data, .pinned], laidTests := true, laidLooks := .later }
def TopFloodCardSaid : Prop := Claim7.holds Tryz.pinned (.plain (OpenSpec.ofChange topFloodSpec)) topFloodCard

/-- THE TIED CARD OF 'brushwoodtop.TopOne'. -/
def topOneCard : Claim7 := { stood := { row := topOneRow, standIns := [], harness := (true, "5e7da965d934e288d2756db9785a1210ca2a229da5dba6b7b2a9bec46618c4f4"), looks := true }, kinds := [], alts := [], laidByText := true, laidKinds := [.data, .data, .data, .data, .data, .pinned], laidTests := true, laidLooks := .later }
def TopOneCardSaid : Prop := Claim7.holds Tryz.pinned (.plain (OpenSpec.ofChange topOneSpec)) topOneCard

/-- THE SECOND FORM's CARD OF 'brushwoodtop.TopBytes'. -/
def topBytesUptoCard : Claim7 := { stood := { row := topBytesUptoRow, standIns := [], harness := (true, "5e7da965d934e288d2756db9785a1210ca2a229da5dba6b7b2a9bec46618c4f4"), looks := true }, kinds := [], alts := [], laidByText := true, laidKinds := [.data, .data, .data, .data, .data, .pinned], laidTests := true, laidLooks := .later }
def TopBytesUptoCardSaid : Prop := Claim7.holds Tryz.pinned (.plain (OpenSpec.upto topBytesSpec)) topBytesUptoCard

/-- THE SECOND FORM's CARD OF 'brushwoodtop.TopFlood'. -/
def topFloodUptoCard : Claim7 := { stood := { row := topFloodUptoRow, standIns := [], harness := (true, "5e7da965d934e288d2756db9785a1210ca2a229da5dba6b7b2a9bec46618c4f4"), looks := true }, kinds := [], alts := [], laidByText := true, laidKinds := [.data, .data, .data, .data, .data, .pinned], laidTests := true, laidLooks := .later }
def TopFloodUptoCardSaid : Prop := Claim7.holds Tryz.pinned (.plain (OpenSpec.upto topFloodSpec)) topFloodUptoCard

/-- THE SECOND FORM's CARD OF 'brushwoodtop.TopOne'. -/
def topOneUptoCard : Claim7 := { stood := { row := topOneUptoRow, standIns := [], harness := (true, "5e7da965d934e288d2756db9785a1210ca2a229da5dba6b7b2a9bec46618c4f4"), looks := true }, kinds := [], alts := [], laidByText := true, laidKinds := [.data, .data, .data, .data, .data, .pinned], laidTests := true, laidLooks := .later }
def TopOneUptoCardSaid : Prop := Claim7.holds Tryz.pinned (.plain (OpenSpec.upto topOneSpec)) topOneUptoCard
end Rows
end Go.Proofs.YtmbiiemlepfoaaaGreatDoor
