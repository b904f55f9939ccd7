/-
  DERIVED. GIVEN WITH THE SEED: THE CARDS: each row of YtekepdcejoibpaaDoorRows.lean that lists a variable, with what it lists TIED to the program's text (the seventh form; the later family's looks); each row that meets fmt, with fmt's text TOLD by the authors' own Lean function (tested against real Go, not proved from fmt's source: count such statements apart). THE CARD IS WHAT COUNTS. Prove the row's statement (the work); the ties are given (YtekepdcejoibpaaDoorTie.lean); close each card by the builder's one call (the guide's Derived/Test/ToyasCard.lean, 'card_holds'). Laid BY PROGRAM, IN A SANDBOX (cutbox-door.mjs). By AI agents, Wed Nov 11 2026. No macro, syntax, notation, axiom, sorry.
-/
import Derived.Test.YtekepdcejoibpaaDoorRows
import GoSem.ClaimSeven
namespace Go.Proofs.YtekepdcejoibpaaDoor
namespace Rows

/-- THE TIED CARD OF 'toponymlaw15.WalkSplits'. -/
def walkSplitsCard : Claim7 := { stood := { row := walkSplitsRow, standIns := [], harness := (true, "2eb168e0eaad9e817242f12175b3e21e9f1c6dbc86bf83070b4a84833be4d8e3"), looks := true }, kinds := [], alts := [], laidByText := true, laidKinds := [.data, .pinned], laidTests := true, laidLooks := .later }
def WalkSplitsCardSaid : Prop := Claim7.holds Tryd.pinned (.plain (OpenSpec.ofChange walkSplitsSpec)) walkSplitsCard

/-- THE TIED CARD OF 'toponymlaw05.ShortApart'. -/
def shortApartCard : Claim7 := { stood := { row := shortApartRow, standIns := [], harness := (true, "2eb168e0eaad9e817242f12175b3e21e9f1c6dbc86bf83070b4a84833be4d8e3"), looks := true }, kinds := [], alts := [], laidByText := true, laidKinds := [.data, .data, .data], laidTests := true, laidLooks := .later }
def ShortApartCardSaid : Prop := Claim7.holds Tryd.pinned (.plain (OpenSpec.ofChange shortApartSpec)) shortApartCard

/-- THE SECOND FORM's CARD OF 'toponymlaw15.WalkSplits'. -/
def walkSplitsUptoCard : Claim7 := { stood := { row := walkSplitsUptoRow, standIns := [], harness := (true, "2eb168e0eaad9e817242f12175b3e21e9f1c6dbc86bf83070b4a84833be4d8e3"), looks := true }, kinds := [], alts := [], laidByText := true, laidKinds := [.data, .pinned], laidTests := true, laidLooks := .later }
def WalkSplitsUptoCardSaid : Prop := Claim7.holds Tryd.pinned (.plain (OpenSpec.upto walkSplitsSpec)) walkSplitsUptoCard

/-- THE SECOND FORM's CARD OF 'toponymlaw05.ShortApart'. -/
def shortApartUptoCard : Claim7 := { stood := { row := shortApartUptoRow, standIns := [], harness := (true, "2eb168e0eaad9e817242f12175b3e21e9f1c6dbc86bf83070b4a84833be4d8e3"), looks := true }, kinds := [], alts := [], laidByText := true, laidKinds := [.data, .data, .data], laidTests := true, laidLooks := .later }
def ShortApartUptoCardSaid : Prop := Claim7.holds Tryd.pinned (.plain (OpenSpec.upto shortApartSpec)) shortApartUptoCard
end Rows
end Go.Proofs.YtekepdcejoibpaaDoor
