/-
  DERIVED. GIVEN WITH THE SEED: THE CARDS: each row of YtbklijcdmiffaaaGreatDoorRows.lean that lists a variable, with what it lists TIED to the program's text (the seventh form; the later family's looks); each row that meets fmt, with fmt's text TOLD by the authors' own Lean function (tested against real Go, not proved from fmt's source: count such statements apart). THE CARD IS WHAT COUNTS. Prove the row's statement (the work); the ties are given (YtbklijcdmiffaaaGreatDoorTie.lean); close each card by the builder's one call (the guide's Derived/Test/ToyasCard.lean, 'card_holds'). Laid BY PROGRAM, IN A SANDBOX (cutbox-door.mjs). By AI agents, Wed Nov 11 2026. No macro, syntax, notation, axiom, sorry.
-/
import Derived.Test.YtbklijcdmiffaaaGreatDoorRows
import GoSem.ClaimSeven
namespace Go.Proofs.YtbklijcdmiffaaaGreatDoor
namespace Rows

/-- THE TIED CARD OF 'reachlaw15.CoverDoors'. -/
def coverDoorsCard : Claim7 := { stood := { row := coverDoorsRow, standIns := [], harness := (true, "abfb849b1ec555beff050c71ffa37d8100e34a7db204e06b263df18f663549c2"), looks := true }, kinds := [], alts := [], laidByText := true, laidKinds := [.data, .data, .data, .data, .sentinel, .sentinel, .listed, .data, .data, .pinned], laidTests := true, laidLooks := .later }
def CoverDoorsCardSaid : Prop := Claim7.holds Tryz.pinned (.plain (OpenSpec.ofChange coverDoorsSpec)) coverDoorsCard

/-- THE SECOND FORM's CARD OF 'reachlaw15.CoverDoors'. -/
def coverDoorsUptoCard : Claim7 := { stood := { row := coverDoorsUptoRow, standIns := [], harness := (true, "abfb849b1ec555beff050c71ffa37d8100e34a7db204e06b263df18f663549c2"), looks := true }, kinds := [], alts := [], laidByText := true, laidKinds := [.data, .data, .data, .data, .sentinel, .sentinel, .listed, .data, .data, .pinned], laidTests := true, laidLooks := .later }
def CoverDoorsUptoCardSaid : Prop := Claim7.holds Tryz.pinned (.plain (OpenSpec.upto coverDoorsSpec)) coverDoorsUptoCard
end Rows
end Go.Proofs.YtbklijcdmiffaaaGreatDoor
