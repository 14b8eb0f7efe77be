/-
  DERIVED. GIVEN WITH THE SEED: THE CARDS: each row of YtaghfmgeccapbaaGreatDoorRows.lean that lists a variable, with what it lists TIED to the program's text (the seventh form; the later family's looks); each row that meets fmt, with fmt's text TOLD by the authors' own Lean function (tested against real Go, not proved from fmt's source: count such statements apart). THE CARD IS WHAT COUNTS. Prove the row's statement (the work); the ties are given (YtaghfmgeccapbaaGreatDoorTie.lean); close each card by the builder's one call (the guide's Derived/Test/ToyasCard.lean, 'card_holds'). Laid BY PROGRAM, IN A SANDBOX (cutbox-door.mjs). By AI agents, Wed Nov 11 2026. No macro, syntax, notation, axiom, sorry.
-/
import Derived.Test.YtaghfmgeccapbaaGreatDoorRows
import GoSem.ClaimSeven
namespace Go.Proofs.YtaghfmgeccapbaaGreatDoor
namespace Rows

/-- THE TIED CARD OF 'wattlelaw17.PlantThins'. -/
def plantThinsCard : Claim7 := { stood := { row := plantThinsRow, standIns := [], harness := (true, "72173f3ce4359f8f31f471473a4370103a02eb17c596f86d3dea2afc1bdfa792"), looks := true }, kinds := [], alts := [], laidByText := true, laidKinds := [.data, .handle, .widerDeep, .pinned], laidTests := true, laidLooks := .later }
def PlantThinsCardSaid : Prop := Claim7.holds Tryz.pinned (.plain (OpenSpec.ofChange plantThinsSpec)) plantThinsCard

/-- THE SECOND FORM's CARD OF 'wattlelaw17.PlantThins'. -/
def plantThinsUptoCard : Claim7 := { stood := { row := plantThinsUptoRow, standIns := [], harness := (true, "72173f3ce4359f8f31f471473a4370103a02eb17c596f86d3dea2afc1bdfa792"), looks := true }, kinds := [], alts := [], laidByText := true, laidKinds := [.data, .handle, .widerDeep, .pinned], laidTests := true, laidLooks := .later }
def PlantThinsUptoCardSaid : Prop := Claim7.holds Tryz.pinned (.plain (OpenSpec.upto plantThinsSpec)) plantThinsUptoCard
end Rows
end Go.Proofs.YtaghfmgeccapbaaGreatDoor
