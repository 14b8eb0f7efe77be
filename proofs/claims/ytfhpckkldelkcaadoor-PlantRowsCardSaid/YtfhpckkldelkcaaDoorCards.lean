/-
  DERIVED. GIVEN WITH THE SEED: THE CARDS: each row of YtfhpckkldelkcaaDoorRows.lean that lists a variable, with what it lists TIED to the program's text (the seventh form; the later family's looks); each row that meets fmt, with fmt's text TOLD by the authors' own Lean function (tested against real Go, not proved from fmt's source: count such statements apart). THE CARD IS WHAT COUNTS. Prove the row's statement (the work); the ties are given (YtfhpckkldelkcaaDoorTie.lean); close each card by the builder's one call (the guide's Derived/Test/ToyasCard.lean, 'card_holds'). Laid BY PROGRAM, IN A SANDBOX (cutbox-door.mjs). By AI agents, Wed Nov 11 2026. No macro, syntax, notation, axiom, sorry.
-/
import Derived.Test.YtfhpckkldelkcaaDoorRows
import GoSem.ClaimSeven
namespace Go.Proofs.YtfhpckkldelkcaaDoor
namespace Rows

/-- THE TIED CARD OF 'wattlelaw17.PlantRows'. -/
def plantRowsCard : Claim7 := { stood := { row := plantRowsRow, standIns := [], harness := (true, "17cb11771ca617aeca0af967a0337145667bc748d5b81d80ecadc770df480006"), looks := true }, kinds := [], alts := [], laidByText := true, laidKinds := [.data, .widerDeep, .pinned], laidTests := true, laidLooks := .later }
def PlantRowsCardSaid : Prop := Claim7.holds Tryd.pinned (.plain (OpenSpec.ofChange plantRowsSpec)) plantRowsCard

/-- THE TIED CARD OF 'wattlelaw17.PlantDrops'. -/
def plantDropsCard : Claim7 := { stood := { row := plantDropsRow, standIns := [], harness := (true, "17cb11771ca617aeca0af967a0337145667bc748d5b81d80ecadc770df480006"), looks := true }, kinds := [], alts := [], laidByText := true, laidKinds := [.data, .handle, .widerDeep, .pinned], laidTests := true, laidLooks := .later }
def PlantDropsCardSaid : Prop := Claim7.holds Tryd.pinned (.plain (OpenSpec.ofChange plantDropsSpec)) plantDropsCard

/-- THE TIED CARD OF 'wattlelaw17.PlantDocs'. -/
def plantDocsCard : Claim7 := { stood := { row := plantDocsRow, standIns := [], harness := (true, "17cb11771ca617aeca0af967a0337145667bc748d5b81d80ecadc770df480006"), looks := true }, kinds := [], alts := [], laidByText := true, laidKinds := [.data, .handle, .widerDeep, .pinned], laidTests := true, laidLooks := .later }
def PlantDocsCardSaid : Prop := Claim7.holds Tryd.pinned (.plain (OpenSpec.ofChange plantDocsSpec)) plantDocsCard

/-- THE SECOND FORM's CARD OF 'wattlelaw17.PlantRows'. -/
def plantRowsUptoCard : Claim7 := { stood := { row := plantRowsUptoRow, standIns := [], harness := (true, "17cb11771ca617aeca0af967a0337145667bc748d5b81d80ecadc770df480006"), looks := true }, kinds := [], alts := [], laidByText := true, laidKinds := [.data, .widerDeep, .pinned], laidTests := true, laidLooks := .later }
def PlantRowsUptoCardSaid : Prop := Claim7.holds Tryd.pinned (.plain (OpenSpec.upto plantRowsSpec)) plantRowsUptoCard

/-- THE SECOND FORM's CARD OF 'wattlelaw17.PlantDrops'. -/
def plantDropsUptoCard : Claim7 := { stood := { row := plantDropsUptoRow, standIns := [], harness := (true, "17cb11771ca617aeca0af967a0337145667bc748d5b81d80ecadc770df480006"), looks := true }, kinds := [], alts := [], laidByText := true, laidKinds := [.data, .handle, .widerDeep, .pinned], laidTests := true, laidLooks := .later }
def PlantDropsUptoCardSaid : Prop := Claim7.holds Tryd.pinned (.plain (OpenSpec.upto plantDropsSpec)) plantDropsUptoCard

/-- THE SECOND FORM's CARD OF 'wattlelaw17.PlantDocs'. -/
def plantDocsUptoCard : Claim7 := { stood := { row := plantDocsUptoRow, standIns := [], harness := (true, "17cb11771ca617aeca0af967a0337145667bc748d5b81d80ecadc770df480006"), looks := true }, kinds := [], alts := [], laidByText := true, laidKinds := [.data, .handle, .widerDeep, .pinned], laidTests := true, laidLooks := .later }
def PlantDocsUptoCardSaid : Prop := Claim7.holds Tryd.pinned (.plain (OpenSpec.upto plantDocsSpec)) plantDocsUptoCard
end Rows
end Go.Proofs.YtfhpckkldelkcaaDoor
