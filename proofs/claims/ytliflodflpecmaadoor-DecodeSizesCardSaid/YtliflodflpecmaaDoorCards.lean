/-
  DERIVED. GIVEN WITH THE SEED: THE CARDS: each row of YtliflodflpecmaaDoorRows.lean that lists a variable, with what it lists TIED to the program's text (the seventh form; the later family's looks); each row that meets fmt, with fmt's text TOLD by the authors' own Lean function (tested against real Go, not proved from fmt's source: count such statements apart). THE CARD IS WHAT COUNTS. Prove the row's statement (the work); the ties are given (YtliflodflpecmaaDoorTie.lean); close each card by the builder's one call (the guide's Derived/Test/ToyasCard.lean, 'card_holds'). Laid BY PROGRAM, IN A SANDBOX (cutbox-door.mjs). By AI agents, Wed Nov 11 2026. No macro, syntax, notation, axiom, sorry.
-/
import Derived.Test.YtliflodflpecmaaDoorRows
import GoSem.ClaimSeven
namespace Go.Proofs.YtliflodflpecmaaDoor
namespace Rows

/-- THE TIED CARD OF 'wattlelaw01.DecodeReads'. -/
def decodeReadsCard : Claim7 := { stood := { row := decodeReadsRow, standIns := [], harness := (true, "49e06ff8f58a9fb7aed63f7913e62b96d5215699547e18aae8f5b554a81170d1"), looks := true }, kinds := [], alts := [], laidByText := true, laidKinds := [.data, .pinned], laidTests := true, laidLooks := .later }
def DecodeReadsCardSaid : Prop := Claim7.holds Tryd.pinned (.plain (OpenSpec.ofChange decodeReadsSpec)) decodeReadsCard

/-- THE TIED CARD OF 'wattlelaw01.DecodeSizes'. -/
def decodeSizesCard : Claim7 := { stood := { row := decodeSizesRow, standIns := [], harness := (true, "49e06ff8f58a9fb7aed63f7913e62b96d5215699547e18aae8f5b554a81170d1"), looks := true }, kinds := [], alts := [], laidByText := true, laidKinds := [.data, .pinned], laidTests := true, laidLooks := .later }
def DecodeSizesCardSaid : Prop := Claim7.holds Tryd.pinned (.plain (OpenSpec.ofChange decodeSizesSpec)) decodeSizesCard

/-- THE TIED CARD OF 'wattlelaw01.DecodeNames'. -/
def decodeNamesCard : Claim7 := { stood := { row := decodeNamesRow, standIns := [], harness := (true, "49e06ff8f58a9fb7aed63f7913e62b96d5215699547e18aae8f5b554a81170d1"), looks := true }, kinds := [], alts := [], laidByText := true, laidKinds := [.handle], laidTests := true, laidLooks := .later }
def DecodeNamesCardSaid : Prop := Claim7.holds Tryd.pinned (.plain (OpenSpec.ofChange decodeNamesSpec)) decodeNamesCard

/-- THE SECOND FORM's CARD OF 'wattlelaw01.DecodeReads'. -/
def decodeReadsUptoCard : Claim7 := { stood := { row := decodeReadsUptoRow, standIns := [], harness := (true, "49e06ff8f58a9fb7aed63f7913e62b96d5215699547e18aae8f5b554a81170d1"), looks := true }, kinds := [], alts := [], laidByText := true, laidKinds := [.data, .pinned], laidTests := true, laidLooks := .later }
def DecodeReadsUptoCardSaid : Prop := Claim7.holds Tryd.pinned (.plain (OpenSpec.upto decodeReadsSpec)) decodeReadsUptoCard

/-- THE SECOND FORM's CARD OF 'wattlelaw01.DecodeSizes'. -/
def decodeSizesUptoCard : Claim7 := { stood := { row := decodeSizesUptoRow, standIns := [], harness := (true, "49e06ff8f58a9fb7aed63f7913e62b96d5215699547e18aae8f5b554a81170d1"), looks := true }, kinds := [], alts := [], laidByText := true, laidKinds := [.data, .pinned], laidTests := true, laidLooks := .later }
def DecodeSizesUptoCardSaid : Prop := Claim7.holds Tryd.pinned (.plain (OpenSpec.upto decodeSizesSpec)) decodeSizesUptoCard

/-- THE SECOND FORM's CARD OF 'wattlelaw01.DecodeNames'. -/
def decodeNamesUptoCard : Claim7 := { stood := { row := decodeNamesUptoRow, standIns := [], harness := (true, "49e06ff8f58a9fb7aed63f7913e62b96d5215699547e18aae8f5b554a81170d1"), looks := true }, kinds := [], alts := [], laidByText := true, laidKinds := [.handle], laidTests := true, laidLooks := .later }
def DecodeNamesUptoCardSaid : Prop := Claim7.holds Tryd.pinned (.plain (OpenSpec.upto decodeNamesSpec)) decodeNamesUptoCard
end Rows
end Go.Proofs.YtliflodflpecmaaDoor
