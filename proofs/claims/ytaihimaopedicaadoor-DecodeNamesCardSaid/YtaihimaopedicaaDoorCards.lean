/-
  DERIVED. GIVEN WITH THE SEED: THE CARDS: each row of YtaihimaopedicaaDoorRows.lean that lists a variable, with what it lists TIED to the program's text (the seventh form; the later family's looks); each row that meets fmt, with fmt's text TOLD by the authors' own Lean function (tested against real Go, not proved from fmt's source: count such statements apart). THE CARD IS WHAT COUNTS. Prove the row's statement (the work); the ties are given (YtaihimaopedicaaDoorTie.lean); close each card by the builder's one call (the guide's Derived/Test/ToyasCard.lean, 'card_holds'). Laid BY PROGRAM, IN A SANDBOX (cutbox-door.mjs). By AI agents, Wed Nov 11 2026. No macro, syntax, notation, axiom, sorry.
-/
import Derived.Test.YtaihimaopedicaaDoorRows
import GoSem.ClaimSeven
namespace Go.Proofs.YtaihimaopedicaaDoor
namespace Rows

/-- THE TIED CARD OF 'wattlelaw01.DecodeNames'. -/
def decodeNamesCard : Claim7 := { stood := { row := decodeNamesRow, standIns := [], harness := (true, "517096e5e611346ed169471a4a83a875bdd67a1efbee54376b10750a517e3539"), looks := true }, kinds := [], alts := [], laidByText := true, laidKinds := [.handle], laidTests := true, laidLooks := .later }
def DecodeNamesCardSaid : Prop := Claim7.holds Tryd.pinned (.plain (OpenSpec.ofChange decodeNamesSpec)) decodeNamesCard

/-- THE SECOND FORM's CARD OF 'wattlelaw01.DecodeNames'. -/
def decodeNamesUptoCard : Claim7 := { stood := { row := decodeNamesUptoRow, standIns := [], harness := (true, "517096e5e611346ed169471a4a83a875bdd67a1efbee54376b10750a517e3539"), looks := true }, kinds := [], alts := [], laidByText := true, laidKinds := [.handle], laidTests := true, laidLooks := .later }
def DecodeNamesUptoCardSaid : Prop := Claim7.holds Tryd.pinned (.plain (OpenSpec.upto decodeNamesSpec)) decodeNamesUptoCard
end Rows
end Go.Proofs.YtaihimaopedicaaDoor
