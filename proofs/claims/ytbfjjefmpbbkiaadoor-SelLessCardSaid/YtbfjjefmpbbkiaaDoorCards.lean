/-
  DERIVED. GIVEN WITH THE SEED: THE CARDS: each row of YtbfjjefmpbbkiaaDoorRows.lean that lists a variable, with what it lists TIED to the program's text (the seventh form; the later family's looks); each row that meets fmt, with fmt's text TOLD by the authors' own Lean function (tested against real Go, not proved from fmt's source: count such statements apart). THE CARD IS WHAT COUNTS. Prove the row's statement (the work); the ties are given (YtbfjjefmpbbkiaaDoorTie.lean); close each card by the builder's one call (the guide's Derived/Test/ToyasCard.lean, 'card_holds'). Laid BY PROGRAM, IN A SANDBOX (cutbox-door.mjs). By AI agents, Wed Nov 11 2026. No macro, syntax, notation, axiom, sorry.
-/
import Derived.Test.YtbfjjefmpbbkiaaDoorRows
import GoSem.ClaimSeven
namespace Go.Proofs.YtbfjjefmpbbkiaaDoor
namespace Rows

/-- THE TIED CARD OF 'wattlelaw08.SelLess'. -/
def selLessCard : Claim7 := { stood := { row := selLessRow, standIns := [], harness := (true, "7a2ffee6de5154ac9fe5e18261fe2b170f310d7bdbaf0b4adedb839e21170f9a"), looks := false }, kinds := [], alts := [], laidByText := true, laidKinds := [.widerDeep, .widerDeep], laidTests := true, laidLooks := .later }
def SelLessCardSaid : Prop := Claim7.holds Tryd.pinned (.plain (OpenSpec.ofChange selLessSpec)) selLessCard

/-- THE SECOND FORM's CARD OF 'wattlelaw08.SelLess'. -/
def selLessUptoCard : Claim7 := { stood := { row := selLessUptoRow, standIns := [], harness := (true, "7a2ffee6de5154ac9fe5e18261fe2b170f310d7bdbaf0b4adedb839e21170f9a"), looks := false }, kinds := [], alts := [], laidByText := true, laidKinds := [.widerDeep, .widerDeep], laidTests := true, laidLooks := .later }
def SelLessUptoCardSaid : Prop := Claim7.holds Tryd.pinned (.plain (OpenSpec.upto selLessSpec)) selLessUptoCard
end Rows
end Go.Proofs.YtbfjjefmpbbkiaaDoor
