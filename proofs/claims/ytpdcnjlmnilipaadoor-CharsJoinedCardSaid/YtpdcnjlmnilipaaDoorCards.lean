/-
  DERIVED. GIVEN WITH THE SEED: THE CARDS: each row of YtpdcnjlmnilipaaDoorRows.lean that lists a variable, with what it lists TIED to the program's text (the seventh form; the later family's looks); each row that meets fmt, with fmt's text TOLD by the authors' own Lean function (tested against real Go, not proved from fmt's source: count such statements apart). THE CARD IS WHAT COUNTS. Prove the row's statement (the work); the ties are given (YtpdcnjlmnilipaaDoorTie.lean); close each card by the builder's one call (the guide's Derived/Test/ToyasCard.lean, 'card_holds'). Laid BY PROGRAM, IN A SANDBOX (cutbox-door.mjs). By AI agents, Wed Nov 11 2026. No macro, syntax, notation, axiom, sorry.
-/
import Derived.Test.YtpdcnjlmnilipaaDoorRows
import GoSem.ClaimSeven
namespace Go.Proofs.YtpdcnjlmnilipaaDoor
namespace Rows

/-- THE TIED CARD OF 'wattlelaw02.CharsWrites'. -/
def charsWritesCard : Claim7 := { stood := { row := charsWritesRow, standIns := [], harness := (true, "4f90bfc2221734f95cf4fccd8b1f07185953d5237e560393a9e6d12ac4295e20"), looks := false }, kinds := [], alts := [], laidByText := true, laidKinds := [.data, .data, .data], laidTests := true, laidLooks := .later }
def CharsWritesCardSaid : Prop := Claim7.holds Tryd.pinned (.plain (OpenSpec.ofChange charsWritesSpec)) charsWritesCard

/-- THE TIED CARD OF 'wattlelaw02.CharsPlain'. -/
def charsPlainCard : Claim7 := { stood := { row := charsPlainRow, standIns := [], harness := (true, "4f90bfc2221734f95cf4fccd8b1f07185953d5237e560393a9e6d12ac4295e20"), looks := false }, kinds := [], alts := [], laidByText := true, laidKinds := [.data, .data, .data], laidTests := true, laidLooks := .later }
def CharsPlainCardSaid : Prop := Claim7.holds Tryd.pinned (.plain (OpenSpec.ofChange charsPlainSpec)) charsPlainCard

/-- THE TIED CARD OF 'wattlelaw02.CharsJoined'. -/
def charsJoinedCard : Claim7 := { stood := { row := charsJoinedRow, standIns := [], harness := (true, "4f90bfc2221734f95cf4fccd8b1f07185953d5237e560393a9e6d12ac4295e20"), looks := false }, kinds := [], alts := [], laidByText := true, laidKinds := [.data, .data, .data], laidTests := true, laidLooks := .later }
def CharsJoinedCardSaid : Prop := Claim7.holds Tryd.pinned (.plain (OpenSpec.ofChange charsJoinedSpec)) charsJoinedCard

/-- THE TIED CARD OF 'wattlelaw02.CharsTexts'. -/
def charsTextsCard : Claim7 := { stood := { row := charsTextsRow, standIns := [], harness := (true, "4f90bfc2221734f95cf4fccd8b1f07185953d5237e560393a9e6d12ac4295e20"), looks := false }, kinds := [], alts := [], laidByText := true, laidKinds := [.data, .data, .data], laidTests := true, laidLooks := .later }
def CharsTextsCardSaid : Prop := Claim7.holds Tryd.pinned (.plain (OpenSpec.ofChange charsTextsSpec)) charsTextsCard

/-- THE SECOND FORM's CARD OF 'wattlelaw02.CharsWrites'. -/
def charsWritesUptoCard : Claim7 := { stood := { row := charsWritesUptoRow, standIns := [], harness := (true, "4f90bfc2221734f95cf4fccd8b1f07185953d5237e560393a9e6d12ac4295e20"), looks := false }, kinds := [], alts := [], laidByText := true, laidKinds := [.data, .data, .data], laidTests := true, laidLooks := .later }
def CharsWritesUptoCardSaid : Prop := Claim7.holds Tryd.pinned (.plain (OpenSpec.upto charsWritesSpec)) charsWritesUptoCard

/-- THE SECOND FORM's CARD OF 'wattlelaw02.CharsPlain'. -/
def charsPlainUptoCard : Claim7 := { stood := { row := charsPlainUptoRow, standIns := [], harness := (true, "4f90bfc2221734f95cf4fccd8b1f07185953d5237e560393a9e6d12ac4295e20"), looks := false }, kinds := [], alts := [], laidByText := true, laidKinds := [.data, .data, .data], laidTests := true, laidLooks := .later }
def CharsPlainUptoCardSaid : Prop := Claim7.holds Tryd.pinned (.plain (OpenSpec.upto charsPlainSpec)) charsPlainUptoCard

/-- THE SECOND FORM's CARD OF 'wattlelaw02.CharsJoined'. -/
def charsJoinedUptoCard : Claim7 := { stood := { row := charsJoinedUptoRow, standIns := [], harness := (true, "4f90bfc2221734f95cf4fccd8b1f07185953d5237e560393a9e6d12ac4295e20"), looks := false }, kinds := [], alts := [], laidByText := true, laidKinds := [.data, .data, .data], laidTests := true, laidLooks := .later }
def CharsJoinedUptoCardSaid : Prop := Claim7.holds Tryd.pinned (.plain (OpenSpec.upto charsJoinedSpec)) charsJoinedUptoCard

/-- THE SECOND FORM's CARD OF 'wattlelaw02.CharsTexts'. -/
def charsTextsUptoCard : Claim7 := { stood := { row := charsTextsUptoRow, standIns := [], harness := (true, "4f90bfc2221734f95cf4fccd8b1f07185953d5237e560393a9e6d12ac4295e20"), looks := false }, kinds := [], alts := [], laidByText := true, laidKinds := [.data, .data, .data], laidTests := true, laidLooks := .later }
def CharsTextsUptoCardSaid : Prop := Claim7.holds Tryd.pinned (.plain (OpenSpec.upto charsTextsSpec)) charsTextsUptoCard
end Rows
end Go.Proofs.YtpdcnjlmnilipaaDoor
