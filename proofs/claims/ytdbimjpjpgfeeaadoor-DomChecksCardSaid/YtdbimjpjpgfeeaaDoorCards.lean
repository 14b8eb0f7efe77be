/-
  DERIVED. GIVEN WITH THE SEED: THE CARDS: each row of YtdbimjpjpgfeeaaDoorRows.lean that lists a variable, with what it lists TIED to the program's text (the seventh form; the later family's looks); each row that meets fmt, with fmt's text TOLD by the authors' own Lean function (tested against real Go, not proved from fmt's source: count such statements apart). THE CARD IS WHAT COUNTS. Prove the row's statement (the work); the ties are given (YtdbimjpjpgfeeaaDoorTie.lean); close each card by the builder's one call (the guide's Derived/Test/ToyasCard.lean, 'card_holds'). Laid BY PROGRAM, IN A SANDBOX (cutbox-door.mjs). By AI agents, Wed Nov 11 2026. No macro, syntax, notation, axiom, sorry.
-/
import Derived.Test.YtdbimjpjpgfeeaaDoorRows
import GoSem.ClaimSeven
namespace Go.Proofs.YtdbimjpjpgfeeaaDoor
namespace Rows

/-- THE TIED CARD OF 'wattlelaw11.DomGrows'. -/
def domGrowsCard : Claim7 := { stood := { row := domGrowsRow, standIns := [], harness := (true, "c33d8b3d8935bb88eefbedbf3014b8c2a044f9cd00e91429ded0293b2049fcb4"), looks := true }, kinds := [], alts := [], laidByText := true, laidKinds := [.data, .widerDeep, .pinned], laidTests := true, laidLooks := .later }
def DomGrowsCardSaid : Prop := Claim7.holds Tryd.pinned (.plain (OpenSpec.ofChange domGrowsSpec)) domGrowsCard

/-- THE TIED CARD OF 'wattlelaw11.DomSame'. -/
def domSameCard : Claim7 := { stood := { row := domSameRow, standIns := [], harness := (true, "c33d8b3d8935bb88eefbedbf3014b8c2a044f9cd00e91429ded0293b2049fcb4"), looks := true }, kinds := [], alts := [], laidByText := true, laidKinds := [.data, .widerDeep, .pinned], laidTests := true, laidLooks := .later }
def DomSameCardSaid : Prop := Claim7.holds Tryd.pinned (.plain (OpenSpec.ofChange domSameSpec)) domSameCard

/-- THE TIED CARD OF 'wattlelaw11.DomTells'. -/
def domTellsCard : Claim7 := { stood := { row := domTellsRow, standIns := [], harness := (true, "c33d8b3d8935bb88eefbedbf3014b8c2a044f9cd00e91429ded0293b2049fcb4"), looks := true }, kinds := [], alts := [], laidByText := true, laidKinds := [.data, .widerDeep, .pinned], laidTests := true, laidLooks := .later }
def DomTellsCardSaid : Prop := Claim7.holds Tryd.pinned (.plain (OpenSpec.ofChange domTellsSpec)) domTellsCard

/-- THE TIED CARD OF 'wattlelaw11.DomChecks'. -/
def domChecksCard : Claim7 := { stood := { row := domChecksRow, standIns := [], harness := (true, "c33d8b3d8935bb88eefbedbf3014b8c2a044f9cd00e91429ded0293b2049fcb4"), looks := true }, kinds := [], alts := [], laidByText := true, laidKinds := [.data, .handle, .widerDeep, .pinned], laidTests := true, laidLooks := .later }
def DomChecksCardSaid : Prop := Claim7.holds Tryd.pinned (.plain (OpenSpec.ofChange domChecksSpec)) domChecksCard

/-- THE SECOND FORM's CARD OF 'wattlelaw11.DomGrows'. -/
def domGrowsUptoCard : Claim7 := { stood := { row := domGrowsUptoRow, standIns := [], harness := (true, "c33d8b3d8935bb88eefbedbf3014b8c2a044f9cd00e91429ded0293b2049fcb4"), looks := true }, kinds := [], alts := [], laidByText := true, laidKinds := [.data, .widerDeep, .pinned], laidTests := true, laidLooks := .later }
def DomGrowsUptoCardSaid : Prop := Claim7.holds Tryd.pinned (.plain (OpenSpec.upto domGrowsSpec)) domGrowsUptoCard

/-- THE SECOND FORM's CARD OF 'wattlelaw11.DomSame'. -/
def domSameUptoCard : Claim7 := { stood := { row := domSameUptoRow, standIns := [], harness := (true, "c33d8b3d8935bb88eefbedbf3014b8c2a044f9cd00e91429ded0293b2049fcb4"), looks := true }, kinds := [], alts := [], laidByText := true, laidKinds := [.data, .widerDeep, .pinned], laidTests := true, laidLooks := .later }
def DomSameUptoCardSaid : Prop := Claim7.holds Tryd.pinned (.plain (OpenSpec.upto domSameSpec)) domSameUptoCard

/-- THE SECOND FORM's CARD OF 'wattlelaw11.DomTells'. -/
def domTellsUptoCard : Claim7 := { stood := { row := domTellsUptoRow, standIns := [], harness := (true, "c33d8b3d8935bb88eefbedbf3014b8c2a044f9cd00e91429ded0293b2049fcb4"), looks := true }, kinds := [], alts := [], laidByText := true, laidKinds := [.data, .widerDeep, .pinned], laidTests := true, laidLooks := .later }
def DomTellsUptoCardSaid : Prop := Claim7.holds Tryd.pinned (.plain (OpenSpec.upto domTellsSpec)) domTellsUptoCard

/-- THE SECOND FORM's CARD OF 'wattlelaw11.DomChecks'. -/
def domChecksUptoCard : Claim7 := { stood := { row := domChecksUptoRow, standIns := [], harness := (true, "c33d8b3d8935bb88eefbedbf3014b8c2a044f9cd00e91429ded0293b2049fcb4"), looks := true }, kinds := [], alts := [], laidByText := true, laidKinds := [.data, .handle, .widerDeep, .pinned], laidTests := true, laidLooks := .later }
def DomChecksUptoCardSaid : Prop := Claim7.holds Tryd.pinned (.plain (OpenSpec.upto domChecksSpec)) domChecksUptoCard
end Rows
end Go.Proofs.YtdbimjpjpgfeeaaDoor
