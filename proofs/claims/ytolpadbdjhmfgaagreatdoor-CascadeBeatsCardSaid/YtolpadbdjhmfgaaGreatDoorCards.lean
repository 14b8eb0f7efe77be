/-
  DERIVED. GIVEN WITH THE SEED: THE CARDS: each row of YtolpadbdjhmfgaaGreatDoorRows.lean that lists a variable, with what it lists TIED to the program's text (the seventh form; the later family's looks); each row that meets fmt, with fmt's text TOLD by the authors' own Lean function (tested against real Go, not proved from fmt's source: count such statements apart). THE CARD IS WHAT COUNTS. Prove the row's statement (the work); the ties are given (YtolpadbdjhmfgaaGreatDoorTie.lean); close each card by the builder's one call (the guide's Derived/Test/ToyasCard.lean, 'card_holds'). Laid BY PROGRAM, IN A SANDBOX (cutbox-door.mjs). By AI agents, Wed Nov 11 2026. No macro, syntax, notation, axiom, sorry.
-/
import Derived.Test.YtolpadbdjhmfgaaGreatDoorRows
import GoSem.ClaimSeven
namespace Go.Proofs.YtolpadbdjhmfgaaGreatDoor
namespace Rows

/-- THE TIED CARD OF 'wattlelaw21.CascadeBeats'. -/
def cascadeBeatsCard : Claim7 := { stood := { row := cascadeBeatsRow, standIns := [], harness := (true, "916c640888accf636000cec61e5ad9aef3e8cadf6c0353f81e44dba07fe79e10"), looks := false }, kinds := [], alts := [], laidByText := true, laidKinds := [.data, .widerDeep, .pinned], laidTests := true, laidLooks := .later }
def CascadeBeatsCardSaid : Prop := Claim7.holds Tryz.pinned (.plain (OpenSpec.ofChange cascadeBeatsSpec)) cascadeBeatsCard

/-- THE TIED CARD OF 'wattlelaw21.CascadeMore'. -/
def cascadeMoreCard : Claim7 := { stood := { row := cascadeMoreRow, standIns := [], harness := (true, "916c640888accf636000cec61e5ad9aef3e8cadf6c0353f81e44dba07fe79e10"), looks := false }, kinds := [], alts := [], laidByText := true, laidKinds := [.data, .widerDeep, .pinned], laidTests := true, laidLooks := .later }
def CascadeMoreCardSaid : Prop := Claim7.holds Tryz.pinned (.plain (OpenSpec.ofChange cascadeMoreSpec)) cascadeMoreCard

/-- THE TIED CARD OF 'wattlelaw21.CascadeLast'. -/
def cascadeLastCard : Claim7 := { stood := { row := cascadeLastRow, standIns := [], harness := (true, "916c640888accf636000cec61e5ad9aef3e8cadf6c0353f81e44dba07fe79e10"), looks := false }, kinds := [], alts := [], laidByText := true, laidKinds := [.data, .widerDeep, .pinned], laidTests := true, laidLooks := .later }
def CascadeLastCardSaid : Prop := Claim7.holds Tryz.pinned (.plain (OpenSpec.ofChange cascadeLastSpec)) cascadeLastCard

/-- THE TIED CARD OF 'wattlelaw21.CascadeWins'. -/
def cascadeWinsCard : Claim7 := { stood := { row := cascadeWinsRow, standIns := [], harness := (true, "916c640888accf636000cec61e5ad9aef3e8cadf6c0353f81e44dba07fe79e10"), looks := false }, kinds := [], alts := [], laidByText := true, laidKinds := [.data, .widerDeep, .pinned], laidTests := true, laidLooks := .later }
def CascadeWinsCardSaid : Prop := Claim7.holds Tryz.pinned (.plain (OpenSpec.ofChange cascadeWinsSpec)) cascadeWinsCard

/-- THE SECOND FORM's CARD OF 'wattlelaw21.CascadeBeats'. -/
def cascadeBeatsUptoCard : Claim7 := { stood := { row := cascadeBeatsUptoRow, standIns := [], harness := (true, "916c640888accf636000cec61e5ad9aef3e8cadf6c0353f81e44dba07fe79e10"), looks := false }, kinds := [], alts := [], laidByText := true, laidKinds := [.data, .widerDeep, .pinned], laidTests := true, laidLooks := .later }
def CascadeBeatsUptoCardSaid : Prop := Claim7.holds Tryz.pinned (.plain (OpenSpec.upto cascadeBeatsSpec)) cascadeBeatsUptoCard

/-- THE SECOND FORM's CARD OF 'wattlelaw21.CascadeMore'. -/
def cascadeMoreUptoCard : Claim7 := { stood := { row := cascadeMoreUptoRow, standIns := [], harness := (true, "916c640888accf636000cec61e5ad9aef3e8cadf6c0353f81e44dba07fe79e10"), looks := false }, kinds := [], alts := [], laidByText := true, laidKinds := [.data, .widerDeep, .pinned], laidTests := true, laidLooks := .later }
def CascadeMoreUptoCardSaid : Prop := Claim7.holds Tryz.pinned (.plain (OpenSpec.upto cascadeMoreSpec)) cascadeMoreUptoCard

/-- THE SECOND FORM's CARD OF 'wattlelaw21.CascadeLast'. -/
def cascadeLastUptoCard : Claim7 := { stood := { row := cascadeLastUptoRow, standIns := [], harness := (true, "916c640888accf636000cec61e5ad9aef3e8cadf6c0353f81e44dba07fe79e10"), looks := false }, kinds := [], alts := [], laidByText := true, laidKinds := [.data, .widerDeep, .pinned], laidTests := true, laidLooks := .later }
def CascadeLastUptoCardSaid : Prop := Claim7.holds Tryz.pinned (.plain (OpenSpec.upto cascadeLastSpec)) cascadeLastUptoCard

/-- THE SECOND FORM's CARD OF 'wattlelaw21.CascadeWins'. -/
def cascadeWinsUptoCard : Claim7 := { stood := { row := cascadeWinsUptoRow, standIns := [], harness := (true, "916c640888accf636000cec61e5ad9aef3e8cadf6c0353f81e44dba07fe79e10"), looks := false }, kinds := [], alts := [], laidByText := true, laidKinds := [.data, .widerDeep, .pinned], laidTests := true, laidLooks := .later }
def CascadeWinsUptoCardSaid : Prop := Claim7.holds Tryz.pinned (.plain (OpenSpec.upto cascadeWinsSpec)) cascadeWinsUptoCard
end Rows
end Go.Proofs.YtolpadbdjhmfgaaGreatDoor
