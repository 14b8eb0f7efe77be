/-
  DERIVED. GIVEN WITH THE SEED: THE CARDS: each row of YtcogfddcdpgpkaaGreatDoorRows.lean that lists a variable, with what it lists TIED to the program's text (the seventh form; the later family's looks); each row that meets fmt, with fmt's text TOLD by the authors' own Lean function (tested against real Go, not proved from fmt's source: count such statements apart). THE CARD IS WHAT COUNTS. Prove the row's statement (the work); the ties are given (YtcogfddcdpgpkaaGreatDoorTie.lean); close each card by the builder's one call (the guide's Derived/Test/ToyasCard.lean, 'card_holds'). Laid BY PROGRAM, IN A SANDBOX (cutbox-door.mjs). By AI agents, Wed Nov 11 2026. No macro, syntax, notation, axiom, sorry.
-/
import Derived.Test.YtcogfddcdpgpkaaGreatDoorRows
import GoSem.ClaimSeven
namespace Go.Proofs.YtcogfddcdpgpkaaGreatDoor
namespace Rows

/-- THE TIED CARD OF 'wattlelaw12.MatchNots'. -/
def matchNotsCard : Claim7 := { stood := { row := matchNotsRow, standIns := [], harness := (true, "5d3562acdf79c28d484395d75109257aa3c29a293d7b749e2d9cb27c268f295b"), looks := false }, kinds := [], alts := [], laidByText := true, laidKinds := [.data, .widerDeep, .pinned], laidTests := true, laidLooks := .later }
def MatchNotsCardSaid : Prop := Claim7.holds Tryz.pinned (.plain (OpenSpec.ofChange matchNotsSpec)) matchNotsCard

/-- THE TIED CARD OF 'wattlelaw12.MatchLater'. -/
def matchLaterCard : Claim7 := { stood := { row := matchLaterRow, standIns := [], harness := (true, "5d3562acdf79c28d484395d75109257aa3c29a293d7b749e2d9cb27c268f295b"), looks := false }, kinds := [], alts := [], laidByText := true, laidKinds := [.data, .widerDeep, .pinned], laidTests := true, laidLooks := .later }
def MatchLaterCardSaid : Prop := Claim7.holds Tryz.pinned (.plain (OpenSpec.ofChange matchLaterSpec)) matchLaterCard

/-- THE TIED CARD OF 'wattlelaw12.MatchAll'. -/
def matchAllCard : Claim7 := { stood := { row := matchAllRow, standIns := [], harness := (true, "5d3562acdf79c28d484395d75109257aa3c29a293d7b749e2d9cb27c268f295b"), looks := false }, kinds := [], alts := [], laidByText := true, laidKinds := [.data, .widerDeep, .data, .pinned], laidTests := true, laidLooks := .later }
def MatchAllCardSaid : Prop := Claim7.holds Tryz.pinned (.plain (OpenSpec.ofChange matchAllSpec)) matchAllCard

/-- THE TIED CARD OF 'wattlelaw12.MatchLists'. -/
def matchListsCard : Claim7 := { stood := { row := matchListsRow, standIns := [], harness := (true, "5d3562acdf79c28d484395d75109257aa3c29a293d7b749e2d9cb27c268f295b"), looks := false }, kinds := [], alts := [], laidByText := true, laidKinds := [.data, .widerDeep, .pinned], laidTests := true, laidLooks := .later }
def MatchListsCardSaid : Prop := Claim7.holds Tryz.pinned (.plain (OpenSpec.ofChange matchListsSpec)) matchListsCard

/-- THE TIED CARD OF 'wattlelaw12.MatchJoined'. -/
def matchJoinedCard : Claim7 := { stood := { row := matchJoinedRow, standIns := [], harness := (true, "5d3562acdf79c28d484395d75109257aa3c29a293d7b749e2d9cb27c268f295b"), looks := false }, kinds := [], alts := [], laidByText := true, laidKinds := [.data, .widerDeep, .pinned], laidTests := true, laidLooks := .later }
def MatchJoinedCardSaid : Prop := Claim7.holds Tryz.pinned (.plain (OpenSpec.ofChange matchJoinedSpec)) matchJoinedCard

/-- THE SECOND FORM's CARD OF 'wattlelaw12.MatchNots'. -/
def matchNotsUptoCard : Claim7 := { stood := { row := matchNotsUptoRow, standIns := [], harness := (true, "5d3562acdf79c28d484395d75109257aa3c29a293d7b749e2d9cb27c268f295b"), looks := false }, kinds := [], alts := [], laidByText := true, laidKinds := [.data, .widerDeep, .pinned], laidTests := true, laidLooks := .later }
def MatchNotsUptoCardSaid : Prop := Claim7.holds Tryz.pinned (.plain (OpenSpec.upto matchNotsSpec)) matchNotsUptoCard

/-- THE SECOND FORM's CARD OF 'wattlelaw12.MatchLater'. -/
def matchLaterUptoCard : Claim7 := { stood := { row := matchLaterUptoRow, standIns := [], harness := (true, "5d3562acdf79c28d484395d75109257aa3c29a293d7b749e2d9cb27c268f295b"), looks := false }, kinds := [], alts := [], laidByText := true, laidKinds := [.data, .widerDeep, .pinned], laidTests := true, laidLooks := .later }
def MatchLaterUptoCardSaid : Prop := Claim7.holds Tryz.pinned (.plain (OpenSpec.upto matchLaterSpec)) matchLaterUptoCard

/-- THE SECOND FORM's CARD OF 'wattlelaw12.MatchAll'. -/
def matchAllUptoCard : Claim7 := { stood := { row := matchAllUptoRow, standIns := [], harness := (true, "5d3562acdf79c28d484395d75109257aa3c29a293d7b749e2d9cb27c268f295b"), looks := false }, kinds := [], alts := [], laidByText := true, laidKinds := [.data, .widerDeep, .data, .pinned], laidTests := true, laidLooks := .later }
def MatchAllUptoCardSaid : Prop := Claim7.holds Tryz.pinned (.plain (OpenSpec.upto matchAllSpec)) matchAllUptoCard

/-- THE SECOND FORM's CARD OF 'wattlelaw12.MatchLists'. -/
def matchListsUptoCard : Claim7 := { stood := { row := matchListsUptoRow, standIns := [], harness := (true, "5d3562acdf79c28d484395d75109257aa3c29a293d7b749e2d9cb27c268f295b"), looks := false }, kinds := [], alts := [], laidByText := true, laidKinds := [.data, .widerDeep, .pinned], laidTests := true, laidLooks := .later }
def MatchListsUptoCardSaid : Prop := Claim7.holds Tryz.pinned (.plain (OpenSpec.upto matchListsSpec)) matchListsUptoCard

/-- THE SECOND FORM's CARD OF 'wattlelaw12.MatchJoined'. -/
def matchJoinedUptoCard : Claim7 := { stood := { row := matchJoinedUptoRow, standIns := [], harness := (true, "5d3562acdf79c28d484395d75109257aa3c29a293d7b749e2d9cb27c268f295b"), looks := false }, kinds := [], alts := [], laidByText := true, laidKinds := [.data, .widerDeep, .pinned], laidTests := true, laidLooks := .later }
def MatchJoinedUptoCardSaid : Prop := Claim7.holds Tryz.pinned (.plain (OpenSpec.upto matchJoinedSpec)) matchJoinedUptoCard
end Rows
end Go.Proofs.YtcogfddcdpgpkaaGreatDoor
