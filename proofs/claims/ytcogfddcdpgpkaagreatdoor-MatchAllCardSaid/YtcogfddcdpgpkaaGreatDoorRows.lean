/-
  NARROWER THAN 'FOR EVERY INPUT', by the rows' own cells (each row's printed sentence says how): MatchNots: loops, laid · MatchLater: loops, laid · MatchAll: loops, laid · MatchLists: loops, laid · MatchJoined: loops, laid.
  DERIVED. THE GIVEN ROWS OF THIS SEAT. 5 by the template 'for every input the law returns true; each argument reads behind the call as it read before'; 0 by the template 'total and deterministic' (their statements: YtcogfddcdpgpkaaGreatDoorTotals.lean).
  GIVEN WITH THE SEED: the statements are not yours to turn. If you find one false, say at which input.
  Laid BY PROGRAM, IN A SANDBOX (cutbox-rows.mjs): the forced cells as the released guide's own fill.sh prints them over the translation e84b26d94efdcc06… (all of the seat's roots in one cut). By AI agents, Wed Nov 11 2026. No macro, syntax, notation, axiom, sorry.
-/
import Derived.Test.YtcogfddcdpgpkaaGreatDoorChecked
import GoSem.PinnedTables
import GoSem.Claim
import GoSem.ClaimJoined
import GoSem.ClaimMapViews
import Derived.JoinedTies
import Derived.KernelRfl
namespace Go.Proofs.YtcogfddcdpgpkaaGreatDoor
/- THE CELL 'sum', in the pinned program and in every row, IS THE sha256 OF THE DUMP (.gsa) THAT YtcogfddcdpgpkaaGreatDoorProg.lean LOADS. Nothing in Lean hashes anything: it is a label: what it is worth is what the hold of that sum in a sandbox is worth. -/
noncomputable def Tryz.pinned : Pinned := { name := "ytcogfddcdpgpkaagreatdoor", sum := "e84b26d94efdcc06021a2a0c6a2e34a3736e2b4d5109a2dea635b3c745c542b0", checked := Tryz.checked }
namespace Rows
def none {H : Type} : Left H := { results := [], args := [] }

/- WHAT THE LISTED PACKAGE-LEVEL VARIABLES READ AS WHEN THE CALL BEGINS. Each datum BY PROGRAM (the guide's laid-datum.mjs) off the statement by which the dump's own 'gosem.cut.vars' lays the variable. In a bare row this is a premise. The card (YtcogfddcdpgpkaaGreatDoorCards.lean) ties it to the program's text. -/
def laid_unicode_utf8_acceptRanges {H : Type} : DataW H := .agg [.agg [.lit (.int .u8 128), .lit (.int .u8 191)], .agg [.lit (.int .u8 160), .lit (.int .u8 191)], .agg [.lit (.int .u8 128), .lit (.int .u8 159)], .agg [.lit (.int .u8 144), .lit (.int .u8 191)], .agg [.lit (.int .u8 128), .lit (.int .u8 143)], .agg [.lit (.int .u8 0), .lit (.int .u8 0)], .agg [.lit (.int .u8 0), .lit (.int .u8 0)], .agg [.lit (.int .u8 0), .lit (.int .u8 0)], .agg [.lit (.int .u8 0), .lit (.int .u8 0)], .agg [.lit (.int .u8 0), .lit (.int .u8 0)], .agg [.lit (.int .u8 0), .lit (.int .u8 0)], .agg [.lit (.int .u8 0), .lit (.int .u8 0)], .agg [.lit (.int .u8 0), .lit (.int .u8 0)], .agg [.lit (.int .u8 0), .lit (.int .u8 0)], .agg [.lit (.int .u8 0), .lit (.int .u8 0)], .agg [.lit (.int .u8 0), .lit (.int .u8 0)]]
def laid_wattle_sel_states {H : Type} : DataW H := .agg [.lit (.string [104, 111, 118, 101, 114]), .lit (.string [97, 99, 116, 105, 118, 101]), .lit (.string [102, 111, 99, 117, 115]), .lit (.string [102, 111, 99, 117, 115, 45, 118, 105, 115, 105, 98, 108, 101]), .lit (.string [118, 105, 115, 105, 116, 101, 100]), .lit (.string [108, 105, 110, 107]), .lit (.string [99, 104, 101, 99, 107, 101, 100]), .lit (.string [100, 105, 115, 97, 98, 108, 101, 100]), .lit (.string [101, 110, 97, 98, 108, 101, 100]), .lit (.string [116, 97, 114, 103, 101, 116])]
/-- One of Go's own tables, pinned by name: the form's constant. -/
def laid_unicode_utf8_first : DataW Unit := Go.Pinned.utf8First
def laid_wattle_match_elements {H : Type} : DataW H := .agg [.lit (.string []), .lit (.string [98, 101, 102, 111, 114, 101]), .lit (.string [97, 102, 116, 101, 114]), .lit (.string [102, 105, 114, 115, 116, 45, 108, 105, 110, 101]), .lit (.string [102, 105, 114, 115, 116, 45, 108, 101, 116, 116, 101, 114]), .lit (.string [109, 97, 114, 107, 101, 114]), .lit (.string [115, 101, 108, 101, 99, 116, 105, 111, 110]), .lit (.string [112, 108, 97, 99, 101, 104, 111, 108, 100, 101, 114]), .lit (.string [98, 97, 99, 107, 100, 114, 111, 112])]

/-- 'wattlelaw12.MatchNots': WHATEVER THE INPUT: true; the input reads as it did. -/
def matchNotsSpec : ChangeSpec := { name := "matchNots", fn := fun _ => fun
  | [d1, d2, d3, d4] => { results := [.lit (.bool true)], args := [d1, d2, d3, d4] }
  | _ => none }
def matchNotsRow : OpenClaim := { program := "ytcogfddcdpgpkaagreatdoor", sum := "e84b26d94efdcc06021a2a0c6a2e34a3736e2b4d5109a2dea635b3c745c542b0", func := "wattle/wattlelaw12.MatchNots", spec := "matchNots", inPlace := ["internal/bytealg.IndexByteString", "internal/bytealg.IndexString"], unfollowed := true, recurses := true, named := ["unicode/utf8.first", "unicode/utf8.acceptRanges", "wattle/sel.states", "internal/bytealg.MaxLen"], loops := true, apart := false, laid := [("unicode/utf8.acceptRanges", laid_unicode_utf8_acceptRanges), ("wattle/sel.states", laid_wattle_sel_states), ("unicode/utf8.first", laid_unicode_utf8_first)] }
def MatchNotsSaid : Prop := matchNotsRow.holds Tryz.pinned (OpenSpec.ofChange matchNotsSpec)

/-- ITS FALSE NEIGHBOUR: 'it returns false'. Refute it at one input. -/
def matchNotsWrong : ChangeSpec := { name := "matchNots", fn := fun _ => fun
  | [d1, d2, d3, d4] => { results := [.lit (.bool false)], args := [d1, d2, d3, d4] }
  | _ => none }
def MatchNotsWrongFalsely : Prop := matchNotsRow.holds Tryz.pinned (OpenSpec.ofChange matchNotsWrong)

/-- 'wattlelaw12.MatchLater': WHATEVER THE INPUT: true; the input reads as it did. -/
def matchLaterSpec : ChangeSpec := { name := "matchLater", fn := fun _ => fun
  | [d1, d2, d3, d4] => { results := [.lit (.bool true)], args := [d1, d2, d3, d4] }
  | _ => none }
def matchLaterRow : OpenClaim := { program := "ytcogfddcdpgpkaagreatdoor", sum := "e84b26d94efdcc06021a2a0c6a2e34a3736e2b4d5109a2dea635b3c745c542b0", func := "wattle/wattlelaw12.MatchLater", spec := "matchLater", inPlace := ["internal/bytealg.IndexByteString", "internal/bytealg.IndexString"], unfollowed := true, recurses := true, named := ["unicode/utf8.first", "unicode/utf8.acceptRanges", "wattle/sel.states", "internal/bytealg.MaxLen"], loops := true, apart := false, laid := [("unicode/utf8.acceptRanges", laid_unicode_utf8_acceptRanges), ("wattle/sel.states", laid_wattle_sel_states), ("unicode/utf8.first", laid_unicode_utf8_first)] }
def MatchLaterSaid : Prop := matchLaterRow.holds Tryz.pinned (OpenSpec.ofChange matchLaterSpec)

/-- ITS FALSE NEIGHBOUR: 'it returns false'. Refute it at one input. -/
def matchLaterWrong : ChangeSpec := { name := "matchLater", fn := fun _ => fun
  | [d1, d2, d3, d4] => { results := [.lit (.bool false)], args := [d1, d2, d3, d4] }
  | _ => none }
def MatchLaterWrongFalsely : Prop := matchLaterRow.holds Tryz.pinned (OpenSpec.ofChange matchLaterWrong)

/-- 'wattlelaw12.MatchAll': WHATEVER THE INPUT: true; the input reads as it did. -/
def matchAllSpec : ChangeSpec := { name := "matchAll", fn := fun _ => fun
  | [d1, d2, d3] => { results := [.lit (.bool true)], args := [d1, d2, d3] }
  | _ => none }
def matchAllRow : OpenClaim := { program := "ytcogfddcdpgpkaagreatdoor", sum := "e84b26d94efdcc06021a2a0c6a2e34a3736e2b4d5109a2dea635b3c745c542b0", func := "wattle/wattlelaw12.MatchAll", spec := "matchAll", inPlace := ["internal/bytealg.IndexByteString", "internal/bytealg.IndexString"], unfollowed := true, recurses := true, named := ["unicode/utf8.first", "unicode/utf8.acceptRanges", "wattle/sel.states", "internal/bytealg.MaxLen", "wattle/match.elements"], loops := true, apart := false, laid := [("unicode/utf8.acceptRanges", laid_unicode_utf8_acceptRanges), ("wattle/sel.states", laid_wattle_sel_states), ("wattle/match.elements", laid_wattle_match_elements), ("unicode/utf8.first", laid_unicode_utf8_first)] }
def MatchAllSaid : Prop := matchAllRow.holds Tryz.pinned (OpenSpec.ofChange matchAllSpec)

/-- ITS FALSE NEIGHBOUR: 'it returns false'. Refute it at one input. -/
def matchAllWrong : ChangeSpec := { name := "matchAll", fn := fun _ => fun
  | [d1, d2, d3] => { results := [.lit (.bool false)], args := [d1, d2, d3] }
  | _ => none }
def MatchAllWrongFalsely : Prop := matchAllRow.holds Tryz.pinned (OpenSpec.ofChange matchAllWrong)

/-- 'wattlelaw12.MatchLists': WHATEVER THE INPUT: true; the input reads as it did. -/
def matchListsSpec : ChangeSpec := { name := "matchLists", fn := fun _ => fun
  | [d1, d2, d3, d4] => { results := [.lit (.bool true)], args := [d1, d2, d3, d4] }
  | _ => none }
def matchListsRow : OpenClaim := { program := "ytcogfddcdpgpkaagreatdoor", sum := "e84b26d94efdcc06021a2a0c6a2e34a3736e2b4d5109a2dea635b3c745c542b0", func := "wattle/wattlelaw12.MatchLists", spec := "matchLists", inPlace := ["internal/bytealg.IndexByteString", "internal/bytealg.IndexString"], unfollowed := true, recurses := true, named := ["unicode/utf8.first", "unicode/utf8.acceptRanges", "wattle/sel.states", "internal/bytealg.MaxLen"], loops := true, apart := false, laid := [("unicode/utf8.acceptRanges", laid_unicode_utf8_acceptRanges), ("wattle/sel.states", laid_wattle_sel_states), ("unicode/utf8.first", laid_unicode_utf8_first)] }
def MatchListsSaid : Prop := matchListsRow.holds Tryz.pinned (OpenSpec.ofChange matchListsSpec)

/-- ITS FALSE NEIGHBOUR: 'it returns false'. Refute it at one input. -/
def matchListsWrong : ChangeSpec := { name := "matchLists", fn := fun _ => fun
  | [d1, d2, d3, d4] => { results := [.lit (.bool false)], args := [d1, d2, d3, d4] }
  | _ => none }
def MatchListsWrongFalsely : Prop := matchListsRow.holds Tryz.pinned (OpenSpec.ofChange matchListsWrong)

/-- 'wattlelaw12.MatchJoined': WHATEVER THE INPUT: true; the input reads as it did. -/
def matchJoinedSpec : ChangeSpec := { name := "matchJoined", fn := fun _ => fun
  | [d1, d2, d3, d4, d5] => { results := [.lit (.bool true)], args := [d1, d2, d3, d4, d5] }
  | _ => none }
def matchJoinedRow : OpenClaim := { program := "ytcogfddcdpgpkaagreatdoor", sum := "e84b26d94efdcc06021a2a0c6a2e34a3736e2b4d5109a2dea635b3c745c542b0", func := "wattle/wattlelaw12.MatchJoined", spec := "matchJoined", inPlace := ["internal/bytealg.IndexByteString", "internal/bytealg.IndexString"], unfollowed := true, recurses := true, named := ["unicode/utf8.first", "unicode/utf8.acceptRanges", "wattle/sel.states", "internal/bytealg.MaxLen"], loops := true, apart := false, laid := [("unicode/utf8.acceptRanges", laid_unicode_utf8_acceptRanges), ("wattle/sel.states", laid_wattle_sel_states), ("unicode/utf8.first", laid_unicode_utf8_first)] }
def MatchJoinedSaid : Prop := matchJoinedRow.holds Tryz.pinned (OpenSpec.ofChange matchJoinedSpec)

/-- ITS FALSE NEIGHBOUR: 'it returns false'. Refute it at one input. -/
def matchJoinedWrong : ChangeSpec := { name := "matchJoined", fn := fun _ => fun
  | [d1, d2, d3, d4, d5] => { results := [.lit (.bool false)], args := [d1, d2, d3, d4, d5] }
  | _ => none }
def MatchJoinedWrongFalsely : Prop := matchJoinedRow.holds Tryz.pinned (OpenSpec.ofChange matchJoinedWrong)

/- THE SECOND FORM. 'bulk': how many values and letters a reading holds, each counted each time it is reached (what is shared counts as often as it is met; a slice's spare places count too). A statement '..UptoSaid' is the law's where the arguments, and the package variables that the reading takes, are together of bulk at most 1048576: NARROWER than '..Said'. Prove '..Said' where nothing that the law and all that it calls make is longer than what came in: it says more and counts as full. Else prove '..UptoSaid'. A law counts once. -/
mutual
def uptoBulk {H : Type} : DataW H → Nat
  | .lit (.string bytes) => bytes.length + 1
  | .lit _ => 1
  | .nil => 1
  | .ptr d => uptoBulk d + 1
  | .slice elems spare => uptoBulkAll elems + uptoBulkAll spare + 1
  | .agg parts => uptoBulkAll parts + 1
  | .iface _ d => uptoBulk d + 1
  | .map entries => uptoBulkEntries entries + 1
  | .held _ => 1
def uptoBulkAll {H : Type} : List (DataW H) → Nat
  | [] => 0
  | d :: r => uptoBulk d + uptoBulkAll r
def uptoBulkEntries {H : Type} : List (Lit × DataW H) → Nat
  | [] => 0
  | x :: r => uptoBulkEntry x + uptoBulkEntries r
def uptoBulkEntry {H : Type} : Lit × DataW H → Nat
  | (.string bytes, d) => bytes.length + uptoBulk d + 1
  | (_, d) => uptoBulk d + 1
 end
def uptoSmall : (H : Type) → List (DataW H) → Bool := fun _ ds => decide (uptoBulkAll ds ≤ 1048576)
def OpenSpec.upto (s : _root_.Go.ChangeSpec) : _root_.Go.OpenSpec := { _root_.Go.OpenSpec.ofChange s with cond := some uptoSmall }

/-- 'wattlelaw12.MatchNots', WHERE WHAT IT READS IS OF BULK AT MOST 1048576: true; the input reads as it did. -/
def matchNotsUptoRow : OpenClaim := { program := "ytcogfddcdpgpkaagreatdoor", sum := "e84b26d94efdcc06021a2a0c6a2e34a3736e2b4d5109a2dea635b3c745c542b0", func := "wattle/wattlelaw12.MatchNots", spec := "matchNots", inPlace := ["internal/bytealg.IndexByteString", "internal/bytealg.IndexString"], unfollowed := true, recurses := true, named := ["unicode/utf8.first", "unicode/utf8.acceptRanges", "wattle/sel.states", "internal/bytealg.MaxLen"], loops := true, apart := false, laid := [("unicode/utf8.acceptRanges", laid_unicode_utf8_acceptRanges), ("wattle/sel.states", laid_wattle_sel_states), ("unicode/utf8.first", laid_unicode_utf8_first)], narrowed := true }
def MatchNotsUptoSaid : Prop := matchNotsUptoRow.holds Tryz.pinned (OpenSpec.upto matchNotsSpec)

/-- 'wattlelaw12.MatchLater', WHERE WHAT IT READS IS OF BULK AT MOST 1048576: true; the input reads as it did. -/
def matchLaterUptoRow : OpenClaim := { program := "ytcogfddcdpgpkaagreatdoor", sum := "e84b26d94efdcc06021a2a0c6a2e34a3736e2b4d5109a2dea635b3c745c542b0", func := "wattle/wattlelaw12.MatchLater", spec := "matchLater", inPlace := ["internal/bytealg.IndexByteString", "internal/bytealg.IndexString"], unfollowed := true, recurses := true, named := ["unicode/utf8.first", "unicode/utf8.acceptRanges", "wattle/sel.states", "internal/bytealg.MaxLen"], loops := true, apart := false, laid := [("unicode/utf8.acceptRanges", laid_unicode_utf8_acceptRanges), ("wattle/sel.states", laid_wattle_sel_states), ("unicode/utf8.first", laid_unicode_utf8_first)], narrowed := true }
def MatchLaterUptoSaid : Prop := matchLaterUptoRow.holds Tryz.pinned (OpenSpec.upto matchLaterSpec)

/-- 'wattlelaw12.MatchAll', WHERE WHAT IT READS IS OF BULK AT MOST 1048576: true; the input reads as it did. -/
def matchAllUptoRow : OpenClaim := { program := "ytcogfddcdpgpkaagreatdoor", sum := "e84b26d94efdcc06021a2a0c6a2e34a3736e2b4d5109a2dea635b3c745c542b0", func := "wattle/wattlelaw12.MatchAll", spec := "matchAll", inPlace := ["internal/bytealg.IndexByteString", "internal/bytealg.IndexString"], unfollowed := true, recurses := true, named := ["unicode/utf8.first", "unicode/utf8.acceptRanges", "wattle/sel.states", "internal/bytealg.MaxLen", "wattle/match.elements"], loops := true, apart := false, laid := [("unicode/utf8.acceptRanges", laid_unicode_utf8_acceptRanges), ("wattle/sel.states", laid_wattle_sel_states), ("wattle/match.elements", laid_wattle_match_elements), ("unicode/utf8.first", laid_unicode_utf8_first)], narrowed := true }
def MatchAllUptoSaid : Prop := matchAllUptoRow.holds Tryz.pinned (OpenSpec.upto matchAllSpec)

/-- 'wattlelaw12.MatchLists', WHERE WHAT IT READS IS OF BULK AT MOST 1048576: true; the input reads as it did. -/
def matchListsUptoRow : OpenClaim := { program := "ytcogfddcdpgpkaagreatdoor", sum := "e84b26d94efdcc06021a2a0c6a2e34a3736e2b4d5109a2dea635b3c745c542b0", func := "wattle/wattlelaw12.MatchLists", spec := "matchLists", inPlace := ["internal/bytealg.IndexByteString", "internal/bytealg.IndexString"], unfollowed := true, recurses := true, named := ["unicode/utf8.first", "unicode/utf8.acceptRanges", "wattle/sel.states", "internal/bytealg.MaxLen"], loops := true, apart := false, laid := [("unicode/utf8.acceptRanges", laid_unicode_utf8_acceptRanges), ("wattle/sel.states", laid_wattle_sel_states), ("unicode/utf8.first", laid_unicode_utf8_first)], narrowed := true }
def MatchListsUptoSaid : Prop := matchListsUptoRow.holds Tryz.pinned (OpenSpec.upto matchListsSpec)

/-- 'wattlelaw12.MatchJoined', WHERE WHAT IT READS IS OF BULK AT MOST 1048576: true; the input reads as it did. -/
def matchJoinedUptoRow : OpenClaim := { program := "ytcogfddcdpgpkaagreatdoor", sum := "e84b26d94efdcc06021a2a0c6a2e34a3736e2b4d5109a2dea635b3c745c542b0", func := "wattle/wattlelaw12.MatchJoined", spec := "matchJoined", inPlace := ["internal/bytealg.IndexByteString", "internal/bytealg.IndexString"], unfollowed := true, recurses := true, named := ["unicode/utf8.first", "unicode/utf8.acceptRanges", "wattle/sel.states", "internal/bytealg.MaxLen"], loops := true, apart := false, laid := [("unicode/utf8.acceptRanges", laid_unicode_utf8_acceptRanges), ("wattle/sel.states", laid_wattle_sel_states), ("unicode/utf8.first", laid_unicode_utf8_first)], narrowed := true }
def MatchJoinedUptoSaid : Prop := matchJoinedUptoRow.holds Tryz.pinned (OpenSpec.upto matchJoinedSpec)

end Rows
end Go.Proofs.YtcogfddcdpgpkaaGreatDoor
