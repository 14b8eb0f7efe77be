/-
  NARROWER THAN 'FOR EVERY INPUT', by the rows' own cells (each row's printed sentence says how): CascadeBeats: laid · CascadeMore: laid · CascadeLast: laid · CascadeWins: laid.
  DERIVED. THE GIVEN ROWS OF THIS SEAT. 4 by the template 'for every input the law returns true; each argument reads behind the call as it read before'; 0 by the template 'total and deterministic' (their statements: YtolpadbdjhmfgaaGreatDoorTotals.lean).
  GIVEN WITH THE SEED: the statements are not yours to turn. If you find one false, say at which input.
  Laid BY PROGRAM, IN A SANDBOX (cutbox-rows.mjs): the forced cells as the released guide's own fill.sh prints them over the translation 14d76b6e6cb569f4… (all of the seat's roots in one cut). By AI agents, Wed Nov 11 2026. No macro, syntax, notation, axiom, sorry.
-/
import Derived.Test.YtolpadbdjhmfgaaGreatDoorChecked
import GoSem.PinnedTables
import GoSem.Claim
import GoSem.ClaimJoined
import GoSem.ClaimMapViews
import Derived.JoinedTies
import Derived.KernelRfl
namespace Go.Proofs.YtolpadbdjhmfgaaGreatDoor
/- THE CELL 'sum', in the pinned program and in every row, IS THE sha256 OF THE DUMP (.gsa) THAT YtolpadbdjhmfgaaGreatDoorProg.lean LOADS. Nothing in Lean hashes anything: it is a label: what it is worth is what the hold of that sum in a sandbox is worth. -/
noncomputable def Tryz.pinned : Pinned := { name := "ytolpadbdjhmfgaagreatdoor", sum := "14d76b6e6cb569f4698839dc1b0862863031c7effe2542140d46dbac4ceb1951", checked := Tryz.checked }
namespace Rows
def none {H : Type} : Left H := { results := [], args := [] }

/- WHAT THE LISTED PACKAGE-LEVEL VARIABLES READ AS WHEN THE CALL BEGINS. Each datum BY PROGRAM (the guide's laid-datum.mjs) off the statement by which the dump's own 'gosem.cut.vars' lays the variable. In a bare row this is a premise. The card (YtolpadbdjhmfgaaGreatDoorCards.lean) ties it to the program's text. -/
def laid_unicode_utf8_acceptRanges {H : Type} : DataW H := .agg [.agg [.lit (.int .u8 128), .lit (.int .u8 191)], .agg [.lit (.int .u8 160), .lit (.int .u8 191)], .agg [.lit (.int .u8 128), .lit (.int .u8 159)], .agg [.lit (.int .u8 144), .lit (.int .u8 191)], .agg [.lit (.int .u8 128), .lit (.int .u8 143)], .agg [.lit (.int .u8 0), .lit (.int .u8 0)], .agg [.lit (.int .u8 0), .lit (.int .u8 0)], .agg [.lit (.int .u8 0), .lit (.int .u8 0)], .agg [.lit (.int .u8 0), .lit (.int .u8 0)], .agg [.lit (.int .u8 0), .lit (.int .u8 0)], .agg [.lit (.int .u8 0), .lit (.int .u8 0)], .agg [.lit (.int .u8 0), .lit (.int .u8 0)], .agg [.lit (.int .u8 0), .lit (.int .u8 0)], .agg [.lit (.int .u8 0), .lit (.int .u8 0)], .agg [.lit (.int .u8 0), .lit (.int .u8 0)], .agg [.lit (.int .u8 0), .lit (.int .u8 0)]]
def laid_wattle_sel_states {H : Type} : DataW H := .agg [.lit (.string [104, 111, 118, 101, 114]), .lit (.string [97, 99, 116, 105, 118, 101]), .lit (.string [102, 111, 99, 117, 115]), .lit (.string [102, 111, 99, 117, 115, 45, 118, 105, 115, 105, 98, 108, 101]), .lit (.string [118, 105, 115, 105, 116, 101, 100]), .lit (.string [108, 105, 110, 107]), .lit (.string [99, 104, 101, 99, 107, 101, 100]), .lit (.string [100, 105, 115, 97, 98, 108, 101, 100]), .lit (.string [101, 110, 97, 98, 108, 101, 100]), .lit (.string [116, 97, 114, 103, 101, 116])]
/-- One of Go's own tables, pinned by name: the form's constant. -/
def laid_unicode_utf8_first : DataW Unit := Go.Pinned.utf8First

/-- 'wattlelaw21.CascadeBeats': WHATEVER THE INPUT: true; the input reads as it did. -/
def cascadeBeatsSpec : ChangeSpec := { name := "cascadeBeats", fn := fun _ => fun
  | [d1, d2] => { results := [.lit (.bool true)], args := [d1, d2] }
  | _ => none }
def cascadeBeatsRow : OpenClaim := { program := "ytolpadbdjhmfgaagreatdoor", sum := "14d76b6e6cb569f4698839dc1b0862863031c7effe2542140d46dbac4ceb1951", func := "wattle/wattlelaw21.CascadeBeats", spec := "cascadeBeats", inPlace := ["internal/bytealg.IndexByteString", "internal/bytealg.IndexString"], unfollowed := true, recurses := true, named := ["unicode/utf8.first", "unicode/utf8.acceptRanges", "wattle/sel.states", "internal/bytealg.MaxLen"], apart := false, laid := [("unicode/utf8.acceptRanges", laid_unicode_utf8_acceptRanges), ("wattle/sel.states", laid_wattle_sel_states), ("unicode/utf8.first", laid_unicode_utf8_first)] }
def CascadeBeatsSaid : Prop := cascadeBeatsRow.holds Tryz.pinned (OpenSpec.ofChange cascadeBeatsSpec)

/-- ITS FALSE NEIGHBOUR: 'it returns false'. Refute it at one input. -/
def cascadeBeatsWrong : ChangeSpec := { name := "cascadeBeats", fn := fun _ => fun
  | [d1, d2] => { results := [.lit (.bool false)], args := [d1, d2] }
  | _ => none }
def CascadeBeatsWrongFalsely : Prop := cascadeBeatsRow.holds Tryz.pinned (OpenSpec.ofChange cascadeBeatsWrong)

/-- 'wattlelaw21.CascadeMore': WHATEVER THE INPUT: true; the input reads as it did. -/
def cascadeMoreSpec : ChangeSpec := { name := "cascadeMore", fn := fun _ => fun
  | [d1, d2, d3, d4, d5] => { results := [.lit (.bool true)], args := [d1, d2, d3, d4, d5] }
  | _ => none }
def cascadeMoreRow : OpenClaim := { program := "ytolpadbdjhmfgaagreatdoor", sum := "14d76b6e6cb569f4698839dc1b0862863031c7effe2542140d46dbac4ceb1951", func := "wattle/wattlelaw21.CascadeMore", spec := "cascadeMore", inPlace := ["internal/bytealg.IndexByteString", "internal/bytealg.IndexString"], unfollowed := true, recurses := true, named := ["unicode/utf8.first", "unicode/utf8.acceptRanges", "wattle/sel.states", "internal/bytealg.MaxLen"], apart := false, laid := [("unicode/utf8.acceptRanges", laid_unicode_utf8_acceptRanges), ("wattle/sel.states", laid_wattle_sel_states), ("unicode/utf8.first", laid_unicode_utf8_first)] }
def CascadeMoreSaid : Prop := cascadeMoreRow.holds Tryz.pinned (OpenSpec.ofChange cascadeMoreSpec)

/-- ITS FALSE NEIGHBOUR: 'it returns false'. Refute it at one input. -/
def cascadeMoreWrong : ChangeSpec := { name := "cascadeMore", fn := fun _ => fun
  | [d1, d2, d3, d4, d5] => { results := [.lit (.bool false)], args := [d1, d2, d3, d4, d5] }
  | _ => none }
def CascadeMoreWrongFalsely : Prop := cascadeMoreRow.holds Tryz.pinned (OpenSpec.ofChange cascadeMoreWrong)

/-- 'wattlelaw21.CascadeLast': WHATEVER THE INPUT: true; the input reads as it did. -/
def cascadeLastSpec : ChangeSpec := { name := "cascadeLast", fn := fun _ => fun
  | [d1, d2, d3, d4, d5] => { results := [.lit (.bool true)], args := [d1, d2, d3, d4, d5] }
  | _ => none }
def cascadeLastRow : OpenClaim := { program := "ytolpadbdjhmfgaagreatdoor", sum := "14d76b6e6cb569f4698839dc1b0862863031c7effe2542140d46dbac4ceb1951", func := "wattle/wattlelaw21.CascadeLast", spec := "cascadeLast", inPlace := ["internal/bytealg.IndexByteString", "internal/bytealg.IndexString"], unfollowed := true, recurses := true, named := ["unicode/utf8.first", "unicode/utf8.acceptRanges", "wattle/sel.states", "internal/bytealg.MaxLen"], apart := false, laid := [("unicode/utf8.acceptRanges", laid_unicode_utf8_acceptRanges), ("wattle/sel.states", laid_wattle_sel_states), ("unicode/utf8.first", laid_unicode_utf8_first)] }
def CascadeLastSaid : Prop := cascadeLastRow.holds Tryz.pinned (OpenSpec.ofChange cascadeLastSpec)

/-- ITS FALSE NEIGHBOUR: 'it returns false'. Refute it at one input. -/
def cascadeLastWrong : ChangeSpec := { name := "cascadeLast", fn := fun _ => fun
  | [d1, d2, d3, d4, d5] => { results := [.lit (.bool false)], args := [d1, d2, d3, d4, d5] }
  | _ => none }
def CascadeLastWrongFalsely : Prop := cascadeLastRow.holds Tryz.pinned (OpenSpec.ofChange cascadeLastWrong)

/-- 'wattlelaw21.CascadeWins': WHATEVER THE INPUT: true; the input reads as it did. -/
def cascadeWinsSpec : ChangeSpec := { name := "cascadeWins", fn := fun _ => fun
  | [d1, d2, d3, d4] => { results := [.lit (.bool true)], args := [d1, d2, d3, d4] }
  | _ => none }
def cascadeWinsRow : OpenClaim := { program := "ytolpadbdjhmfgaagreatdoor", sum := "14d76b6e6cb569f4698839dc1b0862863031c7effe2542140d46dbac4ceb1951", func := "wattle/wattlelaw21.CascadeWins", spec := "cascadeWins", inPlace := ["internal/bytealg.IndexByteString", "internal/bytealg.IndexString"], unfollowed := true, recurses := true, named := ["unicode/utf8.first", "unicode/utf8.acceptRanges", "wattle/sel.states", "internal/bytealg.MaxLen"], apart := false, laid := [("unicode/utf8.acceptRanges", laid_unicode_utf8_acceptRanges), ("wattle/sel.states", laid_wattle_sel_states), ("unicode/utf8.first", laid_unicode_utf8_first)] }
def CascadeWinsSaid : Prop := cascadeWinsRow.holds Tryz.pinned (OpenSpec.ofChange cascadeWinsSpec)

/-- ITS FALSE NEIGHBOUR: 'it returns false'. Refute it at one input. -/
def cascadeWinsWrong : ChangeSpec := { name := "cascadeWins", fn := fun _ => fun
  | [d1, d2, d3, d4] => { results := [.lit (.bool false)], args := [d1, d2, d3, d4] }
  | _ => none }
def CascadeWinsWrongFalsely : Prop := cascadeWinsRow.holds Tryz.pinned (OpenSpec.ofChange cascadeWinsWrong)

/- THE SECOND FORM. 'bulk': how many values and letters a reading holds, each counted each time it is reached (what is shared counts as often as it is met; a slice's spare places count too). A statement '..UptoSaid' is the law's where the arguments, and the package variables that the reading takes, are together of bulk at most 1048576: NARROWER than '..Said'. Prove '..Said' where nothing that the law and all that it calls make is longer than what came in: it says more and counts as full. Else prove '..UptoSaid'. A law counts once. -/
mutual
def uptoBulk {H : Type} : DataW H → Nat
  | .lit (.string bytes) => bytes.length + 1
  | .lit _ => 1
  | .nil => 1
  | .ptr d => uptoBulk d + 1
  | .slice elems spare => uptoBulkAll elems + uptoBulkAll spare + 1
  | .agg parts => uptoBulkAll parts + 1
  | .iface _ d => uptoBulk d + 1
  | .map entries => uptoBulkEntries entries + 1
  | .held _ => 1
def uptoBulkAll {H : Type} : List (DataW H) → Nat
  | [] => 0
  | d :: r => uptoBulk d + uptoBulkAll r
def uptoBulkEntries {H : Type} : List (Lit × DataW H) → Nat
  | [] => 0
  | x :: r => uptoBulkEntry x + uptoBulkEntries r
def uptoBulkEntry {H : Type} : Lit × DataW H → Nat
  | (.string bytes, d) => bytes.length + uptoBulk d + 1
  | (_, d) => uptoBulk d + 1
 end
def uptoSmall : (H : Type) → List (DataW H) → Bool := fun _ ds => decide (uptoBulkAll ds ≤ 1048576)
def OpenSpec.upto (s : _root_.Go.ChangeSpec) : _root_.Go.OpenSpec := { _root_.Go.OpenSpec.ofChange s with cond := some uptoSmall }

/-- 'wattlelaw21.CascadeBeats', WHERE WHAT IT READS IS OF BULK AT MOST 1048576: true; the input reads as it did. -/
def cascadeBeatsUptoRow : OpenClaim := { program := "ytolpadbdjhmfgaagreatdoor", sum := "14d76b6e6cb569f4698839dc1b0862863031c7effe2542140d46dbac4ceb1951", func := "wattle/wattlelaw21.CascadeBeats", spec := "cascadeBeats", inPlace := ["internal/bytealg.IndexByteString", "internal/bytealg.IndexString"], unfollowed := true, recurses := true, named := ["unicode/utf8.first", "unicode/utf8.acceptRanges", "wattle/sel.states", "internal/bytealg.MaxLen"], apart := false, laid := [("unicode/utf8.acceptRanges", laid_unicode_utf8_acceptRanges), ("wattle/sel.states", laid_wattle_sel_states), ("unicode/utf8.first", laid_unicode_utf8_first)], narrowed := true }
def CascadeBeatsUptoSaid : Prop := cascadeBeatsUptoRow.holds Tryz.pinned (OpenSpec.upto cascadeBeatsSpec)

/-- 'wattlelaw21.CascadeMore', WHERE WHAT IT READS IS OF BULK AT MOST 1048576: true; the input reads as it did. -/
def cascadeMoreUptoRow : OpenClaim := { program := "ytolpadbdjhmfgaagreatdoor", sum := "14d76b6e6cb569f4698839dc1b0862863031c7effe2542140d46dbac4ceb1951", func := "wattle/wattlelaw21.CascadeMore", spec := "cascadeMore", inPlace := ["internal/bytealg.IndexByteString", "internal/bytealg.IndexString"], unfollowed := true, recurses := true, named := ["unicode/utf8.first", "unicode/utf8.acceptRanges", "wattle/sel.states", "internal/bytealg.MaxLen"], apart := false, laid := [("unicode/utf8.acceptRanges", laid_unicode_utf8_acceptRanges), ("wattle/sel.states", laid_wattle_sel_states), ("unicode/utf8.first", laid_unicode_utf8_first)], narrowed := true }
def CascadeMoreUptoSaid : Prop := cascadeMoreUptoRow.holds Tryz.pinned (OpenSpec.upto cascadeMoreSpec)

/-- 'wattlelaw21.CascadeLast', WHERE WHAT IT READS IS OF BULK AT MOST 1048576: true; the input reads as it did. -/
def cascadeLastUptoRow : OpenClaim := { program := "ytolpadbdjhmfgaagreatdoor", sum := "14d76b6e6cb569f4698839dc1b0862863031c7effe2542140d46dbac4ceb1951", func := "wattle/wattlelaw21.CascadeLast", spec := "cascadeLast", inPlace := ["internal/bytealg.IndexByteString", "internal/bytealg.IndexString"], unfollowed := true, recurses := true, named := ["unicode/utf8.first", "unicode/utf8.acceptRanges", "wattle/sel.states", "internal/bytealg.MaxLen"], apart := false, laid := [("unicode/utf8.acceptRanges", laid_unicode_utf8_acceptRanges), ("wattle/sel.states", laid_wattle_sel_states), ("unicode/utf8.first", laid_unicode_utf8_first)], narrowed := true }
def CascadeLastUptoSaid : Prop := cascadeLastUptoRow.holds Tryz.pinned (OpenSpec.upto cascadeLastSpec)

/-- 'wattlelaw21.CascadeWins', WHERE WHAT IT READS IS OF BULK AT MOST 1048576: true; the input reads as it did. -/
def cascadeWinsUptoRow : OpenClaim := { program := "ytolpadbdjhmfgaagreatdoor", sum := "14d76b6e6cb569f4698839dc1b0862863031c7effe2542140d46dbac4ceb1951", func := "wattle/wattlelaw21.CascadeWins", spec := "cascadeWins", inPlace := ["internal/bytealg.IndexByteString", "internal/bytealg.IndexString"], unfollowed := true, recurses := true, named := ["unicode/utf8.first", "unicode/utf8.acceptRanges", "wattle/sel.states", "internal/bytealg.MaxLen"], apart := false, laid := [("unicode/utf8.acceptRanges", laid_unicode_utf8_acceptRanges), ("wattle/sel.states", laid_wattle_sel_states), ("unicode/utf8.first", laid_unicode_utf8_first)], narrowed := true }
def CascadeWinsUptoSaid : Prop := cascadeWinsUptoRow.holds Tryz.pinned (OpenSpec.upto cascadeWinsSpec)

end Rows
end Go.Proofs.YtolpadbdjhmfgaaGreatDoor
