/-
  NARROWER THAN 'FOR EVERY INPUT', by the rows' own cells (each row's printed sentence says how): PlantRows: laid · PlantDrops: laid · PlantDocs: laid.
  DERIVED. THE GIVEN ROWS OF THIS SEAT. 3 by the template 'for every input the law returns true; each argument reads behind the call as it read before'; 0 by the template 'total and deterministic' (their statements: YtfhpckkldelkcaaDoorTotals.lean).
  GIVEN WITH THE SEED: the statements are not yours to turn. If you find one false, say at which input.
  Laid BY PROGRAM, IN A SANDBOX (cutbox-rows.mjs): the forced cells as the released guide's own fill.sh prints them over the translation b08e73d6d95d4028… (all of the seat's roots in one cut). By AI agents, Wed Nov 11 2026. No macro, syntax, notation, axiom, sorry.
-/
import Derived.Test.YtfhpckkldelkcaaDoorChecked
import GoSem.PinnedTables
import GoSem.Claim
import GoSem.ClaimJoined
import GoSem.ClaimMapViews
import Derived.JoinedTies
import Derived.KernelRfl
namespace Go.Proofs.YtfhpckkldelkcaaDoor
/- THE CELL 'sum', in the pinned program and in every row, IS THE sha256 OF THE DUMP (.gsa) THAT YtfhpckkldelkcaaDoorProg.lean LOADS. Nothing in Lean hashes anything: it is a label: what it is worth is what the hold of that sum in a sandbox is worth. -/
noncomputable def Tryd.pinned : Pinned := { name := "ytfhpckkldelkcaadoor", sum := "b08e73d6d95d40286055ac93a5b29e86887f851b11e3092d7e89895fcfc040bb", checked := Tryd.checked }
namespace Rows
def none {H : Type} : Left H := { results := [], args := [] }

/- WHAT THE LISTED PACKAGE-LEVEL VARIABLES READ AS WHEN THE CALL BEGINS. Each datum BY PROGRAM (the guide's laid-datum.mjs) off the statement by which the dump's own 'gosem.cut.vars' lays the variable. In a bare row this is a premise. The card (YtfhpckkldelkcaaDoorCards.lean) ties it to the program's text. -/
def laid_unicode_utf8_acceptRanges {H : Type} : DataW H := .agg [.agg [.lit (.int .u8 128), .lit (.int .u8 191)], .agg [.lit (.int .u8 160), .lit (.int .u8 191)], .agg [.lit (.int .u8 128), .lit (.int .u8 159)], .agg [.lit (.int .u8 144), .lit (.int .u8 191)], .agg [.lit (.int .u8 128), .lit (.int .u8 143)], .agg [.lit (.int .u8 0), .lit (.int .u8 0)], .agg [.lit (.int .u8 0), .lit (.int .u8 0)], .agg [.lit (.int .u8 0), .lit (.int .u8 0)], .agg [.lit (.int .u8 0), .lit (.int .u8 0)], .agg [.lit (.int .u8 0), .lit (.int .u8 0)], .agg [.lit (.int .u8 0), .lit (.int .u8 0)], .agg [.lit (.int .u8 0), .lit (.int .u8 0)], .agg [.lit (.int .u8 0), .lit (.int .u8 0)], .agg [.lit (.int .u8 0), .lit (.int .u8 0)], .agg [.lit (.int .u8 0), .lit (.int .u8 0)], .agg [.lit (.int .u8 0), .lit (.int .u8 0)]]
def laid_wattle_sel_states {H : Type} : DataW H := .agg [.lit (.string [104, 111, 118, 101, 114]), .lit (.string [97, 99, 116, 105, 118, 101]), .lit (.string [102, 111, 99, 117, 115]), .lit (.string [102, 111, 99, 117, 115, 45, 118, 105, 115, 105, 98, 108, 101]), .lit (.string [118, 105, 115, 105, 116, 101, 100]), .lit (.string [108, 105, 110, 107]), .lit (.string [99, 104, 101, 99, 107, 101, 100]), .lit (.string [100, 105, 115, 97, 98, 108, 101, 100]), .lit (.string [101, 110, 97, 98, 108, 101, 100]), .lit (.string [116, 97, 114, 103, 101, 116])]
/-- One of Go's own tables, pinned by name: the form's constant. -/
def laid_unicode_utf8_first : DataW Unit := Go.Pinned.utf8First
def laid_errors_errorType {H : Type} : DataW H := .iface "internal/reflectlite.rtype" (.agg [.ptr (.lit (.string [101, 114, 114, 111, 114]))])

/-- 'wattlelaw17.PlantRows': WHATEVER THE INPUT: true; the input reads as it did. -/
def plantRowsSpec : ChangeSpec := { name := "plantRows", fn := fun _ => fun
  | [d] => { results := [.lit (.bool true)], args := [d] }
  | _ => none }
def plantRowsRow : OpenClaim := { program := "ytfhpckkldelkcaadoor", sum := "b08e73d6d95d40286055ac93a5b29e86887f851b11e3092d7e89895fcfc040bb", func := "wattle/wattlelaw17.PlantRows", spec := "plantRows", unfollowed := true, recurses := true, named := ["unicode/utf8.first", "unicode/utf8.acceptRanges", "wattle/sel.states"], apart := false, laid := [("unicode/utf8.acceptRanges", laid_unicode_utf8_acceptRanges), ("wattle/sel.states", laid_wattle_sel_states), ("unicode/utf8.first", laid_unicode_utf8_first)] }
def PlantRowsSaid : Prop := plantRowsRow.holds Tryd.pinned (OpenSpec.ofChange plantRowsSpec)

/-- ITS FALSE NEIGHBOUR: 'it returns false'. Refute it at one input. -/
def plantRowsWrong : ChangeSpec := { name := "plantRows", fn := fun _ => fun
  | [d] => { results := [.lit (.bool false)], args := [d] }
  | _ => none }
def PlantRowsWrongFalsely : Prop := plantRowsRow.holds Tryd.pinned (OpenSpec.ofChange plantRowsWrong)

/-- 'wattlelaw17.PlantDrops': WHATEVER THE INPUT: true; the input reads as it did. -/
def plantDropsSpec : ChangeSpec := { name := "plantDrops", fn := fun _ => fun
  | [d1, d2, d3] => { results := [.lit (.bool true)], args := [d1, d2, d3] }
  | _ => none }
def plantDropsRow : OpenClaim := { program := "ytfhpckkldelkcaadoor", sum := "b08e73d6d95d40286055ac93a5b29e86887f851b11e3092d7e89895fcfc040bb", func := "wattle/wattlelaw17.PlantDrops", spec := "plantDrops", inPlace := ["internal/reflectlite.ValueOf", "(internal/reflectlite.Value).Type", "(internal/reflectlite.Value).IsNil", "internal/reflectlite.TypeOf", "(internal/reflectlite.Value).Elem", "(internal/reflectlite.Value).Set"], unfollowed := true, recurses := true, named := ["unicode/utf8.first", "unicode/utf8.acceptRanges", "wattle/sel.states", "errors.errorType"], apart := false, laid := [("unicode/utf8.acceptRanges", laid_unicode_utf8_acceptRanges), ("errors.errorType", laid_errors_errorType), ("wattle/sel.states", laid_wattle_sel_states), ("unicode/utf8.first", laid_unicode_utf8_first)] }
def PlantDropsSaid : Prop := plantDropsRow.holds Tryd.pinned (OpenSpec.ofChange plantDropsSpec)

/-- ITS FALSE NEIGHBOUR: 'it returns false'. Refute it at one input. -/
def plantDropsWrong : ChangeSpec := { name := "plantDrops", fn := fun _ => fun
  | [d1, d2, d3] => { results := [.lit (.bool false)], args := [d1, d2, d3] }
  | _ => none }
def PlantDropsWrongFalsely : Prop := plantDropsRow.holds Tryd.pinned (OpenSpec.ofChange plantDropsWrong)

/-- 'wattlelaw17.PlantDocs': WHATEVER THE INPUT: true; the input reads as it did. -/
def plantDocsSpec : ChangeSpec := { name := "plantDocs", fn := fun _ => fun
  | [d] => { results := [.lit (.bool true)], args := [d] }
  | _ => none }
def plantDocsRow : OpenClaim := { program := "ytfhpckkldelkcaadoor", sum := "b08e73d6d95d40286055ac93a5b29e86887f851b11e3092d7e89895fcfc040bb", func := "wattle/wattlelaw17.PlantDocs", spec := "plantDocs", inPlace := ["internal/reflectlite.ValueOf", "(internal/reflectlite.Value).Type", "(internal/reflectlite.Value).IsNil", "internal/reflectlite.TypeOf", "(internal/reflectlite.Value).Elem", "(internal/reflectlite.Value).Set"], unfollowed := true, recurses := true, named := ["unicode/utf8.first", "unicode/utf8.acceptRanges", "wattle/sel.states", "errors.errorType"], apart := false, laid := [("unicode/utf8.acceptRanges", laid_unicode_utf8_acceptRanges), ("errors.errorType", laid_errors_errorType), ("wattle/sel.states", laid_wattle_sel_states), ("unicode/utf8.first", laid_unicode_utf8_first)] }
def PlantDocsSaid : Prop := plantDocsRow.holds Tryd.pinned (OpenSpec.ofChange plantDocsSpec)

/-- ITS FALSE NEIGHBOUR: 'it returns false'. Refute it at one input. -/
def plantDocsWrong : ChangeSpec := { name := "plantDocs", fn := fun _ => fun
  | [d] => { results := [.lit (.bool false)], args := [d] }
  | _ => none }
def PlantDocsWrongFalsely : Prop := plantDocsRow.holds Tryd.pinned (OpenSpec.ofChange plantDocsWrong)

/- THE SECOND FORM. 'bulk': how many values and letters a reading holds, each counted each time it is reached (what is shared counts as often as it is met; a slice's spare places count too). A statement '..UptoSaid' is the law's where the arguments, and the package variables that the reading takes, are together of bulk at most 1048576: NARROWER than '..Said'. Prove '..Said' where nothing that the law and all that it calls make is longer than what came in: it says more and counts as full. Else prove '..UptoSaid'. A law counts once. -/
mutual
def uptoBulk {H : Type} : DataW H → Nat
  | .lit (.string bytes) => bytes.length + 1
  | .lit _ => 1
  | .nil => 1
  | .ptr d => uptoBulk d + 1
  | .slice elems spare => uptoBulkAll elems + uptoBulkAll spare + 1
  | .agg parts => uptoBulkAll parts + 1
  | .iface _ d => uptoBulk d + 1
  | .map entries => uptoBulkEntries entries + 1
  | .held _ => 1
def uptoBulkAll {H : Type} : List (DataW H) → Nat
  | [] => 0
  | d :: r => uptoBulk d + uptoBulkAll r
def uptoBulkEntries {H : Type} : List (Lit × DataW H) → Nat
  | [] => 0
  | x :: r => uptoBulkEntry x + uptoBulkEntries r
def uptoBulkEntry {H : Type} : Lit × DataW H → Nat
  | (.string bytes, d) => bytes.length + uptoBulk d + 1
  | (_, d) => uptoBulk d + 1
 end
def uptoSmall : (H : Type) → List (DataW H) → Bool := fun _ ds => decide (uptoBulkAll ds ≤ 1048576)
def OpenSpec.upto (s : _root_.Go.ChangeSpec) : _root_.Go.OpenSpec := { _root_.Go.OpenSpec.ofChange s with cond := some uptoSmall }

/-- 'wattlelaw17.PlantRows', WHERE WHAT IT READS IS OF BULK AT MOST 1048576: true; the input reads as it did. -/
def plantRowsUptoRow : OpenClaim := { program := "ytfhpckkldelkcaadoor", sum := "b08e73d6d95d40286055ac93a5b29e86887f851b11e3092d7e89895fcfc040bb", func := "wattle/wattlelaw17.PlantRows", spec := "plantRows", unfollowed := true, recurses := true, named := ["unicode/utf8.first", "unicode/utf8.acceptRanges", "wattle/sel.states"], apart := false, laid := [("unicode/utf8.acceptRanges", laid_unicode_utf8_acceptRanges), ("wattle/sel.states", laid_wattle_sel_states), ("unicode/utf8.first", laid_unicode_utf8_first)], narrowed := true }
def PlantRowsUptoSaid : Prop := plantRowsUptoRow.holds Tryd.pinned (OpenSpec.upto plantRowsSpec)

/-- 'wattlelaw17.PlantDrops', WHERE WHAT IT READS IS OF BULK AT MOST 1048576: true; the input reads as it did. -/
def plantDropsUptoRow : OpenClaim := { program := "ytfhpckkldelkcaadoor", sum := "b08e73d6d95d40286055ac93a5b29e86887f851b11e3092d7e89895fcfc040bb", func := "wattle/wattlelaw17.PlantDrops", spec := "plantDrops", inPlace := ["internal/reflectlite.ValueOf", "(internal/reflectlite.Value).Type", "(internal/reflectlite.Value).IsNil", "internal/reflectlite.TypeOf", "(internal/reflectlite.Value).Elem", "(internal/reflectlite.Value).Set"], unfollowed := true, recurses := true, named := ["unicode/utf8.first", "unicode/utf8.acceptRanges", "wattle/sel.states", "errors.errorType"], apart := false, laid := [("unicode/utf8.acceptRanges", laid_unicode_utf8_acceptRanges), ("errors.errorType", laid_errors_errorType), ("wattle/sel.states", laid_wattle_sel_states), ("unicode/utf8.first", laid_unicode_utf8_first)], narrowed := true }
def PlantDropsUptoSaid : Prop := plantDropsUptoRow.holds Tryd.pinned (OpenSpec.upto plantDropsSpec)

/-- 'wattlelaw17.PlantDocs', WHERE WHAT IT READS IS OF BULK AT MOST 1048576: true; the input reads as it did. -/
def plantDocsUptoRow : OpenClaim := { program := "ytfhpckkldelkcaadoor", sum := "b08e73d6d95d40286055ac93a5b29e86887f851b11e3092d7e89895fcfc040bb", func := "wattle/wattlelaw17.PlantDocs", spec := "plantDocs", inPlace := ["internal/reflectlite.ValueOf", "(internal/reflectlite.Value).Type", "(internal/reflectlite.Value).IsNil", "internal/reflectlite.TypeOf", "(internal/reflectlite.Value).Elem", "(internal/reflectlite.Value).Set"], unfollowed := true, recurses := true, named := ["unicode/utf8.first", "unicode/utf8.acceptRanges", "wattle/sel.states", "errors.errorType"], apart := false, laid := [("unicode/utf8.acceptRanges", laid_unicode_utf8_acceptRanges), ("errors.errorType", laid_errors_errorType), ("wattle/sel.states", laid_wattle_sel_states), ("unicode/utf8.first", laid_unicode_utf8_first)], narrowed := true }
def PlantDocsUptoSaid : Prop := plantDocsUptoRow.holds Tryd.pinned (OpenSpec.upto plantDocsSpec)

end Rows
end Go.Proofs.YtfhpckkldelkcaaDoor
