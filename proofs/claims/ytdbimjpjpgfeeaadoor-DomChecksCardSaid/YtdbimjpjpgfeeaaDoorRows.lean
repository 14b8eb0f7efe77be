/-
  NARROWER THAN 'FOR EVERY INPUT', by the rows' own cells (each row's printed sentence says how): DomGrows: laid · DomSame: laid · DomTells: laid · DomChecks: laid.
  DERIVED. THE GIVEN ROWS OF THIS SEAT. 4 by the template 'for every input the law returns true; each argument reads behind the call as it read before'; 0 by the template 'total and deterministic' (their statements: YtdbimjpjpgfeeaaDoorTotals.lean).
  GIVEN WITH THE SEED: the statements are not yours to turn. If you find one false, say at which input.
  Laid BY PROGRAM, IN A SANDBOX (cutbox-rows.mjs): the forced cells as the released guide's own fill.sh prints them over the translation 78072d4cf3b4b215… (all of the seat's roots in one cut). By AI agents, Wed Nov 11 2026. No macro, syntax, notation, axiom, sorry.
-/
import Derived.Test.YtdbimjpjpgfeeaaDoorChecked
import GoSem.PinnedTables
import GoSem.Claim
import GoSem.ClaimJoined
import GoSem.ClaimMapViews
import Derived.JoinedTies
import Derived.KernelRfl
namespace Go.Proofs.YtdbimjpjpgfeeaaDoor
/- THE CELL 'sum', in the pinned program and in every row, IS THE sha256 OF THE DUMP (.gsa) THAT YtdbimjpjpgfeeaaDoorProg.lean LOADS. Nothing in Lean hashes anything: it is a label: what it is worth is what the hold of that sum in a sandbox is worth. -/
noncomputable def Tryd.pinned : Pinned := { name := "ytdbimjpjpgfeeaadoor", sum := "78072d4cf3b4b2154eb59cd67098ba3de8d49edf766102b113a651bd6dd99a80", checked := Tryd.checked }
namespace Rows
def none {H : Type} : Left H := { results := [], args := [] }

/- WHAT THE LISTED PACKAGE-LEVEL VARIABLES READ AS WHEN THE CALL BEGINS. Each datum BY PROGRAM (the guide's laid-datum.mjs) off the statement by which the dump's own 'gosem.cut.vars' lays the variable. In a bare row this is a premise. The card (YtdbimjpjpgfeeaaDoorCards.lean) ties it to the program's text. -/
def laid_unicode_utf8_acceptRanges {H : Type} : DataW H := .agg [.agg [.lit (.int .u8 128), .lit (.int .u8 191)], .agg [.lit (.int .u8 160), .lit (.int .u8 191)], .agg [.lit (.int .u8 128), .lit (.int .u8 159)], .agg [.lit (.int .u8 144), .lit (.int .u8 191)], .agg [.lit (.int .u8 128), .lit (.int .u8 143)], .agg [.lit (.int .u8 0), .lit (.int .u8 0)], .agg [.lit (.int .u8 0), .lit (.int .u8 0)], .agg [.lit (.int .u8 0), .lit (.int .u8 0)], .agg [.lit (.int .u8 0), .lit (.int .u8 0)], .agg [.lit (.int .u8 0), .lit (.int .u8 0)], .agg [.lit (.int .u8 0), .lit (.int .u8 0)], .agg [.lit (.int .u8 0), .lit (.int .u8 0)], .agg [.lit (.int .u8 0), .lit (.int .u8 0)], .agg [.lit (.int .u8 0), .lit (.int .u8 0)], .agg [.lit (.int .u8 0), .lit (.int .u8 0)], .agg [.lit (.int .u8 0), .lit (.int .u8 0)]]
def laid_wattle_sel_states {H : Type} : DataW H := .agg [.lit (.string [104, 111, 118, 101, 114]), .lit (.string [97, 99, 116, 105, 118, 101]), .lit (.string [102, 111, 99, 117, 115]), .lit (.string [102, 111, 99, 117, 115, 45, 118, 105, 115, 105, 98, 108, 101]), .lit (.string [118, 105, 115, 105, 116, 101, 100]), .lit (.string [108, 105, 110, 107]), .lit (.string [99, 104, 101, 99, 107, 101, 100]), .lit (.string [100, 105, 115, 97, 98, 108, 101, 100]), .lit (.string [101, 110, 97, 98, 108, 101, 100]), .lit (.string [116, 97, 114, 103, 101, 116])]
/-- One of Go's own tables, pinned by name: the form's constant. -/
def laid_unicode_utf8_first : DataW Unit := Go.Pinned.utf8First
def laid_errors_errorType {H : Type} : DataW H := .iface "internal/reflectlite.rtype" (.agg [.ptr (.lit (.string [101, 114, 114, 111, 114]))])

/-- 'wattlelaw11.DomGrows': WHATEVER THE INPUT: true; the input reads as it did. -/
def domGrowsSpec : ChangeSpec := { name := "domGrows", fn := fun _ => fun
  | [d1, d2, d3] => { results := [.lit (.bool true)], args := [d1, d2, d3] }
  | _ => none }
def domGrowsRow : OpenClaim := { program := "ytdbimjpjpgfeeaadoor", sum := "78072d4cf3b4b2154eb59cd67098ba3de8d49edf766102b113a651bd6dd99a80", func := "wattle/wattlelaw11.DomGrows", spec := "domGrows", unfollowed := true, recurses := true, named := ["unicode/utf8.first", "unicode/utf8.acceptRanges", "wattle/sel.states"], apart := false, laid := [("unicode/utf8.acceptRanges", laid_unicode_utf8_acceptRanges), ("wattle/sel.states", laid_wattle_sel_states), ("unicode/utf8.first", laid_unicode_utf8_first)] }
def DomGrowsSaid : Prop := domGrowsRow.holds Tryd.pinned (OpenSpec.ofChange domGrowsSpec)

/-- ITS FALSE NEIGHBOUR: 'it returns false'. Refute it at one input. -/
def domGrowsWrong : ChangeSpec := { name := "domGrows", fn := fun _ => fun
  | [d1, d2, d3] => { results := [.lit (.bool false)], args := [d1, d2, d3] }
  | _ => none }
def DomGrowsWrongFalsely : Prop := domGrowsRow.holds Tryd.pinned (OpenSpec.ofChange domGrowsWrong)

/-- 'wattlelaw11.DomSame': WHATEVER THE INPUT: true; the input reads as it did. -/
def domSameSpec : ChangeSpec := { name := "domSame", fn := fun _ => fun
  | [d1, d2] => { results := [.lit (.bool true)], args := [d1, d2] }
  | _ => none }
def domSameRow : OpenClaim := { program := "ytdbimjpjpgfeeaadoor", sum := "78072d4cf3b4b2154eb59cd67098ba3de8d49edf766102b113a651bd6dd99a80", func := "wattle/wattlelaw11.DomSame", spec := "domSame", unfollowed := true, recurses := true, named := ["unicode/utf8.first", "unicode/utf8.acceptRanges", "wattle/sel.states"], apart := false, laid := [("unicode/utf8.acceptRanges", laid_unicode_utf8_acceptRanges), ("wattle/sel.states", laid_wattle_sel_states), ("unicode/utf8.first", laid_unicode_utf8_first)] }
def DomSameSaid : Prop := domSameRow.holds Tryd.pinned (OpenSpec.ofChange domSameSpec)

/-- ITS FALSE NEIGHBOUR: 'it returns false'. Refute it at one input. -/
def domSameWrong : ChangeSpec := { name := "domSame", fn := fun _ => fun
  | [d1, d2] => { results := [.lit (.bool false)], args := [d1, d2] }
  | _ => none }
def DomSameWrongFalsely : Prop := domSameRow.holds Tryd.pinned (OpenSpec.ofChange domSameWrong)

/-- 'wattlelaw11.DomTells': WHATEVER THE INPUT: true; the input reads as it did. -/
def domTellsSpec : ChangeSpec := { name := "domTells", fn := fun _ => fun
  | [d1, d2, d3, d4] => { results := [.lit (.bool true)], args := [d1, d2, d3, d4] }
  | _ => none }
def domTellsRow : OpenClaim := { program := "ytdbimjpjpgfeeaadoor", sum := "78072d4cf3b4b2154eb59cd67098ba3de8d49edf766102b113a651bd6dd99a80", func := "wattle/wattlelaw11.DomTells", spec := "domTells", unfollowed := true, recurses := true, named := ["unicode/utf8.first", "unicode/utf8.acceptRanges", "wattle/sel.states"], apart := false, laid := [("unicode/utf8.acceptRanges", laid_unicode_utf8_acceptRanges), ("wattle/sel.states", laid_wattle_sel_states), ("unicode/utf8.first", laid_unicode_utf8_first)] }
def DomTellsSaid : Prop := domTellsRow.holds Tryd.pinned (OpenSpec.ofChange domTellsSpec)

/-- ITS FALSE NEIGHBOUR: 'it returns false'. Refute it at one input. -/
def domTellsWrong : ChangeSpec := { name := "domTells", fn := fun _ => fun
  | [d1, d2, d3, d4] => { results := [.lit (.bool false)], args := [d1, d2, d3, d4] }
  | _ => none }
def DomTellsWrongFalsely : Prop := domTellsRow.holds Tryd.pinned (OpenSpec.ofChange domTellsWrong)

/-- 'wattlelaw11.DomChecks': WHATEVER THE INPUT: true; the input reads as it did. -/
def domChecksSpec : ChangeSpec := { name := "domChecks", fn := fun _ => fun
  | [d] => { results := [.lit (.bool true)], args := [d] }
  | _ => none }
def domChecksRow : OpenClaim := { program := "ytdbimjpjpgfeeaadoor", sum := "78072d4cf3b4b2154eb59cd67098ba3de8d49edf766102b113a651bd6dd99a80", func := "wattle/wattlelaw11.DomChecks", spec := "domChecks", inPlace := ["internal/reflectlite.ValueOf", "(internal/reflectlite.Value).Type", "(internal/reflectlite.Value).IsNil", "internal/reflectlite.TypeOf", "(internal/reflectlite.Value).Elem", "(internal/reflectlite.Value).Set"], unfollowed := true, recurses := true, named := ["unicode/utf8.first", "unicode/utf8.acceptRanges", "wattle/sel.states", "errors.errorType"], apart := false, laid := [("unicode/utf8.acceptRanges", laid_unicode_utf8_acceptRanges), ("errors.errorType", laid_errors_errorType), ("wattle/sel.states", laid_wattle_sel_states), ("unicode/utf8.first", laid_unicode_utf8_first)] }
def DomChecksSaid : Prop := domChecksRow.holds Tryd.pinned (OpenSpec.ofChange domChecksSpec)

/-- ITS FALSE NEIGHBOUR: 'it returns false'. Refute it at one input. -/
def domChecksWrong : ChangeSpec := { name := "domChecks", fn := fun _ => fun
  | [d] => { results := [.lit (.bool false)], args := [d] }
  | _ => none }
def DomChecksWrongFalsely : Prop := domChecksRow.holds Tryd.pinned (OpenSpec.ofChange domChecksWrong)

/- THE SECOND FORM. 'bulk': how many values and letters a reading holds, each counted each time it is reached (what is shared counts as often as it is met; a slice's spare places count too). A statement '..UptoSaid' is the law's where the arguments, and the package variables that the reading takes, are together of bulk at most 1048576: NARROWER than '..Said'. Prove '..Said' where nothing that the law and all that it calls make is longer than what came in: it says more and counts as full. Else prove '..UptoSaid'. A law counts once. -/
mutual
def uptoBulk {H : Type} : DataW H → Nat
  | .lit (.string bytes) => bytes.length + 1
  | .lit _ => 1
  | .nil => 1
  | .ptr d => uptoBulk d + 1
  | .slice elems spare => uptoBulkAll elems + uptoBulkAll spare + 1
  | .agg parts => uptoBulkAll parts + 1
  | .iface _ d => uptoBulk d + 1
  | .map entries => uptoBulkEntries entries + 1
  | .held _ => 1
def uptoBulkAll {H : Type} : List (DataW H) → Nat
  | [] => 0
  | d :: r => uptoBulk d + uptoBulkAll r
def uptoBulkEntries {H : Type} : List (Lit × DataW H) → Nat
  | [] => 0
  | x :: r => uptoBulkEntry x + uptoBulkEntries r
def uptoBulkEntry {H : Type} : Lit × DataW H → Nat
  | (.string bytes, d) => bytes.length + uptoBulk d + 1
  | (_, d) => uptoBulk d + 1
 end
def uptoSmall : (H : Type) → List (DataW H) → Bool := fun _ ds => decide (uptoBulkAll ds ≤ 1048576)
def OpenSpec.upto (s : _root_.Go.ChangeSpec) : _root_.Go.OpenSpec := { _root_.Go.OpenSpec.ofChange s with cond := some uptoSmall }

/-- 'wattlelaw11.DomGrows', WHERE WHAT IT READS IS OF BULK AT MOST 1048576: true; the input reads as it did. -/
def domGrowsUptoRow : OpenClaim := { program := "ytdbimjpjpgfeeaadoor", sum := "78072d4cf3b4b2154eb59cd67098ba3de8d49edf766102b113a651bd6dd99a80", func := "wattle/wattlelaw11.DomGrows", spec := "domGrows", unfollowed := true, recurses := true, named := ["unicode/utf8.first", "unicode/utf8.acceptRanges", "wattle/sel.states"], apart := false, laid := [("unicode/utf8.acceptRanges", laid_unicode_utf8_acceptRanges), ("wattle/sel.states", laid_wattle_sel_states), ("unicode/utf8.first", laid_unicode_utf8_first)], narrowed := true }
def DomGrowsUptoSaid : Prop := domGrowsUptoRow.holds Tryd.pinned (OpenSpec.upto domGrowsSpec)

/-- 'wattlelaw11.DomSame', WHERE WHAT IT READS IS OF BULK AT MOST 1048576: true; the input reads as it did. -/
def domSameUptoRow : OpenClaim := { program := "ytdbimjpjpgfeeaadoor", sum := "78072d4cf3b4b2154eb59cd67098ba3de8d49edf766102b113a651bd6dd99a80", func := "wattle/wattlelaw11.DomSame", spec := "domSame", unfollowed := true, recurses := true, named := ["unicode/utf8.first", "unicode/utf8.acceptRanges", "wattle/sel.states"], apart := false, laid := [("unicode/utf8.acceptRanges", laid_unicode_utf8_acceptRanges), ("wattle/sel.states", laid_wattle_sel_states), ("unicode/utf8.first", laid_unicode_utf8_first)], narrowed := true }
def DomSameUptoSaid : Prop := domSameUptoRow.holds Tryd.pinned (OpenSpec.upto domSameSpec)

/-- 'wattlelaw11.DomTells', WHERE WHAT IT READS IS OF BULK AT MOST 1048576: true; the input reads as it did. -/
def domTellsUptoRow : OpenClaim := { program := "ytdbimjpjpgfeeaadoor", sum := "78072d4cf3b4b2154eb59cd67098ba3de8d49edf766102b113a651bd6dd99a80", func := "wattle/wattlelaw11.DomTells", spec := "domTells", unfollowed := true, recurses := true, named := ["unicode/utf8.first", "unicode/utf8.acceptRanges", "wattle/sel.states"], apart := false, laid := [("unicode/utf8.acceptRanges", laid_unicode_utf8_acceptRanges), ("wattle/sel.states", laid_wattle_sel_states), ("unicode/utf8.first", laid_unicode_utf8_first)], narrowed := true }
def DomTellsUptoSaid : Prop := domTellsUptoRow.holds Tryd.pinned (OpenSpec.upto domTellsSpec)

/-- 'wattlelaw11.DomChecks', WHERE WHAT IT READS IS OF BULK AT MOST 1048576: true; the input reads as it did. -/
def domChecksUptoRow : OpenClaim := { program := "ytdbimjpjpgfeeaadoor", sum := "78072d4cf3b4b2154eb59cd67098ba3de8d49edf766102b113a651bd6dd99a80", func := "wattle/wattlelaw11.DomChecks", spec := "domChecks", inPlace := ["internal/reflectlite.ValueOf", "(internal/reflectlite.Value).Type", "(internal/reflectlite.Value).IsNil", "internal/reflectlite.TypeOf", "(internal/reflectlite.Value).Elem", "(internal/reflectlite.Value).Set"], unfollowed := true, recurses := true, named := ["unicode/utf8.first", "unicode/utf8.acceptRanges", "wattle/sel.states", "errors.errorType"], apart := false, laid := [("unicode/utf8.acceptRanges", laid_unicode_utf8_acceptRanges), ("errors.errorType", laid_errors_errorType), ("wattle/sel.states", laid_wattle_sel_states), ("unicode/utf8.first", laid_unicode_utf8_first)], narrowed := true }
def DomChecksUptoSaid : Prop := domChecksUptoRow.holds Tryd.pinned (OpenSpec.upto domChecksSpec)

end Rows
end Go.Proofs.YtdbimjpjpgfeeaaDoor
