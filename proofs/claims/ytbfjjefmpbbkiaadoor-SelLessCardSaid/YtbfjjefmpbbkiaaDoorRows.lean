/-
  NARROWER THAN 'FOR EVERY INPUT', by the rows' own cells (each row's printed sentence says how): SelLess: laid.
  DERIVED. THE GIVEN ROWS OF THIS SEAT. 1 by the template 'for every input the law returns true; each argument reads behind the call as it read before'; 0 by the template 'total and deterministic' (their statements: YtbfjjefmpbbkiaaDoorTotals.lean).
  GIVEN WITH THE SEED: the statements are not yours to turn. If you find one false, say at which input.
  Laid BY PROGRAM, IN A SANDBOX (cutbox-rows.mjs): the forced cells as the released guide's own fill.sh prints them over the translation 0ee01cd3e2284fd3… (all of the seat's roots in one cut). By AI agents, Wed Nov 11 2026. No macro, syntax, notation, axiom, sorry.
-/
import Derived.Test.YtbfjjefmpbbkiaaDoorChecked
import GoSem.Claim
import GoSem.ClaimJoined
import GoSem.ClaimMapViews
import Derived.JoinedTies
import Derived.KernelRfl
namespace Go.Proofs.YtbfjjefmpbbkiaaDoor
/- THE CELL 'sum', in the pinned program and in every row, IS THE sha256 OF THE DUMP (.gsa) THAT YtbfjjefmpbbkiaaDoorProg.lean LOADS. Nothing in Lean hashes anything: it is a label: what it is worth is what the hold of that sum in a sandbox is worth. -/
noncomputable def Tryd.pinned : Pinned := { name := "ytbfjjefmpbbkiaadoor", sum := "0ee01cd3e2284fd39089ad90b2c44de9951612fe089e2abf209f0e00e49f11a5", checked := Tryd.checked }
namespace Rows
def none {H : Type} : Left H := { results := [], args := [] }

/- WHAT THE LISTED PACKAGE-LEVEL VARIABLES READ AS WHEN THE CALL BEGINS. Each datum BY PROGRAM (the guide's laid-datum.mjs) off the statement by which the dump's own 'gosem.cut.vars' lays the variable. In a bare row this is a premise. The card (YtbfjjefmpbbkiaaDoorCards.lean) ties it to the program's text. -/
def laid_wattle_sel_states {H : Type} : DataW H := .agg [.lit (.string [104, 111, 118, 101, 114]), .lit (.string [97, 99, 116, 105, 118, 101]), .lit (.string [102, 111, 99, 117, 115]), .lit (.string [102, 111, 99, 117, 115, 45, 118, 105, 115, 105, 98, 108, 101]), .lit (.string [118, 105, 115, 105, 116, 101, 100]), .lit (.string [108, 105, 110, 107]), .lit (.string [99, 104, 101, 99, 107, 101, 100]), .lit (.string [100, 105, 115, 97, 98, 108, 101, 100]), .lit (.string [101, 110, 97, 98, 108, 101, 100]), .lit (.string [116, 97, 114, 103, 101, 116])]
def laid_wattle_sel_elements {H : Type} : DataW H := .agg [.lit (.string [98, 101, 102, 111, 114, 101]), .lit (.string [97, 102, 116, 101, 114]), .lit (.string [102, 105, 114, 115, 116, 45, 108, 105, 110, 101]), .lit (.string [102, 105, 114, 115, 116, 45, 108, 101, 116, 116, 101, 114]), .lit (.string [109, 97, 114, 107, 101, 114]), .lit (.string [115, 101, 108, 101, 99, 116, 105, 111, 110]), .lit (.string [112, 108, 97, 99, 101, 104, 111, 108, 100, 101, 114]), .lit (.string [98, 97, 99, 107, 100, 114, 111, 112])]

/-- 'wattlelaw08.SelLess': WHATEVER THE INPUT: true; the input reads as it did. -/
def selLessSpec : ChangeSpec := { name := "selLess", fn := fun _ => fun
  | [d1, d2, d3] => { results := [.lit (.bool true)], args := [d1, d2, d3] }
  | _ => none }
def selLessRow : OpenClaim := { program := "ytbfjjefmpbbkiaadoor", sum := "0ee01cd3e2284fd39089ad90b2c44de9951612fe089e2abf209f0e00e49f11a5", func := "wattle/wattlelaw08.SelLess", spec := "selLess", unfollowed := true, recurses := true, named := ["wattle/sel.states", "wattle/sel.elements"], apart := false, laid := [("wattle/sel.states", laid_wattle_sel_states), ("wattle/sel.elements", laid_wattle_sel_elements)] }
def SelLessSaid : Prop := selLessRow.holds Tryd.pinned (OpenSpec.ofChange selLessSpec)

/-- ITS FALSE NEIGHBOUR: 'it returns false'. Refute it at one input. -/
def selLessWrong : ChangeSpec := { name := "selLess", fn := fun _ => fun
  | [d1, d2, d3] => { results := [.lit (.bool false)], args := [d1, d2, d3] }
  | _ => none }
def SelLessWrongFalsely : Prop := selLessRow.holds Tryd.pinned (OpenSpec.ofChange selLessWrong)

/- THE SECOND FORM. 'bulk': how many values and letters a reading holds, each counted each time it is reached (what is shared counts as often as it is met; a slice's spare places count too). A statement '..UptoSaid' is the law's where the arguments, and the package variables that the reading takes, are together of bulk at most 1048576: NARROWER than '..Said'. Prove '..Said' where nothing that the law and all that it calls make is longer than what came in: it says more and counts as full. Else prove '..UptoSaid'. A law counts once. -/
mutual
def uptoBulk {H : Type} : DataW H → Nat
  | .lit (.string bytes) => bytes.length + 1
  | .lit _ => 1
  | .nil => 1
  | .ptr d => uptoBulk d + 1
  | .slice elems spare => uptoBulkAll elems + uptoBulkAll spare + 1
  | .agg parts => uptoBulkAll parts + 1
  | .iface _ d => uptoBulk d + 1
  | .map entries => uptoBulkEntries entries + 1
  | .held _ => 1
def uptoBulkAll {H : Type} : List (DataW H) → Nat
  | [] => 0
  | d :: r => uptoBulk d + uptoBulkAll r
def uptoBulkEntries {H : Type} : List (Lit × DataW H) → Nat
  | [] => 0
  | x :: r => uptoBulkEntry x + uptoBulkEntries r
def uptoBulkEntry {H : Type} : Lit × DataW H → Nat
  | (.string bytes, d) => bytes.length + uptoBulk d + 1
  | (_, d) => uptoBulk d + 1
 end
def uptoSmall : (H : Type) → List (DataW H) → Bool := fun _ ds => decide (uptoBulkAll ds ≤ 1048576)
def OpenSpec.upto (s : _root_.Go.ChangeSpec) : _root_.Go.OpenSpec := { _root_.Go.OpenSpec.ofChange s with cond := some uptoSmall }

/-- 'wattlelaw08.SelLess', WHERE WHAT IT READS IS OF BULK AT MOST 1048576: true; the input reads as it did. -/
def selLessUptoRow : OpenClaim := { program := "ytbfjjefmpbbkiaadoor", sum := "0ee01cd3e2284fd39089ad90b2c44de9951612fe089e2abf209f0e00e49f11a5", func := "wattle/wattlelaw08.SelLess", spec := "selLess", unfollowed := true, recurses := true, named := ["wattle/sel.states", "wattle/sel.elements"], apart := false, laid := [("wattle/sel.states", laid_wattle_sel_states), ("wattle/sel.elements", laid_wattle_sel_elements)], narrowed := true }
def SelLessUptoSaid : Prop := selLessUptoRow.holds Tryd.pinned (OpenSpec.upto selLessSpec)

end Rows
end Go.Proofs.YtbfjjefmpbbkiaaDoor
