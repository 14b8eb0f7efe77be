/-
  NARROWER THAN 'FOR EVERY INPUT', by the rows' own cells (each row's printed sentence says how): StepRuns: loops · StepMonotone: loops · StepSelects: loops.
  DERIVED. THE GIVEN ROWS OF THIS SEAT. 3 by the template 'for every input the law returns true; each argument reads behind the call as it read before'; 0 by the template 'total and deterministic' (their statements: YtaghfmgeccapbaaGreatTotals.lean).
  GIVEN WITH THE SEED: the statements are not yours to turn. If you find one false, say at which input.
  Laid BY PROGRAM, IN A SANDBOX (cutbox-rows.mjs): the forced cells as the released guide's own fill.sh prints them over the translation 3920818863f334b1… (all of the seat's roots in one cut). By AI agents, Wed Nov 11 2026. No macro, syntax, notation, axiom, sorry.
-/
import Derived.Test.YtaghfmgeccapbaaGreatChecked
import GoSem.Claim
import GoSem.ClaimJoined
import GoSem.ClaimMapViews
import Derived.JoinedTies
import Derived.KernelRfl
namespace Go.Proofs.YtaghfmgeccapbaaGreat
/- THE CELL 'sum', in the pinned program and in every row, IS THE sha256 OF THE DUMP (.gsa) THAT YtaghfmgeccapbaaGreatProg.lean LOADS. Nothing in Lean hashes anything: it is a label: what it is worth is what the hold of that sum in a sandbox is worth. -/
noncomputable def Tryz.pinned : Pinned := { name := "ytaghfmgeccapbaagreat", sum := "3920818863f334b18d98e7db1d01a86e81eb5859704f586993536ebb2ed6bb2d", checked := Tryz.checked }
namespace Rows
def none {H : Type} : Left H := { results := [], args := [] }

/-- 'wattlelaw15.StepRuns': WHATEVER THE INPUT: true; the input reads as it did. -/
def stepRunsSpec : ChangeSpec := { name := "stepRuns", fn := fun _ => fun
  | [d1, d2, d3] => { results := [.lit (.bool true)], args := [d1, d2, d3] }
  | _ => none }
def stepRunsRow : OpenClaim := { program := "ytaghfmgeccapbaagreat", sum := "3920818863f334b18d98e7db1d01a86e81eb5859704f586993536ebb2ed6bb2d", func := "wattle/wattlelaw15.StepRuns", spec := "stepRuns", unfollowed := true, recurses := true, loops := true, apart := false }
def StepRunsSaid : Prop := stepRunsRow.holds Tryz.pinned (OpenSpec.ofChange stepRunsSpec)

/-- ITS FALSE NEIGHBOUR: 'it returns false'. Refute it at one input. -/
def stepRunsWrong : ChangeSpec := { name := "stepRuns", fn := fun _ => fun
  | [d1, d2, d3] => { results := [.lit (.bool false)], args := [d1, d2, d3] }
  | _ => none }
def StepRunsWrongFalsely : Prop := stepRunsRow.holds Tryz.pinned (OpenSpec.ofChange stepRunsWrong)

/-- 'wattlelaw15.StepMonotone': WHATEVER THE INPUT: true; the input reads as it did. -/
def stepMonotoneSpec : ChangeSpec := { name := "stepMonotone", fn := fun _ => fun
  | [d1, d2, d3, d4, d5] => { results := [.lit (.bool true)], args := [d1, d2, d3, d4, d5] }
  | _ => none }
def stepMonotoneRow : OpenClaim := { program := "ytaghfmgeccapbaagreat", sum := "3920818863f334b18d98e7db1d01a86e81eb5859704f586993536ebb2ed6bb2d", func := "wattle/wattlelaw15.StepMonotone", spec := "stepMonotone", unfollowed := true, recurses := true, loops := true, apart := false }
def StepMonotoneSaid : Prop := stepMonotoneRow.holds Tryz.pinned (OpenSpec.ofChange stepMonotoneSpec)

/-- ITS FALSE NEIGHBOUR: 'it returns false'. Refute it at one input. -/
def stepMonotoneWrong : ChangeSpec := { name := "stepMonotone", fn := fun _ => fun
  | [d1, d2, d3, d4, d5] => { results := [.lit (.bool false)], args := [d1, d2, d3, d4, d5] }
  | _ => none }
def StepMonotoneWrongFalsely : Prop := stepMonotoneRow.holds Tryz.pinned (OpenSpec.ofChange stepMonotoneWrong)

/-- 'wattlelaw15.StepSelects': WHATEVER THE INPUT: true; the input reads as it did. -/
def stepSelectsSpec : ChangeSpec := { name := "stepSelects", fn := fun _ => fun
  | [d1, d2, d3] => { results := [.lit (.bool true)], args := [d1, d2, d3] }
  | _ => none }
def stepSelectsRow : OpenClaim := { program := "ytaghfmgeccapbaagreat", sum := "3920818863f334b18d98e7db1d01a86e81eb5859704f586993536ebb2ed6bb2d", func := "wattle/wattlelaw15.StepSelects", spec := "stepSelects", unfollowed := true, recurses := true, loops := true, apart := false }
def StepSelectsSaid : Prop := stepSelectsRow.holds Tryz.pinned (OpenSpec.ofChange stepSelectsSpec)

/-- ITS FALSE NEIGHBOUR: 'it returns false'. Refute it at one input. -/
def stepSelectsWrong : ChangeSpec := { name := "stepSelects", fn := fun _ => fun
  | [d1, d2, d3] => { results := [.lit (.bool false)], args := [d1, d2, d3] }
  | _ => none }
def StepSelectsWrongFalsely : Prop := stepSelectsRow.holds Tryz.pinned (OpenSpec.ofChange stepSelectsWrong)

/- THE SECOND FORM. 'bulk': how many values and letters a reading holds, each counted each time it is reached (what is shared counts as often as it is met; a slice's spare places count too). A statement '..UptoSaid' is the law's where the arguments, and the package variables that the reading takes, are together of bulk at most 1048576: NARROWER than '..Said'. Prove '..Said' where nothing that the law and all that it calls make is longer than what came in: it says more and counts as full. Else prove '..UptoSaid'. A law counts once. -/
mutual
def uptoBulk {H : Type} : DataW H → Nat
  | .lit (.string bytes) => bytes.length + 1
  | .lit _ => 1
  | .nil => 1
  | .ptr d => uptoBulk d + 1
  | .slice elems spare => uptoBulkAll elems + uptoBulkAll spare + 1
  | .agg parts => uptoBulkAll parts + 1
  | .iface _ d => uptoBulk d + 1
  | .map entries => uptoBulkEntries entries + 1
  | .held _ => 1
def uptoBulkAll {H : Type} : List (DataW H) → Nat
  | [] => 0
  | d :: r => uptoBulk d + uptoBulkAll r
def uptoBulkEntries {H : Type} : List (Lit × DataW H) → Nat
  | [] => 0
  | x :: r => uptoBulkEntry x + uptoBulkEntries r
def uptoBulkEntry {H : Type} : Lit × DataW H → Nat
  | (.string bytes, d) => bytes.length + uptoBulk d + 1
  | (_, d) => uptoBulk d + 1
 end
def uptoSmall : (H : Type) → List (DataW H) → Bool := fun _ ds => decide (uptoBulkAll ds ≤ 1048576)
def OpenSpec.upto (s : _root_.Go.ChangeSpec) : _root_.Go.OpenSpec := { _root_.Go.OpenSpec.ofChange s with cond := some uptoSmall }

/-- 'wattlelaw15.StepRuns', WHERE WHAT IT READS IS OF BULK AT MOST 1048576: true; the input reads as it did. -/
def stepRunsUptoRow : OpenClaim := { program := "ytaghfmgeccapbaagreat", sum := "3920818863f334b18d98e7db1d01a86e81eb5859704f586993536ebb2ed6bb2d", func := "wattle/wattlelaw15.StepRuns", spec := "stepRuns", unfollowed := true, recurses := true, loops := true, apart := false, narrowed := true }
def StepRunsUptoSaid : Prop := stepRunsUptoRow.holds Tryz.pinned (OpenSpec.upto stepRunsSpec)

/-- 'wattlelaw15.StepMonotone', WHERE WHAT IT READS IS OF BULK AT MOST 1048576: true; the input reads as it did. -/
def stepMonotoneUptoRow : OpenClaim := { program := "ytaghfmgeccapbaagreat", sum := "3920818863f334b18d98e7db1d01a86e81eb5859704f586993536ebb2ed6bb2d", func := "wattle/wattlelaw15.StepMonotone", spec := "stepMonotone", unfollowed := true, recurses := true, loops := true, apart := false, narrowed := true }
def StepMonotoneUptoSaid : Prop := stepMonotoneUptoRow.holds Tryz.pinned (OpenSpec.upto stepMonotoneSpec)

/-- 'wattlelaw15.StepSelects', WHERE WHAT IT READS IS OF BULK AT MOST 1048576: true; the input reads as it did. -/
def stepSelectsUptoRow : OpenClaim := { program := "ytaghfmgeccapbaagreat", sum := "3920818863f334b18d98e7db1d01a86e81eb5859704f586993536ebb2ed6bb2d", func := "wattle/wattlelaw15.StepSelects", spec := "stepSelects", unfollowed := true, recurses := true, loops := true, apart := false, narrowed := true }
def StepSelectsUptoSaid : Prop := stepSelectsUptoRow.holds Tryz.pinned (OpenSpec.upto stepSelectsSpec)

end Rows
end Go.Proofs.YtaghfmgeccapbaaGreat
