/-
  No cell of these rows narrows 'for every input' (looked for: loops, veiled, ifaces, maps, wideKeys, modest, calm, conditions, laid).
  DERIVED. THE GIVEN ROWS OF THIS SEAT. 5 by the template 'for every input the law returns true; each argument reads behind the call as it read before'; 0 by the template 'total and deterministic' (their statements: YtaldmffahmomoaaTotals.lean).
  GIVEN WITH THE SEED: the statements are not yours to turn. If you find one false, say at which input.
  Laid BY PROGRAM, IN A SANDBOX (cutbox-rows.mjs): the forced cells as the released guide's own fill.sh prints them over the translation f54a79f14f6cfdb3… (all of the seat's roots in one cut). By AI agents, Wed Nov 11 2026. No macro, syntax, notation, axiom, sorry.
-/
import Derived.Test.YtaldmffahmomoaaChecked
import GoSem.Claim
import GoSem.ClaimJoined
import GoSem.ClaimMapViews
import Derived.JoinedTies
import Derived.KernelRfl
namespace Go.Proofs.Ytaldmffahmomoaa
/- THE CELL 'sum', in the pinned program and in every row, IS THE sha256 OF THE DUMP (.gsa) THAT YtaldmffahmomoaaProg.lean LOADS. Nothing in Lean hashes anything: it is a label: what it is worth is what the hold of that sum in a sandbox is worth. -/
noncomputable def Try.pinned : Pinned := { name := "ytaldmffahmomoaa", sum := "f54a79f14f6cfdb3b2a772d2bf2feb6b686f31c54705a10f185a21b6d57f461c", checked := Try.checked }
namespace Rows
def none {H : Type} : Left H := { results := [], args := [] }

/-- 'wattlelaw19.BlocksRules': WHATEVER THE INPUT: true; the input reads as it did. -/
def blocksRulesSpec : ChangeSpec := { name := "blocksRules", fn := fun _ => fun
  | [d1, d2, d3, d4] => { results := [.lit (.bool true)], args := [d1, d2, d3, d4] }
  | _ => none }
def blocksRulesRow : OpenClaim := { program := "ytaldmffahmomoaa", sum := "f54a79f14f6cfdb3b2a772d2bf2feb6b686f31c54705a10f185a21b6d57f461c", func := "wattle/wattlelaw19.BlocksRules", spec := "blocksRules", recurses := true, apart := false }
def BlocksRulesSaid : Prop := blocksRulesRow.holds Try.pinned (OpenSpec.ofChange blocksRulesSpec)

/-- ITS FALSE NEIGHBOUR: 'it returns false'. Refute it at one input. -/
def blocksRulesWrong : ChangeSpec := { name := "blocksRules", fn := fun _ => fun
  | [d1, d2, d3, d4] => { results := [.lit (.bool false)], args := [d1, d2, d3, d4] }
  | _ => none }
def BlocksRulesWrongFalsely : Prop := blocksRulesRow.holds Try.pinned (OpenSpec.ofChange blocksRulesWrong)

/-- 'wattlelaw19.BlocksDecls': WHATEVER THE INPUT: true; the input reads as it did. -/
def blocksDeclsSpec : ChangeSpec := { name := "blocksDecls", fn := fun _ => fun
  | [d1, d2, d3] => { results := [.lit (.bool true)], args := [d1, d2, d3] }
  | _ => none }
def blocksDeclsRow : OpenClaim := { program := "ytaldmffahmomoaa", sum := "f54a79f14f6cfdb3b2a772d2bf2feb6b686f31c54705a10f185a21b6d57f461c", func := "wattle/wattlelaw19.BlocksDecls", spec := "blocksDecls", recurses := true, apart := false }
def BlocksDeclsSaid : Prop := blocksDeclsRow.holds Try.pinned (OpenSpec.ofChange blocksDeclsSpec)

/-- ITS FALSE NEIGHBOUR: 'it returns false'. Refute it at one input. -/
def blocksDeclsWrong : ChangeSpec := { name := "blocksDecls", fn := fun _ => fun
  | [d1, d2, d3] => { results := [.lit (.bool false)], args := [d1, d2, d3] }
  | _ => none }
def BlocksDeclsWrongFalsely : Prop := blocksDeclsRow.holds Try.pinned (OpenSpec.ofChange blocksDeclsWrong)

/-- 'wattlelaw19.BlocksJoin': WHATEVER THE INPUT: true; the input reads as it did. -/
def blocksJoinSpec : ChangeSpec := { name := "blocksJoin", fn := fun _ => fun
  | [d1, d2] => { results := [.lit (.bool true)], args := [d1, d2] }
  | _ => none }
def blocksJoinRow : OpenClaim := { program := "ytaldmffahmomoaa", sum := "f54a79f14f6cfdb3b2a772d2bf2feb6b686f31c54705a10f185a21b6d57f461c", func := "wattle/wattlelaw19.BlocksJoin", spec := "blocksJoin", apart := false }
def BlocksJoinSaid : Prop := blocksJoinRow.holds Try.pinned (OpenSpec.ofChange blocksJoinSpec)

/-- ITS FALSE NEIGHBOUR: 'it returns false'. Refute it at one input. -/
def blocksJoinWrong : ChangeSpec := { name := "blocksJoin", fn := fun _ => fun
  | [d1, d2] => { results := [.lit (.bool false)], args := [d1, d2] }
  | _ => none }
def BlocksJoinWrongFalsely : Prop := blocksJoinRow.holds Try.pinned (OpenSpec.ofChange blocksJoinWrong)

/-- 'wattlelaw19.BlocksDeclsJoin': WHATEVER THE INPUT: true; the input reads as it did. -/
def blocksDeclsJoinSpec : ChangeSpec := { name := "blocksDeclsJoin", fn := fun _ => fun
  | [d1, d2] => { results := [.lit (.bool true)], args := [d1, d2] }
  | _ => none }
def blocksDeclsJoinRow : OpenClaim := { program := "ytaldmffahmomoaa", sum := "f54a79f14f6cfdb3b2a772d2bf2feb6b686f31c54705a10f185a21b6d57f461c", func := "wattle/wattlelaw19.BlocksDeclsJoin", spec := "blocksDeclsJoin", apart := false }
def BlocksDeclsJoinSaid : Prop := blocksDeclsJoinRow.holds Try.pinned (OpenSpec.ofChange blocksDeclsJoinSpec)

/-- ITS FALSE NEIGHBOUR: 'it returns false'. Refute it at one input. -/
def blocksDeclsJoinWrong : ChangeSpec := { name := "blocksDeclsJoin", fn := fun _ => fun
  | [d1, d2] => { results := [.lit (.bool false)], args := [d1, d2] }
  | _ => none }
def BlocksDeclsJoinWrongFalsely : Prop := blocksDeclsJoinRow.holds Try.pinned (OpenSpec.ofChange blocksDeclsJoinWrong)

/-- 'wattlelaw19.BlocksValues': WHATEVER THE INPUT: true; the input reads as it did. -/
def blocksValuesSpec : ChangeSpec := { name := "blocksValues", fn := fun _ => fun
  | [d1, d2, d3] => { results := [.lit (.bool true)], args := [d1, d2, d3] }
  | _ => none }
def blocksValuesRow : OpenClaim := { program := "ytaldmffahmomoaa", sum := "f54a79f14f6cfdb3b2a772d2bf2feb6b686f31c54705a10f185a21b6d57f461c", func := "wattle/wattlelaw19.BlocksValues", spec := "blocksValues", recurses := true, apart := false }
def BlocksValuesSaid : Prop := blocksValuesRow.holds Try.pinned (OpenSpec.ofChange blocksValuesSpec)

/-- ITS FALSE NEIGHBOUR: 'it returns false'. Refute it at one input. -/
def blocksValuesWrong : ChangeSpec := { name := "blocksValues", fn := fun _ => fun
  | [d1, d2, d3] => { results := [.lit (.bool false)], args := [d1, d2, d3] }
  | _ => none }
def BlocksValuesWrongFalsely : Prop := blocksValuesRow.holds Try.pinned (OpenSpec.ofChange blocksValuesWrong)

/- THE SECOND FORM. 'bulk': how many values and letters a reading holds, each counted each time it is reached (what is shared counts as often as it is met; a slice's spare places count too). A statement '..UptoSaid' is the law's where the arguments, and the package variables that the reading takes, are together of bulk at most 1048576: NARROWER than '..Said'. Prove '..Said' where nothing that the law and all that it calls make is longer than what came in: it says more and counts as full. Else prove '..UptoSaid'. A law counts once. -/
mutual
def uptoBulk {H : Type} : DataW H → Nat
  | .lit (.string bytes) => bytes.length + 1
  | .lit _ => 1
  | .nil => 1
  | .ptr d => uptoBulk d + 1
  | .slice elems spare => uptoBulkAll elems + uptoBulkAll spare + 1
  | .agg parts => uptoBulkAll parts + 1
  | .iface _ d => uptoBulk d + 1
  | .map entries => uptoBulkEntries entries + 1
  | .held _ => 1
def uptoBulkAll {H : Type} : List (DataW H) → Nat
  | [] => 0
  | d :: r => uptoBulk d + uptoBulkAll r
def uptoBulkEntries {H : Type} : List (Lit × DataW H) → Nat
  | [] => 0
  | x :: r => uptoBulkEntry x + uptoBulkEntries r
def uptoBulkEntry {H : Type} : Lit × DataW H → Nat
  | (.string bytes, d) => bytes.length + uptoBulk d + 1
  | (_, d) => uptoBulk d + 1
 end
def uptoSmall : (H : Type) → List (DataW H) → Bool := fun _ ds => decide (uptoBulkAll ds ≤ 1048576)
def OpenSpec.upto (s : _root_.Go.ChangeSpec) : _root_.Go.OpenSpec := { _root_.Go.OpenSpec.ofChange s with cond := some uptoSmall }

/-- 'wattlelaw19.BlocksRules', WHERE WHAT IT READS IS OF BULK AT MOST 1048576: true; the input reads as it did. -/
def blocksRulesUptoRow : OpenClaim := { program := "ytaldmffahmomoaa", sum := "f54a79f14f6cfdb3b2a772d2bf2feb6b686f31c54705a10f185a21b6d57f461c", func := "wattle/wattlelaw19.BlocksRules", spec := "blocksRules", recurses := true, apart := false, narrowed := true }
def BlocksRulesUptoSaid : Prop := blocksRulesUptoRow.holds Try.pinned (OpenSpec.upto blocksRulesSpec)

/-- 'wattlelaw19.BlocksDecls', WHERE WHAT IT READS IS OF BULK AT MOST 1048576: true; the input reads as it did. -/
def blocksDeclsUptoRow : OpenClaim := { program := "ytaldmffahmomoaa", sum := "f54a79f14f6cfdb3b2a772d2bf2feb6b686f31c54705a10f185a21b6d57f461c", func := "wattle/wattlelaw19.BlocksDecls", spec := "blocksDecls", recurses := true, apart := false, narrowed := true }
def BlocksDeclsUptoSaid : Prop := blocksDeclsUptoRow.holds Try.pinned (OpenSpec.upto blocksDeclsSpec)

/-- 'wattlelaw19.BlocksJoin', WHERE WHAT IT READS IS OF BULK AT MOST 1048576: true; the input reads as it did. -/
def blocksJoinUptoRow : OpenClaim := { program := "ytaldmffahmomoaa", sum := "f54a79f14f6cfdb3b2a772d2bf2feb6b686f31c54705a10f185a21b6d57f461c", func := "wattle/wattlelaw19.BlocksJoin", spec := "blocksJoin", apart := false, narrowed := true }
def BlocksJoinUptoSaid : Prop := blocksJoinUptoRow.holds Try.pinned (OpenSpec.upto blocksJoinSpec)

/-- 'wattlelaw19.BlocksDeclsJoin', WHERE WHAT IT READS IS OF BULK AT MOST 1048576: true; the input reads as it did. -/
def blocksDeclsJoinUptoRow : OpenClaim := { program := "ytaldmffahmomoaa", sum := "f54a79f14f6cfdb3b2a772d2bf2feb6b686f31c54705a10f185a21b6d57f461c", func := "wattle/wattlelaw19.BlocksDeclsJoin", spec := "blocksDeclsJoin", apart := false, narrowed := true }
def BlocksDeclsJoinUptoSaid : Prop := blocksDeclsJoinUptoRow.holds Try.pinned (OpenSpec.upto blocksDeclsJoinSpec)

/-- 'wattlelaw19.BlocksValues', WHERE WHAT IT READS IS OF BULK AT MOST 1048576: true; the input reads as it did. -/
def blocksValuesUptoRow : OpenClaim := { program := "ytaldmffahmomoaa", sum := "f54a79f14f6cfdb3b2a772d2bf2feb6b686f31c54705a10f185a21b6d57f461c", func := "wattle/wattlelaw19.BlocksValues", spec := "blocksValues", recurses := true, apart := false, narrowed := true }
def BlocksValuesUptoSaid : Prop := blocksValuesUptoRow.holds Try.pinned (OpenSpec.upto blocksValuesSpec)

end Rows
end Go.Proofs.Ytaldmffahmomoaa
