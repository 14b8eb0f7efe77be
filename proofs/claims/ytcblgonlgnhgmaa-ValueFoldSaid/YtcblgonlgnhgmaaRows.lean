/-
  No cell of these rows narrows 'for every input' (looked for: loops, veiled, ifaces, maps, wideKeys, modest, calm, conditions, laid).
  DERIVED. THE GIVEN ROWS OF THIS SEAT. 5 by the template 'for every input the law returns true; each argument reads behind the call as it read before'; 0 by the template 'total and deterministic' (their statements: YtcblgonlgnhgmaaTotals.lean).
  GIVEN WITH THE SEED: the statements are not yours to turn. If you find one false, say at which input.
  Laid BY PROGRAM, IN A SANDBOX (cutbox-rows.mjs): the forced cells as the released guide's own fill.sh prints them over the translation 818db0d40b58744b… (all of the seat's roots in one cut). By AI agents, Wed Nov 11 2026. No macro, syntax, notation, axiom, sorry.
-/
import Derived.Test.YtcblgonlgnhgmaaChecked
import GoSem.Claim
import GoSem.ClaimJoined
import GoSem.ClaimMapViews
import Derived.JoinedTies
import Derived.KernelRfl
namespace Go.Proofs.Ytcblgonlgnhgmaa
/- THE CELL 'sum', in the pinned program and in every row, IS THE sha256 OF THE DUMP (.gsa) THAT YtcblgonlgnhgmaaProg.lean LOADS. Nothing in Lean hashes anything: it is a label: what it is worth is what the hold of that sum in a sandbox is worth. -/
noncomputable def Try.pinned : Pinned := { name := "ytcblgonlgnhgmaa", sum := "818db0d40b58744bb3b8ce233781b352052024b60891c575379898d5288a813f", checked := Try.checked }
namespace Rows
def none {H : Type} : Left H := { results := [], args := [] }

/-- 'wattlelaw06.ValueFold': WHATEVER THE INPUT: true; the input reads as it did. -/
def valueFoldSpec : ChangeSpec := { name := "valueFold", fn := fun _ => fun
  | [d1, d2] => { results := [.lit (.bool true)], args := [d1, d2] }
  | _ => none }
def valueFoldRow : OpenClaim := { program := "ytcblgonlgnhgmaa", sum := "818db0d40b58744bb3b8ce233781b352052024b60891c575379898d5288a813f", func := "wattle/wattlelaw06.ValueFold", spec := "valueFold", inPlace := ["internal/bytealg.IndexByteString", "internal/bytealg.IndexString"], unfollowed := true, recurses := true, named := ["internal/bytealg.MaxLen"], apart := false }
def ValueFoldSaid : Prop := valueFoldRow.holds Try.pinned (OpenSpec.ofChange valueFoldSpec)

/-- ITS FALSE NEIGHBOUR: 'it returns false'. Refute it at one input. -/
def valueFoldWrong : ChangeSpec := { name := "valueFold", fn := fun _ => fun
  | [d1, d2] => { results := [.lit (.bool false)], args := [d1, d2] }
  | _ => none }
def ValueFoldWrongFalsely : Prop := valueFoldRow.holds Try.pinned (OpenSpec.ofChange valueFoldWrong)

/-- 'wattlelaw06.ValueJoined': WHATEVER THE INPUT: true; the input reads as it did. -/
def valueJoinedSpec : ChangeSpec := { name := "valueJoined", fn := fun _ => fun
  | [d1, d2, d3, d4] => { results := [.lit (.bool true)], args := [d1, d2, d3, d4] }
  | _ => none }
def valueJoinedRow : OpenClaim := { program := "ytcblgonlgnhgmaa", sum := "818db0d40b58744bb3b8ce233781b352052024b60891c575379898d5288a813f", func := "wattle/wattlelaw06.ValueJoined", spec := "valueJoined", inPlace := ["internal/bytealg.IndexByteString", "internal/bytealg.IndexString"], unfollowed := true, recurses := true, named := ["internal/bytealg.MaxLen"], apart := false }
def ValueJoinedSaid : Prop := valueJoinedRow.holds Try.pinned (OpenSpec.ofChange valueJoinedSpec)

/-- ITS FALSE NEIGHBOUR: 'it returns false'. Refute it at one input. -/
def valueJoinedWrong : ChangeSpec := { name := "valueJoined", fn := fun _ => fun
  | [d1, d2, d3, d4] => { results := [.lit (.bool false)], args := [d1, d2, d3, d4] }
  | _ => none }
def ValueJoinedWrongFalsely : Prop := valueJoinedRow.holds Try.pinned (OpenSpec.ofChange valueJoinedWrong)

/-- 'wattlelaw06.ValueHolds': WHATEVER THE INPUT: true; the input reads as it did. -/
def valueHoldsSpec : ChangeSpec := { name := "valueHolds", fn := fun _ => fun
  | [d1, d2] => { results := [.lit (.bool true)], args := [d1, d2] }
  | _ => none }
def valueHoldsRow : OpenClaim := { program := "ytcblgonlgnhgmaa", sum := "818db0d40b58744bb3b8ce233781b352052024b60891c575379898d5288a813f", func := "wattle/wattlelaw06.ValueHolds", spec := "valueHolds", inPlace := ["internal/bytealg.IndexByteString", "internal/bytealg.IndexString"], unfollowed := true, recurses := true, named := ["internal/bytealg.MaxLen"], apart := false }
def ValueHoldsSaid : Prop := valueHoldsRow.holds Try.pinned (OpenSpec.ofChange valueHoldsSpec)

/-- ITS FALSE NEIGHBOUR: 'it returns false'. Refute it at one input. -/
def valueHoldsWrong : ChangeSpec := { name := "valueHolds", fn := fun _ => fun
  | [d1, d2] => { results := [.lit (.bool false)], args := [d1, d2] }
  | _ => none }
def ValueHoldsWrongFalsely : Prop := valueHoldsRow.holds Try.pinned (OpenSpec.ofChange valueHoldsWrong)

/-- 'wattlelaw06.ValueLeast': WHATEVER THE INPUT: true; the input reads as it did. -/
def valueLeastSpec : ChangeSpec := { name := "valueLeast", fn := fun _ => fun
  | [d1, d2] => { results := [.lit (.bool true)], args := [d1, d2] }
  | _ => none }
def valueLeastRow : OpenClaim := { program := "ytcblgonlgnhgmaa", sum := "818db0d40b58744bb3b8ce233781b352052024b60891c575379898d5288a813f", func := "wattle/wattlelaw06.ValueLeast", spec := "valueLeast", inPlace := ["internal/bytealg.IndexByteString", "internal/bytealg.IndexString"], unfollowed := true, recurses := true, named := ["internal/bytealg.MaxLen"], apart := false }
def ValueLeastSaid : Prop := valueLeastRow.holds Try.pinned (OpenSpec.ofChange valueLeastSpec)

/-- ITS FALSE NEIGHBOUR: 'it returns false'. Refute it at one input. -/
def valueLeastWrong : ChangeSpec := { name := "valueLeast", fn := fun _ => fun
  | [d1, d2] => { results := [.lit (.bool false)], args := [d1, d2] }
  | _ => none }
def ValueLeastWrongFalsely : Prop := valueLeastRow.holds Try.pinned (OpenSpec.ofChange valueLeastWrong)

/-- 'wattlelaw06.ValueImplies': WHATEVER THE INPUT: true; the input reads as it did. -/
def valueImpliesSpec : ChangeSpec := { name := "valueImplies", fn := fun _ => fun
  | [d1, d2, d3] => { results := [.lit (.bool true)], args := [d1, d2, d3] }
  | _ => none }
def valueImpliesRow : OpenClaim := { program := "ytcblgonlgnhgmaa", sum := "818db0d40b58744bb3b8ce233781b352052024b60891c575379898d5288a813f", func := "wattle/wattlelaw06.ValueImplies", spec := "valueImplies", inPlace := ["internal/bytealg.IndexByteString", "internal/bytealg.IndexString"], unfollowed := true, recurses := true, named := ["internal/bytealg.MaxLen"], apart := false }
def ValueImpliesSaid : Prop := valueImpliesRow.holds Try.pinned (OpenSpec.ofChange valueImpliesSpec)

/-- ITS FALSE NEIGHBOUR: 'it returns false'. Refute it at one input. -/
def valueImpliesWrong : ChangeSpec := { name := "valueImplies", fn := fun _ => fun
  | [d1, d2, d3] => { results := [.lit (.bool false)], args := [d1, d2, d3] }
  | _ => none }
def ValueImpliesWrongFalsely : Prop := valueImpliesRow.holds Try.pinned (OpenSpec.ofChange valueImpliesWrong)

/- THE SECOND FORM. 'bulk': how many values and letters a reading holds, each counted each time it is reached (what is shared counts as often as it is met; a slice's spare places count too). A statement '..UptoSaid' is the law's where the arguments, and the package variables that the reading takes, are together of bulk at most 1048576: NARROWER than '..Said'. Prove '..Said' where nothing that the law and all that it calls make is longer than what came in: it says more and counts as full. Else prove '..UptoSaid'. A law counts once. -/
mutual
def uptoBulk {H : Type} : DataW H → Nat
  | .lit (.string bytes) => bytes.length + 1
  | .lit _ => 1
  | .nil => 1
  | .ptr d => uptoBulk d + 1
  | .slice elems spare => uptoBulkAll elems + uptoBulkAll spare + 1
  | .agg parts => uptoBulkAll parts + 1
  | .iface _ d => uptoBulk d + 1
  | .map entries => uptoBulkEntries entries + 1
  | .held _ => 1
def uptoBulkAll {H : Type} : List (DataW H) → Nat
  | [] => 0
  | d :: r => uptoBulk d + uptoBulkAll r
def uptoBulkEntries {H : Type} : List (Lit × DataW H) → Nat
  | [] => 0
  | x :: r => uptoBulkEntry x + uptoBulkEntries r
def uptoBulkEntry {H : Type} : Lit × DataW H → Nat
  | (.string bytes, d) => bytes.length + uptoBulk d + 1
  | (_, d) => uptoBulk d + 1
 end
def uptoSmall : (H : Type) → List (DataW H) → Bool := fun _ ds => decide (uptoBulkAll ds ≤ 1048576)
def OpenSpec.upto (s : _root_.Go.ChangeSpec) : _root_.Go.OpenSpec := { _root_.Go.OpenSpec.ofChange s with cond := some uptoSmall }

/-- 'wattlelaw06.ValueFold', WHERE WHAT IT READS IS OF BULK AT MOST 1048576: true; the input reads as it did. -/
def valueFoldUptoRow : OpenClaim := { program := "ytcblgonlgnhgmaa", sum := "818db0d40b58744bb3b8ce233781b352052024b60891c575379898d5288a813f", func := "wattle/wattlelaw06.ValueFold", spec := "valueFold", inPlace := ["internal/bytealg.IndexByteString", "internal/bytealg.IndexString"], unfollowed := true, recurses := true, named := ["internal/bytealg.MaxLen"], apart := false, narrowed := true }
def ValueFoldUptoSaid : Prop := valueFoldUptoRow.holds Try.pinned (OpenSpec.upto valueFoldSpec)

/-- 'wattlelaw06.ValueJoined', WHERE WHAT IT READS IS OF BULK AT MOST 1048576: true; the input reads as it did. -/
def valueJoinedUptoRow : OpenClaim := { program := "ytcblgonlgnhgmaa", sum := "818db0d40b58744bb3b8ce233781b352052024b60891c575379898d5288a813f", func := "wattle/wattlelaw06.ValueJoined", spec := "valueJoined", inPlace := ["internal/bytealg.IndexByteString", "internal/bytealg.IndexString"], unfollowed := true, recurses := true, named := ["internal/bytealg.MaxLen"], apart := false, narrowed := true }
def ValueJoinedUptoSaid : Prop := valueJoinedUptoRow.holds Try.pinned (OpenSpec.upto valueJoinedSpec)

/-- 'wattlelaw06.ValueHolds', WHERE WHAT IT READS IS OF BULK AT MOST 1048576: true; the input reads as it did. -/
def valueHoldsUptoRow : OpenClaim := { program := "ytcblgonlgnhgmaa", sum := "818db0d40b58744bb3b8ce233781b352052024b60891c575379898d5288a813f", func := "wattle/wattlelaw06.ValueHolds", spec := "valueHolds", inPlace := ["internal/bytealg.IndexByteString", "internal/bytealg.IndexString"], unfollowed := true, recurses := true, named := ["internal/bytealg.MaxLen"], apart := false, narrowed := true }
def ValueHoldsUptoSaid : Prop := valueHoldsUptoRow.holds Try.pinned (OpenSpec.upto valueHoldsSpec)

/-- 'wattlelaw06.ValueLeast', WHERE WHAT IT READS IS OF BULK AT MOST 1048576: true; the input reads as it did. -/
def valueLeastUptoRow : OpenClaim := { program := "ytcblgonlgnhgmaa", sum := "818db0d40b58744bb3b8ce233781b352052024b60891c575379898d5288a813f", func := "wattle/wattlelaw06.ValueLeast", spec := "valueLeast", inPlace := ["internal/bytealg.IndexByteString", "internal/bytealg.IndexString"], unfollowed := true, recurses := true, named := ["internal/bytealg.MaxLen"], apart := false, narrowed := true }
def ValueLeastUptoSaid : Prop := valueLeastUptoRow.holds Try.pinned (OpenSpec.upto valueLeastSpec)

/-- 'wattlelaw06.ValueImplies', WHERE WHAT IT READS IS OF BULK AT MOST 1048576: true; the input reads as it did. -/
def valueImpliesUptoRow : OpenClaim := { program := "ytcblgonlgnhgmaa", sum := "818db0d40b58744bb3b8ce233781b352052024b60891c575379898d5288a813f", func := "wattle/wattlelaw06.ValueImplies", spec := "valueImplies", inPlace := ["internal/bytealg.IndexByteString", "internal/bytealg.IndexString"], unfollowed := true, recurses := true, named := ["internal/bytealg.MaxLen"], apart := false, narrowed := true }
def ValueImpliesUptoSaid : Prop := valueImpliesUptoRow.holds Try.pinned (OpenSpec.upto valueImpliesSpec)

end Rows
end Go.Proofs.Ytcblgonlgnhgmaa
