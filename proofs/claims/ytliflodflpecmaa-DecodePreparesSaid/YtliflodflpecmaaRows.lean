/-
  No cell of these rows narrows 'for every input' (looked for: loops, veiled, ifaces, maps, wideKeys, modest, calm, conditions, laid).
  DERIVED. THE GIVEN ROWS OF THIS SEAT. 4 by the template 'for every input the law returns true; each argument reads behind the call as it read before'; 0 by the template 'total and deterministic' (their statements: YtliflodflpecmaaTotals.lean).
  GIVEN WITH THE SEED: the statements are not yours to turn. If you find one false, say at which input.
  Laid BY PROGRAM, IN A SANDBOX (cutbox-rows.mjs): the forced cells as the released guide's own fill.sh prints them over the translation f67212eae8383746… (all of the seat's roots in one cut). By AI agents, Wed Nov 11 2026. No macro, syntax, notation, axiom, sorry.
-/
import Derived.Test.YtliflodflpecmaaChecked
import GoSem.Claim
import GoSem.ClaimJoined
import GoSem.ClaimMapViews
import Derived.JoinedTies
import Derived.KernelRfl
namespace Go.Proofs.Ytliflodflpecmaa
/- THE CELL 'sum', in the pinned program and in every row, IS THE sha256 OF THE DUMP (.gsa) THAT YtliflodflpecmaaProg.lean LOADS. Nothing in Lean hashes anything: it is a label: what it is worth is what the hold of that sum in a sandbox is worth. -/
noncomputable def Try.pinned : Pinned := { name := "ytliflodflpecmaa", sum := "f67212eae838374647cf35ce6b3cc2adc726a6cb4d17aad78fd0a4bce8e3fbaf", checked := Try.checked }
namespace Rows
def none {H : Type} : Left H := { results := [], args := [] }

/-- 'wattlelaw01.DecodeJoins': WHATEVER THE INPUT: true; the input reads as it did. -/
def decodeJoinsSpec : ChangeSpec := { name := "decodeJoins", fn := fun _ => fun
  | [d1, d2] => { results := [.lit (.bool true)], args := [d1, d2] }
  | _ => none }
def decodeJoinsRow : OpenClaim := { program := "ytliflodflpecmaa", sum := "f67212eae838374647cf35ce6b3cc2adc726a6cb4d17aad78fd0a4bce8e3fbaf", func := "wattle/wattlelaw01.DecodeJoins", spec := "decodeJoins", apart := false }
def DecodeJoinsSaid : Prop := decodeJoinsRow.holds Try.pinned (OpenSpec.ofChange decodeJoinsSpec)

/-- ITS FALSE NEIGHBOUR: 'it returns false'. Refute it at one input. -/
def decodeJoinsWrong : ChangeSpec := { name := "decodeJoins", fn := fun _ => fun
  | [d1, d2] => { results := [.lit (.bool false)], args := [d1, d2] }
  | _ => none }
def DecodeJoinsWrongFalsely : Prop := decodeJoinsRow.holds Try.pinned (OpenSpec.ofChange decodeJoinsWrong)

/-- 'wattlelaw01.DecodeLines': WHATEVER THE INPUT: true; the input reads as it did. -/
def decodeLinesSpec : ChangeSpec := { name := "decodeLines", fn := fun _ => fun
  | [d1, d2] => { results := [.lit (.bool true)], args := [d1, d2] }
  | _ => none }
def decodeLinesRow : OpenClaim := { program := "ytliflodflpecmaa", sum := "f67212eae838374647cf35ce6b3cc2adc726a6cb4d17aad78fd0a4bce8e3fbaf", func := "wattle/wattlelaw01.DecodeLines", spec := "decodeLines", apart := false }
def DecodeLinesSaid : Prop := decodeLinesRow.holds Try.pinned (OpenSpec.ofChange decodeLinesSpec)

/-- ITS FALSE NEIGHBOUR: 'it returns false'. Refute it at one input. -/
def decodeLinesWrong : ChangeSpec := { name := "decodeLines", fn := fun _ => fun
  | [d1, d2] => { results := [.lit (.bool false)], args := [d1, d2] }
  | _ => none }
def DecodeLinesWrongFalsely : Prop := decodeLinesRow.holds Try.pinned (OpenSpec.ofChange decodeLinesWrong)

/-- 'wattlelaw01.DecodeBack': WHATEVER THE INPUT: true; the input reads as it did. -/
def decodeBackSpec : ChangeSpec := { name := "decodeBack", fn := fun _ => fun
  | [d] => { results := [.lit (.bool true)], args := [d] }
  | _ => none }
def decodeBackRow : OpenClaim := { program := "ytliflodflpecmaa", sum := "f67212eae838374647cf35ce6b3cc2adc726a6cb4d17aad78fd0a4bce8e3fbaf", func := "wattle/wattlelaw01.DecodeBack", spec := "decodeBack", apart := false }
def DecodeBackSaid : Prop := decodeBackRow.holds Try.pinned (OpenSpec.ofChange decodeBackSpec)

/-- ITS FALSE NEIGHBOUR: 'it returns false'. Refute it at one input. -/
def decodeBackWrong : ChangeSpec := { name := "decodeBack", fn := fun _ => fun
  | [d] => { results := [.lit (.bool false)], args := [d] }
  | _ => none }
def DecodeBackWrongFalsely : Prop := decodeBackRow.holds Try.pinned (OpenSpec.ofChange decodeBackWrong)

/-- 'wattlelaw01.DecodePrepares': WHATEVER THE INPUT: true; the input reads as it did. -/
def decodePreparesSpec : ChangeSpec := { name := "decodePrepares", fn := fun _ => fun
  | [d] => { results := [.lit (.bool true)], args := [d] }
  | _ => none }
def decodePreparesRow : OpenClaim := { program := "ytliflodflpecmaa", sum := "f67212eae838374647cf35ce6b3cc2adc726a6cb4d17aad78fd0a4bce8e3fbaf", func := "wattle/wattlelaw01.DecodePrepares", spec := "decodePrepares", apart := false }
def DecodePreparesSaid : Prop := decodePreparesRow.holds Try.pinned (OpenSpec.ofChange decodePreparesSpec)

/-- ITS FALSE NEIGHBOUR: 'it returns false'. Refute it at one input. -/
def decodePreparesWrong : ChangeSpec := { name := "decodePrepares", fn := fun _ => fun
  | [d] => { results := [.lit (.bool false)], args := [d] }
  | _ => none }
def DecodePreparesWrongFalsely : Prop := decodePreparesRow.holds Try.pinned (OpenSpec.ofChange decodePreparesWrong)

/- THE SECOND FORM. 'bulk': how many values and letters a reading holds, each counted each time it is reached (what is shared counts as often as it is met; a slice's spare places count too). A statement '..UptoSaid' is the law's where the arguments, and the package variables that the reading takes, are together of bulk at most 1048576: NARROWER than '..Said'. Prove '..Said' where nothing that the law and all that it calls make is longer than what came in: it says more and counts as full. Else prove '..UptoSaid'. A law counts once. -/
mutual
def uptoBulk {H : Type} : DataW H → Nat
  | .lit (.string bytes) => bytes.length + 1
  | .lit _ => 1
  | .nil => 1
  | .ptr d => uptoBulk d + 1
  | .slice elems spare => uptoBulkAll elems + uptoBulkAll spare + 1
  | .agg parts => uptoBulkAll parts + 1
  | .iface _ d => uptoBulk d + 1
  | .map entries => uptoBulkEntries entries + 1
  | .held _ => 1
def uptoBulkAll {H : Type} : List (DataW H) → Nat
  | [] => 0
  | d :: r => uptoBulk d + uptoBulkAll r
def uptoBulkEntries {H : Type} : List (Lit × DataW H) → Nat
  | [] => 0
  | x :: r => uptoBulkEntry x + uptoBulkEntries r
def uptoBulkEntry {H : Type} : Lit × DataW H → Nat
  | (.string bytes, d) => bytes.length + uptoBulk d + 1
  | (_, d) => uptoBulk d + 1
 end
def uptoSmall : (H : Type) → List (DataW H) → Bool := fun _ ds => decide (uptoBulkAll ds ≤ 1048576)
def OpenSpec.upto (s : _root_.Go.ChangeSpec) : _root_.Go.OpenSpec := { _root_.Go.OpenSpec.ofChange s with cond := some uptoSmall }

/-- 'wattlelaw01.DecodeJoins', WHERE WHAT IT READS IS OF BULK AT MOST 1048576: true; the input reads as it did. -/
def decodeJoinsUptoRow : OpenClaim := { program := "ytliflodflpecmaa", sum := "f67212eae838374647cf35ce6b3cc2adc726a6cb4d17aad78fd0a4bce8e3fbaf", func := "wattle/wattlelaw01.DecodeJoins", spec := "decodeJoins", apart := false, narrowed := true }
def DecodeJoinsUptoSaid : Prop := decodeJoinsUptoRow.holds Try.pinned (OpenSpec.upto decodeJoinsSpec)

/-- 'wattlelaw01.DecodeLines', WHERE WHAT IT READS IS OF BULK AT MOST 1048576: true; the input reads as it did. -/
def decodeLinesUptoRow : OpenClaim := { program := "ytliflodflpecmaa", sum := "f67212eae838374647cf35ce6b3cc2adc726a6cb4d17aad78fd0a4bce8e3fbaf", func := "wattle/wattlelaw01.DecodeLines", spec := "decodeLines", apart := false, narrowed := true }
def DecodeLinesUptoSaid : Prop := decodeLinesUptoRow.holds Try.pinned (OpenSpec.upto decodeLinesSpec)

/-- 'wattlelaw01.DecodeBack', WHERE WHAT IT READS IS OF BULK AT MOST 1048576: true; the input reads as it did. -/
def decodeBackUptoRow : OpenClaim := { program := "ytliflodflpecmaa", sum := "f67212eae838374647cf35ce6b3cc2adc726a6cb4d17aad78fd0a4bce8e3fbaf", func := "wattle/wattlelaw01.DecodeBack", spec := "decodeBack", apart := false, narrowed := true }
def DecodeBackUptoSaid : Prop := decodeBackUptoRow.holds Try.pinned (OpenSpec.upto decodeBackSpec)

/-- 'wattlelaw01.DecodePrepares', WHERE WHAT IT READS IS OF BULK AT MOST 1048576: true; the input reads as it did. -/
def decodePreparesUptoRow : OpenClaim := { program := "ytliflodflpecmaa", sum := "f67212eae838374647cf35ce6b3cc2adc726a6cb4d17aad78fd0a4bce8e3fbaf", func := "wattle/wattlelaw01.DecodePrepares", spec := "decodePrepares", apart := false, narrowed := true }
def DecodePreparesUptoSaid : Prop := decodePreparesUptoRow.holds Try.pinned (OpenSpec.upto decodePreparesSpec)

end Rows
end Go.Proofs.Ytliflodflpecmaa
