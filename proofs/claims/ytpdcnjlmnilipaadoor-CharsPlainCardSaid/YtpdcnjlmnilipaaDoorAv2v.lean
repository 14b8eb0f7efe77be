/- Chapter 2: the library's words for places in texts are ours. -/
import Derived.Test.YtpdcnjlmnilipaaDoorAv2e
import Derived.Test.YtpdcnjlmnilipaaDoorAv2x0
import Derived.Test.YtpdcnjlmnilipaaDoorAvb
set_option linter.unusedVariables false
set_option linter.unusedSimpArgs false
namespace Go.Av
open Go.Proofs
/-- The first place of a byte, from a place on; -1: none. -/
def idxB (c : UInt8) : Nat → List UInt8 → Int
  | _, [] => -1
  | k, x :: r => if x = c then (k : Int) else idxB c (k + 1) r
theorem idxB_lo (c : UInt8) : ∀ (l : List UInt8) (k : Nat), idxB c k l = -1 ∨ (k : Int) ≤ idxB c k l
  | [], k => .inl rfl
  | x :: r, k => by
    unfold idxB
    split
    · exact .inr (Int.le_refl _)
    · rcases idxB_lo c r (k + 1) with h | h
      · exact .inl h
      · exact .inr (by omega)
theorem idxB_shift (c : UInt8) : ∀ (l : List UInt8) (k : Nat), idxB c (k + 1) l = if idxB c k l == -1 then -1 else idxB c k l + 1
  | [], k => rfl
  | x :: r, k => by
    unfold idxB
    split
    · rw [if_neg (by simp)]
      omega
    · rw [idxB_shift c r (k + 1)]
theorem index_idxB (c : UInt8) : ∀ (l : List UInt8), Lib.indexByte l c = idxB c 0 l
  | [] => rfl
  | x :: r => by
    unfold Lib.indexByte idxB
    rw [index_idxB c r, ← idxB_shift c r 0]
    simp only [beq_iff_eq]
    rfl
end Go.Av
