/- Chapter 6: the library's words for places in texts are ours. -/
import Derived.Test.YtcblgonlgnhgmaaAv6r
import Derived.Test.YtcblgonlgnhgmaaAv6x0
set_option linter.unusedVariables false
set_option linter.unusedSimpArgs false
namespace Go.Av
open Go.Proofs
theorem idxB_lo (c : UInt8) : ∀ (l : List UInt8) (k : Nat), idxB c k l = -1 ∨ (k : Int) ≤ idxB c k l
  | [], k => .inl rfl
  | x :: r, k => by
    unfold idxB
    split
    · exact .inr (Int.le_refl _)
    · rcases idxB_lo c r (k + 1) with h | h
      · exact .inl h
      · exact .inr (by omega)
theorem idxB_shift (c : UInt8) : ∀ (l : List UInt8) (k : Nat), idxB c (k + 1) l = if idxB c k l == -1 then -1 else idxB c k l + 1
  | [], k => rfl
  | x :: r, k => by
    unfold idxB
    split
    · rw [if_neg (by simp)]
      omega
    · rw [idxB_shift c r (k + 1)]
theorem index_idxB (c : UInt8) : ∀ (l : List UInt8), Lib.indexByte l c = idxB c 0 l
  | [] => rfl
  | x :: r => by
    unfold Lib.indexByte idxB
    rw [index_idxB c r, ← idxB_shift c r 0]
    simp only [beq_iff_eq]
    rfl
theorem pre_is : ∀ (p s : List UInt8), p.isPrefixOf s = preB p s
  | [], s => rfl
  | _ :: _, [] => rfl
  | a :: p, b :: s => by
    rw [List.isPrefixOf, preB, pre_is p s]
theorem has_contains (t : List UInt8) : ∀ (s : List UInt8), Lib.contains s t = hasB t s
  | [] => by
    unfold Lib.contains Lib.index hasB
    cases t with
    | nil => rfl
    | cons a r => rfl
  | x :: r => by
    have ih := has_contains t r
    unfold Lib.contains at ih ⊢
    unfold Lib.index hasB
    rw [pre_is, ← ih]
    have hge := Lib.index_ge r t
    cases preB t (x :: r) with
    | true => rfl
    | false =>
      simp only [Bool.false_eq_true, if_false, Bool.false_or]
      by_cases h : Lib.index r t = -1
      · simp [h]
      · have h2 : (Lib.index r t == -1) = false := by simpa using h
        rw [h2]
        simp only [Bool.false_eq_true, if_false]
        congr 1
        apply propext
        omega
end Go.Av
