/- Chapter 6: the plain laws of what holds. -/
import Derived.Test.YtcblgonlgnhgmaaAv6l
set_option linter.unusedVariables false
set_option linter.unusedSimpArgs false
namespace Go.Av
open Go.Proofs
theorem preB_at (t v : List UInt8) : preB t v = atF v 0 t := by
  rw [preB_eq, atF]
  simp
theorem sufB_at (t v : List UInt8) : sufF t v = (decide (t.length ≤ v.length) && atF v (v.length - t.length) t) := by
  unfold sufF atF
  by_cases h : t.length ≤ v.length
  · rw [decide_eq_true h, Nat.sub_add_cancel h, List.take_length]
    simp
  · rw [decide_eq_false h]
    rfl
theorem lowC_blank (x : UInt8) : blankB (lowC x) = blankB x := by
  rw [blank_nat, blank_nat]
  have h := x.toNat_lt
  unfold lowC
  split
  · rw [UInt8.toNat_add]
    have : (32 : UInt8).toNat = 32 := rfl
    congr 1
    apply propext
    omega
  · rfl
theorem lowB_blank (l : List UInt8) : (lowB l).any blankB = l.any blankB := by
  induction l with
  | nil => rfl
  | cons x r ih =>
    simp only [lowB, List.map_cons, List.any_cons] at ih ⊢
    rw [lowC_blank, ih]
theorem low1_blank (fold : Bool) (l : List UInt8) : (low1 fold l).any blankB = l.any blankB := by
  unfold low1
  split
  · exact lowB_blank l
  · rfl
theorem low1_nil (fold : Bool) (l : List UInt8) : (low1 fold l == []) = (l == []) := by
  rw [Bool.eq_iff_iff, beq_iff_eq, beq_iff_eq]
  constructor
  · intro h
    have := congrArg List.length h
    rw [low1_len] at this
    exact List.length_eq_zero_iff.1 this
  · intro h
    subst h
    cases fold <;> rfl
theorem has_at (t : List UInt8) (ht : t ≠ []) : ∀ (v : List UInt8), hasB t v = (List.range v.length).any (atF v · t)
  | [] => by
    cases t with
    | nil => exact absurd rfl ht
    | cons a r => rfl
  | x :: r => by
    rw [hasB, has_at t ht r, preB_at, List.length_cons, List.range_succ_eq_map, List.any_cons, List.any_map]
    congr 1
    congr 1
    funext k
    simp only [Function.comp, atF, List.length_cons]
    rw [show k.succ + t.length = (k + t.length) + 1 from by omega, List.take_succ_cons, List.drop_succ_cons]
    congr 1
    simp
theorem dash_at (t v : List UInt8) : dashF t v = (t == v || atF v 0 (t ++ [45])) := by
  unfold dashF
  rw [← preB_at]
  induction t generalizing v with
  | nil =>
    cases v with
    | nil => rfl
    | cons x r =>
      simp only [preB, List.length_nil, List.drop_zero, List.nil_append, List.getD_cons_zero, Bool.true_and, Bool.and_true]
      rw [show ((x :: r : List UInt8) == []) = false from rfl, show (([] : List UInt8) == x :: r) = false from rfl]
      simp only [Bool.false_or]
      rw [Bool.eq_iff_iff, beq_iff_eq, beq_iff_eq]
      exact eq_comm
  | cons a t ih =>
    cases v with
    | nil => rfl
    | cons x r =>
      simp only [preB, List.length_cons, List.drop_succ_cons, List.cons_append, List.cons_beq_cons]
      rw [Bool.and_assoc, ih r]
      cases (a == x) <;> simp
theorem contains_any (ls : List (List UInt8)) (t : List UInt8) : ls.contains t = ls.any (· == t) := by
  induction ls with
  | nil => rfl
  | cons x r ih =>
    rw [List.contains_cons, List.any_cons, ih]
    congr 1
    rw [Bool.eq_iff_iff, beq_iff_eq, beq_iff_eq]
    exact eq_comm
/-- What holds of a value is the document's. -/
theorem holds_eq (op : Int) (t : List UInt8) (fold : Bool) (v : List UInt8) : holdsF op t fold v = rholdF op (low1 fold t) (low1 fold v) := by
  have hb := low1_blank fold t
  have hn := low1_nil fold t
  unfold holdsF neverF
  rw [← hb, ← hn]
  generalize low1 fold t = t'
  generalize low1 fold v = v'
  unfold holdF rholdF
  simp only [beq_iff_eq]
  by_cases h1 : op = 1
  · subst h1; simp
  by_cases h2 : op = 2
  · subst h2
    simp only [Int.reduceEq, if_true, if_false, Bool.false_eq_true, reduceIte]
    rw [Bool.eq_iff_iff, beq_iff_eq, beq_iff_eq]
    exact eq_comm
  by_cases h4 : op = 4
  · subst h4
    simp only [Int.reduceEq, if_true, if_false, Bool.false_eq_true, reduceIte]
    exact dash_at t' v'
  by_cases h3 : op = 3
  · subst h3
    simp only [Int.reduceEq, if_true, if_false, Bool.false_eq_true, reduceIte]
    rw [contains_any]
    by_cases hz : t' = []
    · simp [hz]
    · cases t'.any blankB <;> simp [hz]
  by_cases h5 : op = 5
  · subst h5
    simp only [Int.reduceEq, if_true, if_false, Bool.false_eq_true, reduceIte]
    rw [preB_at]
    by_cases hz : t' = []
    · simp [hz]
    · simp [hz]
  by_cases h6 : op = 6
  · subst h6
    simp only [Int.reduceEq, if_true, if_false, Bool.false_eq_true, reduceIte]
    rw [sufB_at]
    by_cases hz : t' = []
    · simp [hz]
    · simp [hz]
  by_cases h7 : op = 7
  · subst h7
    simp only [Int.reduceEq, if_true, if_false, Bool.false_eq_true, reduceIte]
    by_cases hz : t' = []
    · simp [hz]
    · rw [has_at t' hz]
      simp [hz]
  · simp [h1, h2, h3, h4, h5, h6, h7]
end Go.Av
