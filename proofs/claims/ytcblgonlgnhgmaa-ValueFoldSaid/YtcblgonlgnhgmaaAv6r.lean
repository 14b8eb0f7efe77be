/- Chapter 6: the plain laws of what never holds, and of the shortest value. -/
import Derived.Test.YtcblgonlgnhgmaaAv6q
import Derived.Test.YtcblgonlgnhgmaaAv6o
set_option linter.unusedVariables false
set_option linter.unusedSimpArgs false
namespace Go.Av
open Go.Proofs
theorem preB_self (t : List UInt8) : preB t t = true := by rw [preB_eq]; simp
theorem parts_one : ∀ (s p : List UInt8), s.any blankB = false → partsB s p = if p ++ s = [] then [] else [p ++ s]
  | [], p, _ => by simp [partsB]
  | x :: r, p, h => by
    simp only [List.any_cons, Bool.or_eq_false_iff] at h
    unfold partsB
    rw [h.1]
    simp only [Bool.false_eq_true, if_false]
    rw [parts_one r (p ++ [x]) h.2]
    simp
/-- A condition that may hold does of its own text. -/
theorem holds_self (op : Int) (t : List UInt8) (fold : Bool) (h : neverF op t = false) : holdsF op t fold t = true := by
  unfold holdsF
  rw [h]
  simp only [Bool.false_eq_true, if_false]
  unfold neverF at h
  rw [← low1_blank fold t, ← low1_nil fold t] at h
  generalize low1 fold t = t' at *
  unfold holdF
  simp only [beq_iff_eq] at h ⊢
  by_cases h2 : op = 2
  · simp [h2]
  by_cases h3 : op = 3
  · subst h3
    simp only [Int.reduceEq, if_true, if_false, Bool.or_eq_false_iff] at h ⊢
    have hne : t' ≠ [] := by have := h.2; simpa using this
    rw [parts_one t' [] h.1, if_neg (by simpa using hne)]
    simp
  by_cases h4 : op = 4
  · subst h4
    simp only [Int.reduceEq, if_true, if_false]
    simp [dashF, preB_self]
  by_cases h5 : op = 5
  · subst h5
    simp only [Int.reduceEq, if_true, if_false]
    exact preB_self t'
  by_cases h6 : op = 6
  · subst h6
    simp only [Int.reduceEq, if_true, if_false]
    simp [sufF]
  by_cases h7 : op = 7
  · subst h7
    simp only [Int.reduceEq, if_true, if_false]
    cases t' with
    | nil => rfl
    | cons x r => rw [hasB, preB_self]; rfl
  · simp [h2, h3, h4, h5, h6, h7]
theorem never_eq (op : Int) (t : List UInt8) (fold : Bool) : neverF op t = rneverF op t fold := by
  unfold rneverF
  rw [← holds_eq]
  cases h : neverF op t with
  | true =>
    have hh : holdsF op t fold t = false := by unfold holdsF; rw [h]; rfl
    rw [hh]
    unfold neverF at h
    simp only [beq_iff_eq] at h ⊢
    by_cases h1 : op = 1
    · simp [h1] at h
    by_cases h2 : op = 2
    · simp [h2] at h
    by_cases h4 : op = 4
    · simp [h4] at h
    simp [h1, h2, h4]
  | false =>
    rw [holds_self op t fold h]
    simp
theorem never_holds {op : Int} {t : List UInt8} {fold : Bool} {s : List UInt8} (h : neverF op t = true) : rholdF op (low1 fold t) (low1 fold s) = false := by
  rw [← holds_eq, holdsF, if_pos h]
theorem least_holds {op : Int} {t : List UInt8} {fold : Bool} (h : neverF op t = false) : rholdF op (low1 fold t) (low1 fold (leastF op t)) = true := by
  unfold leastF
  rw [h]
  simp only [Bool.false_eq_true, if_false, beq_iff_eq]
  by_cases h1 : op = 1
  · subst h1
    rfl
  · rw [if_neg h1, ← holds_eq]
    exact holds_self op t fold h
theorem parts_len2 : ∀ (s p : List UInt8) (q : List UInt8), q ∈ partsB s p → q.length ≤ p.length + s.length
  | [], p, q, h => by
    unfold partsB at h
    split at h
    · simp at h
    · simp at h; subst h; simp
  | x :: r, p, q, h => by
    unfold partsB at h
    split at h
    · split at h
      · have := parts_len2 r [] q h
        simp at this ⊢; omega
      · rcases List.mem_cons.1 h with rfl | h
        · simp
        · have := parts_len2 r [] q h
          simp at this ⊢; omega
    · have := parts_len2 r (p ++ [x]) q h
      simp at this ⊢; omega
theorem preB_len {t v : List UInt8} (h : preB t v = true) : t.length ≤ v.length := by
  rw [preB_eq] at h
  simp only [Bool.and_eq_true, decide_eq_true_eq] at h
  exact h.1
theorem hasB_len : ∀ {v t : List UInt8}, hasB t v = true → t.length ≤ v.length
  | [], t, h => preB_len h
  | x :: r, t, h => by
    rw [hasB, Bool.or_eq_true] at h
    rcases h with h | h
    · exact preB_len h
    · have := hasB_len h
      simp; omega
/-- What holds is no shorter than the condition's text. -/
theorem holds_len {op : Int} {t : List UInt8} {fold : Bool} {s : List UInt8} (h1 : op ≠ 1) (hr : op = 2 ∨ op = 3 ∨ op = 4 ∨ op = 5 ∨ op = 6 ∨ op = 7) (h : holdsF op t fold s = true) : t.length ≤ s.length := by
  rw [← low1_len fold t, ← low1_len fold s]
  unfold holdsF at h
  split at h
  · cases h
  generalize low1 fold t = t' at *
  generalize low1 fold s = s' at *
  unfold holdF at h
  simp only [beq_iff_eq] at h
  rcases hr with rfl | rfl | rfl | rfl | rfl | rfl
  · simp only [if_true] at h
    rw [beq_iff_eq] at h
    rw [h]
    exact Nat.le_refl _
  · simp only [Int.reduceEq, if_true, if_false] at h
    have := parts_len2 s' [] t' (by simpa using h)
    simpa using this
  · simp only [Int.reduceEq, if_true, if_false, dashF, Bool.and_eq_true] at h
    exact preB_len h.1
  · simp only [Int.reduceEq, if_true, if_false] at h
    exact preB_len h
  · simp only [Int.reduceEq, if_true, if_false, sufF, Bool.and_eq_true, decide_eq_true_eq] at h
    exact h.1
  · simp only [Int.reduceEq, if_true, if_false] at h
    exact hasB_len h
theorem least_len {op : Int} {t : List UInt8} {fold : Bool} {s : List UInt8} (h : neverF op t = false) (hh : rholdF op (low1 fold t) (low1 fold s) = true) : (leastF op t).length ≤ s.length := by
  rw [← holds_eq] at hh
  unfold leastF
  rw [h]
  simp only [Bool.false_eq_true, if_false, beq_iff_eq]
  by_cases h1 : op = 1
  · simp [h1]
  · rw [if_neg h1]
    refine holds_len h1 ?_ hh
    unfold neverF at h
    simp only [beq_iff_eq] at h
    apply Classical.byContradiction
    intro hn
    have g2 : ¬ op = 2 := fun e => hn (.inl e)
    have g3 : ¬ op = 3 := fun e => hn (.inr (.inl e))
    have g4 : ¬ op = 4 := fun e => hn (.inr (.inr (.inl e)))
    have g5 : ¬ op = 5 := fun e => hn (.inr (.inr (.inr (.inl e))))
    have g6 : ¬ op = 6 := fun e => hn (.inr (.inr (.inr (.inr (.inl e)))))
    have g7 : ¬ op = 7 := fun e => hn (.inr (.inr (.inr (.inr (.inr e)))))
    simp [h1, g2, g3, g4, g5, g6, g7] at h
/-- ValueLeast's own function hands back true. -/
theorem law6_true (op : Int) (t : List UInt8) (fold : Bool) (s : List UInt8) : callL Try.prog ext6 6 [condD op t fold, .str s] [] = some (.bool true, [.no], []) :=
  law6_L op t fold s (never_eq op t fold) never_holds least_holds least_len
end Go.Av
