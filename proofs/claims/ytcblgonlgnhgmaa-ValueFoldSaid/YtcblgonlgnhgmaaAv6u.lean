/- Chapter 6: the plain law of what implies. -/
import Derived.Test.YtcblgonlgnhgmaaAv6r
set_option linter.unusedVariables false
set_option linter.unusedSimpArgs false
namespace Go.Av
open Go.Proofs
theorem one_eq (ta tb : List UInt8) (fb : Bool) : ((tb == ta) || (fb && lowB ta == lowB tb)) = (if fb = true then lowB ta == lowB tb else ta == tb) := by
  cases fb with
  | false =>
    simp only [Bool.false_and, Bool.or_false, Bool.false_eq_true, if_false]
    rw [Bool.eq_iff_iff, beq_iff_eq, beq_iff_eq]
    exact eq_comm
  | true =>
    simp only [Bool.true_and, if_true]
    by_cases h : tb = ta
    · subst h; simp
    · rw [show (tb == ta) = false from by simpa using h, Bool.false_or]
theorem implies_eq (oa : Int) (ta : List UInt8) (fa : Bool) (ob : Int) (tb : List UInt8) (fb : Bool) : impliesF oa ta fa ob tb fb = rimpliesF oa ta fa ob tb fb := by
  unfold impliesF rimpliesF
  rw [never_eq oa ta fa, holds_eq, one_eq]
  generalize rneverF oa ta fa = n
  generalize rholdF ob (low1 fb tb) (low1 fb ta) = y
  generalize (if fb = true then lowB ta == lowB tb else ta == tb) = w
  cases n with
  | true => rfl
  | false =>
    simp only [Bool.false_eq_true, if_false, beq_iff_eq, Bool.and_eq_true, Bool.or_eq_true, decide_eq_true_eq]
    by_cases b1 : ob = 1
    · simp [b1]
    rw [if_neg b1, if_neg b1]
    split
    · rfl
    by_cases h2 : oa = 2
    · simp [h2]
    by_cases h3 : oa = 3
    · subst h3
      by_cases e : ob = 3
      · subst e; simp
      · have e' : ¬ (3 : Int) = ob := fun h => e h.symm
        have e2 : (ob == 3) = false := by simpa using e
        simp [e, e', e2]
    by_cases h4 : oa = 4
    · subst h4
      by_cases e : ob = 4
      · subst e; simp
      · have e' : ¬ (4 : Int) = ob := fun h => e h.symm
        have e2 : (ob == 4) = false := by simpa using e
        simp [e, e', e2]
    by_cases h5 : oa = 5
    · subst h5
      by_cases e : ob = 5
      · subst e; simp
      · have e' : ¬ (5 : Int) = ob := fun h => e h.symm
        have e2 : (ob == 5) = false := by simpa using e
        simp [e, e', e2]
    by_cases h6 : oa = 6
    · subst h6
      by_cases e : ob = 6
      · subst e; simp
      · have e' : ¬ (6 : Int) = ob := fun h => e h.symm
        have e2 : (ob == 6) = false := by simpa using e
        simp [e, e', e2]
    by_cases h7 : oa = 7
    · subst h7
      by_cases e : ob = 7
      · subst e; simp
      · have e' : ¬ (7 : Int) = ob := fun h => e h.symm
        have e2 : (ob == 7) = false := by simpa using e
        simp [e, e', e2]
    · have g : ¬ (oa = ob ∧ 5 ≤ oa ∧ oa ≤ 7) := fun h => by omega
      rw [if_neg g]
      simp [h2, h3, h4, h5, h6, h7]
end Go.Av
