/- Chapter 6: what holds of a value, told by how the value is made up; what is implied holds; what is joined holds. -/
import Derived.Test.YtcblgonlgnhgmaaAv6u
import Derived.Test.YtcblgonlgnhgmaaAv6p
set_option linter.unusedVariables false
set_option linter.unusedSimpArgs false
namespace Go.Av
open Go.Proofs
theorem atF_iff (s t : List UInt8) (k : Nat) : atF s k t = true ↔ ∃ x y, s = x ++ t ++ y ∧ x.length = k := by
  unfold atF
  simp only [Bool.and_eq_true, decide_eq_true_eq, beq_iff_eq]
  constructor
  · rintro ⟨h1, h2⟩
    refine ⟨s.take k, s.drop (k + t.length), ?_, by simp; omega⟩
    have e := List.drop_take (i := k) (j := k + t.length) (l := s)
    rw [h2, Nat.add_sub_cancel_left] at e
    have e3 : t ++ s.drop (k + t.length) = s.drop k := by
      conv => lhs; lhs; rw [e]
      rw [← List.drop_drop, List.take_append_drop]
    rw [List.append_assoc, e3, List.take_append_drop]
  · rintro ⟨x, y, rfl, rfl⟩
    refine ⟨by simp, ?_⟩
    rw [show x.length + t.length = (x ++ t).length from by simp, List.take_left' rfl, List.drop_left' rfl]
def holdR (op : Int) (t v : List UInt8) : Prop :=
  if op = 1 then True else if op = 2 then t = v else if op = 4 then (t = v ∨ ∃ y, v = t ++ 45 :: y) else t ≠ [] ∧
    (if op = 5 then ∃ y, v = t ++ y else if op = 6 then ∃ x, v = x ++ t else if op = 3 then (t.any blankB = false ∧ t ∈ partsB v []) else if op = 7 then ∃ x y, v = x ++ t ++ y else False)
theorem hold_iff (op : Int) (t v : List UInt8) : rholdF op t v = true ↔ holdR op t v := by
  unfold rholdF holdR
  split
  · simp
  split
  · simp
  split
  · simp only [Bool.or_eq_true, beq_iff_eq, atF_iff]
    refine or_congr Iff.rfl ⟨?_, ?_⟩
    · rintro ⟨x, y, rfl, h⟩
      rw [List.length_eq_zero_iff.1 h]
      exact ⟨y, by simp⟩
    · rintro ⟨y, rfl⟩
      exact ⟨[], y, by simp, rfl⟩
  by_cases ht : t = []
  · simp [ht]
  · rw [if_neg (by simpa using ht)]
    simp only [ht, not_false_eq_true, ne_eq, true_and]
    split
    · rw [atF_iff]
      constructor
      · rintro ⟨x, y, rfl, h⟩
        rw [List.length_eq_zero_iff.1 h]
        exact ⟨y, rfl⟩
      · rintro ⟨y, rfl⟩
        exact ⟨[], y, rfl, rfl⟩
    split
    · rw [Bool.and_eq_true, decide_eq_true_eq, atF_iff]
      constructor
      · rintro ⟨_, x, y, rfl, h⟩
        simp at h
        have hy : y = [] := List.length_eq_zero_iff.1 (by omega)
        subst hy
        exact ⟨x, by simp⟩
      · rintro ⟨x, rfl⟩
        exact ⟨by simp, x, [], by simp, by simp⟩
    split
    · simp only [Bool.and_eq_true, Bool.not_eq_true', List.any_eq_true, beq_iff_eq]
      refine and_congr ?_ ⟨?_, fun h => ⟨t, h, rfl⟩⟩
      · exact Iff.rfl
      · rintro ⟨x, h, rfl⟩
        exact h
    split
    · simp only [List.any_eq_true, List.mem_range, atF_iff]
      constructor
      · rintro ⟨_, _, x, y, h, _⟩
        exact ⟨x, y, h⟩
      · rintro ⟨x, y, rfl⟩
        refine ⟨x.length, ?_, x, y, rfl, rfl⟩
        have : 0 < t.length := by cases t <;> simp_all
        simp; omega
    · simp
theorem lowC_idem (x : UInt8) : lowC (lowC x) = lowC x := by
  have h := x.toNat_lt
  unfold lowC
  by_cases h1 : 65 ≤ x.toNat ∧ x.toNat ≤ 90
  · rw [if_pos h1, if_neg]
    rw [UInt8.toNat_add]
    have : (32 : UInt8).toNat = 32 := rfl
    omega
  · rw [if_neg h1, if_neg h1]
theorem lowB_idem (l : List UInt8) : lowB (lowB l) = lowB l := by
  simp [lowB, lowC_idem]
theorem low1_low1 {fa fb : Bool} (h : (fa && !fb) = false) (l : List UInt8) : low1 fb (low1 fa l) = low1 fb l := by
  cases fa <;> cases fb <;> simp_all [low1, lowB_idem]
theorem low1_app (f : Bool) (a b : List UInt8) : low1 f (a ++ b) = low1 f a ++ low1 f b := by cases f <;> simp [low1, lowB]
theorem low1_cons (f : Bool) (c : UInt8) (hc : lowC c = c) (b : List UInt8) : low1 f (c :: b) = c :: low1 f b := by cases f <;> simp [low1, lowB, hc]
theorem low1_ne (f : Bool) {l : List UInt8} (h : l ≠ []) : low1 f l ≠ [] := by cases f <;> simp_all [low1, lowB]
theorem parts_low : ∀ (v p : List UInt8), partsB (lowB v) (lowB p) = (partsB v p).map lowB
  | [], p => by
    cases p <;> simp [partsB, lowB]
  | x :: r, p => by
    have h1 := parts_low r []
    have h2 := parts_low r (p ++ [x])
    simp only [lowB, List.map_cons, List.map_append, List.map_nil] at h1 h2 ⊢
    unfold partsB
    rw [lowC_blank, h1, h2]
    cases p <;> simp [lowB] <;> split <;> simp [lowB]
theorem parts_low1 (f : Bool) (v : List UInt8) : partsB (low1 f v) [] = (partsB v []).map (low1 f) := by
  cases f with
  | false =>
    have e : low1 false = id := by funext l; rfl
    rw [e, List.map_id, id]
  | true => exact parts_low v []
theorem parts_in (t : List UInt8) : ∀ (v p : List UInt8), t ∈ partsB v p → ∃ x y, p ++ v = x ++ t ++ y
  | [], p, h => by
    unfold partsB at h
    split at h
    · cases h
    · simp at h; subst h; exact ⟨[], [], by simp⟩
  | c :: r, p, h => by
    unfold partsB at h
    split at h
    · split at h
      · obtain ⟨x, y, e⟩ := parts_in t r [] h
        exact ⟨p ++ c :: x, y, by simp at e; simp [e]⟩
      · rcases List.mem_cons.1 h with rfl | h
        · exact ⟨[], c :: r, rfl⟩
        · obtain ⟨x, y, e⟩ := parts_in t r [] h
          exact ⟨p ++ c :: x, y, by simp at e; simp [e]⟩
    · obtain ⟨x, y, e⟩ := parts_in t r (p ++ [c]) h
      exact ⟨x, y, by rw [← e]; simp⟩
theorem parts_cut (c : UInt8) (hc : blankB c = true) (w : List UInt8) : ∀ (u p : List UInt8), partsB (u ++ c :: w) p = partsB u p ++ partsB w []
  | [], p => by
    rw [List.nil_append]
    conv => lhs; unfold partsB
    conv => rhs; lhs; unfold partsB
    rw [if_pos hc]
    split <;> simp
  | x :: r, p => by
    rw [List.cons_append]
    conv => lhs; unfold partsB
    conv => rhs; lhs; unfold partsB
    rw [parts_cut c hc w r [], parts_cut c hc w r (p ++ [x])]
    split
    · split <;> simp
    · rfl
/-- In small letters it holds as well. -/
theorem hold_low (op : Int) (f : Bool) (t v : List UInt8) (h : holdR op t v) : holdR op (low1 f t) (low1 f v) := by
  unfold holdR at h ⊢
  split
  · trivial
  rename_i h1
  rw [if_neg h1] at h
  split
  · rename_i h2
    rw [if_pos h2] at h
    rw [h]
  rename_i h2
  rw [if_neg h2] at h
  split
  · rename_i h4
    rw [if_pos h4] at h
    rcases h with rfl | ⟨y, rfl⟩
    · exact .inl rfl
    · exact .inr ⟨low1 f y, by rw [low1_app, low1_cons f 45 (by decide)]⟩
  rename_i h4
  rw [if_neg h4] at h
  obtain ⟨hn, h⟩ := h
  refine ⟨low1_ne f hn, ?_⟩
  split
  · rename_i h5
    rw [if_pos h5] at h
    obtain ⟨y, rfl⟩ := h
    exact ⟨low1 f y, low1_app _ _ _⟩
  rename_i h5
  rw [if_neg h5] at h
  split
  · rename_i h6
    rw [if_pos h6] at h
    obtain ⟨y, rfl⟩ := h
    exact ⟨low1 f y, low1_app _ _ _⟩
  rename_i h6
  rw [if_neg h6] at h
  split
  · rename_i h3
    rw [if_pos h3] at h
    rw [low1_blank, parts_low1]
    exact ⟨h.1, List.mem_map_of_mem h.2⟩
  rename_i h3
  rw [if_neg h3] at h
  split
  · rename_i h7
    rw [if_pos h7] at h
    obtain ⟨x, y, rfl⟩ := h
    exact ⟨low1 f x, low1 f y, by rw [low1_app, low1_app]⟩
  · rename_i h7
    rw [if_neg h7] at h
    exact h
/-- ValueImplies' heart: what is implied holds. -/
theorem implies_right (oa : Int) (ta : List UInt8) (fa : Bool) (ob : Int) (tb : List UInt8) (fb : Bool) (s : List UInt8) (h : impliesF oa ta fa ob tb fb = true)
    (ha : rholdF oa (low1 fa ta) (low1 fa s) = true) : rholdF ob (low1 fb tb) (low1 fb s) = true := by
  unfold impliesF at h
  by_cases hn : neverF oa ta = true
  · rw [← holds_eq] at ha
    unfold holdsF at ha
    rw [if_pos hn] at ha
    cases ha
  rw [if_neg hn] at h
  by_cases h1 : ob = 1
  · subst h1; rw [hold_iff]; simp [holdR]
  rw [if_neg (by simpa using h1)] at h
  by_cases hf : (fa && !fb) = true
  · rw [if_pos hf] at h; cases h
  rw [if_neg hf] at h
  have hf' : (fa && !fb) = false := by simpa using hf
  have hL := low1_low1 hf'
  rw [hold_iff] at ha
  have hb := hold_low oa fb _ _ ha
  rw [hL, hL] at hb
  clear ha hn
  have e : holdsF ob tb fb ta = rholdF ob (low1 fb tb) (low1 fb ta) := holds_eq ob tb fb ta
  rw [e] at h
  have eq1 : ((tb == ta) || (fb && lowB ta == lowB tb)) = true → low1 fb tb = low1 fb ta := by
    intro h
    rw [one_eq] at h
    cases fb with
    | false => simp at h; simp [low1, h]
    | true => simp at h; simp [low1, h]
  rw [hold_iff]
  have hR : rholdF ob (low1 fb tb) (low1 fb ta) = true → holdR ob (low1 fb tb) (low1 fb ta) := (hold_iff _ _ _).1
  generalize ((tb == ta) || (fb && lowB ta == lowB tb)) = q at *
  generalize rholdF ob (low1 fb tb) (low1 fb ta) = r at *
  generalize low1 fb ta = A at *
  generalize low1 fb tb = B at *
  generalize low1 fb s = S at *
  clear hL e hf hf'
  by_cases a2 : oa = 2
  · subst a2
    simp [holdR] at hb
    simp at h
    rw [← hb]
    exact hR h
  by_cases a4 : oa = 4
  · subst a4
    simp only [Int.reduceEq, Int.reduceBEq, Bool.false_eq_true, if_false, if_true, reduceIte, Bool.and_eq_true, beq_iff_eq] at h
    obtain ⟨rfl, h⟩ := h
    rw [eq1 h]; exact hb
  by_cases a3 : oa = 3
  · subst a3
    simp only [Int.reduceEq, Int.reduceBEq, Bool.false_eq_true, if_false, if_true, reduceIte, Bool.and_eq_true, beq_iff_eq] at h
    split at h
    · rename_i h3
      subst h3
      rw [eq1 h]; exact hb
    · simp only [Bool.and_eq_true, beq_iff_eq] at h
      obtain ⟨rfl, h⟩ := h
      have h2 := hR h
      simp only [holdR, Int.reduceEq, if_false, if_true, reduceIte] at h2 hb ⊢
      obtain ⟨x, y, hS⟩ := parts_in _ _ _ hb.2.2
      obtain ⟨x', y', rfl⟩ := h2.2
      exact ⟨h2.1, x ++ x', y' ++ y, by simp at hS; simp [hS]⟩
  by_cases a5 : oa = 5
  · subst a5
    simp only [Int.reduceEq, Int.reduceBEq, Bool.false_eq_true, if_false, if_true, reduceIte, Bool.and_eq_true, Bool.or_eq_true, beq_iff_eq] at h
    have h2 := hR h.2
    rcases h.1 with rfl | rfl
    all_goals
      simp only [holdR, Int.reduceEq, if_false, if_true, reduceIte] at h2 hb ⊢
      obtain ⟨_, y, rfl⟩ := hb
    · obtain ⟨y', rfl⟩ := h2.2
      exact ⟨h2.1, y' ++ y, by simp⟩
    · obtain ⟨x', y', rfl⟩ := h2.2
      exact ⟨h2.1, x', y' ++ y, by simp⟩
  by_cases a6 : oa = 6
  · subst a6
    simp only [Int.reduceEq, Int.reduceBEq, Bool.false_eq_true, if_false, if_true, reduceIte, Bool.and_eq_true, Bool.or_eq_true, beq_iff_eq] at h
    have h2 := hR h.2
    rcases h.1 with rfl | rfl
    all_goals
      simp only [holdR, Int.reduceEq, if_false, if_true, reduceIte] at h2 hb ⊢
      obtain ⟨_, x, rfl⟩ := hb
    · obtain ⟨x', rfl⟩ := h2.2
      exact ⟨h2.1, x ++ x', by simp⟩
    · obtain ⟨x', y', rfl⟩ := h2.2
      exact ⟨h2.1, x ++ x', y', by simp⟩
  by_cases a7 : oa = 7
  · subst a7
    simp only [Int.reduceEq, Int.reduceBEq, Bool.false_eq_true, if_false, if_true, reduceIte, Bool.and_eq_true, Bool.or_eq_true, beq_iff_eq, or_self] at h
    have h2 := hR h.2
    obtain ⟨rfl, -⟩ := h
    simp only [holdR, Int.reduceEq, if_false, if_true, reduceIte] at h2 hb ⊢
    obtain ⟨_, x, y, rfl⟩ := hb
    obtain ⟨x', y', rfl⟩ := h2.2
    exact ⟨h2.1, x ++ x', y' ++ y, by simp⟩
  · exfalso
    simp [a2, a3, a4, a5, a6, a7] at h
/-- ValueJoined's heart. -/
theorem joined_right (op : Int) (t : List UInt8) (fold : Bool) (a s b : List UInt8) (_ : op = 7 ∨ op = 5 ∨ op = 6 ∨ op = 3 ∨ op = 4) (h : holdsF op t fold s = true) : holdsF op t fold (joinF op a s b) = true := by
  rw [holds_eq, hold_iff] at h ⊢
  generalize low1 fold t = T at *
  rename_i hop
  rcases hop with rfl | rfl | rfl | rfl | rfl
  all_goals simp only [joinF, holdR, Int.reduceEq, if_false, if_true, reduceIte] at h ⊢
  · obtain ⟨h1, x, y, h2⟩ := h
    exact ⟨h1, low1 fold a ++ x, y ++ low1 fold b, by rw [low1_app, low1_app, h2]; simp⟩
  · obtain ⟨h1, y, h2⟩ := h
    exact ⟨h1, y ++ low1 fold b, by rw [low1_app, h2]; simp⟩
  · obtain ⟨h1, y, h2⟩ := h
    exact ⟨h1, low1 fold a ++ y, by rw [low1_app, h2]; simp⟩
  · obtain ⟨h1, h2, h3⟩ := h
    refine ⟨h1, h2, ?_⟩
    have e : low1 fold (a ++ [32] ++ s ++ [9] ++ b) = low1 fold a ++ 32 :: (low1 fold s ++ 9 :: low1 fold b) := by
      rw [show a ++ [32] ++ s ++ [9] ++ b = a ++ 32 :: (s ++ 9 :: b) from by simp, low1_app, low1_cons fold 32 (by decide), low1_app, low1_cons fold 9 (by decide)]
    rw [e, parts_cut 32 (by decide), parts_cut 9 (by decide)]
    simp [h3]
  · rcases h with rfl | ⟨y, h⟩
    · exact .inr ⟨low1 fold b, by rw [show s ++ [45] ++ b = s ++ 45 :: b from by simp, low1_app, low1_cons fold 45 (by decide)]⟩
    · exact .inr ⟨y ++ 45 :: low1 fold b, by rw [show s ++ [45] ++ b = s ++ 45 :: b from by simp, low1_app, low1_cons fold 45 (by decide), h]; simp⟩
/-- ValueImplies' own function hands back true. -/
theorem law7_true (oa : Int) (ta : List UInt8) (fa : Bool) (ob : Int) (tb : List UInt8) (fb : Bool) (s : List UInt8) : callL Try.prog ext6 7 [condD oa ta fa, condD ob tb fb, .str s] [] = some (.bool true, [.no], []) :=
  law7_L oa ta fa ob tb fb s (implies_eq oa ta fa ob tb fb) (implies_right oa ta fa ob tb fb s)
/-- ValueJoined's own function hands back true. -/
theorem law4_true (op : Int) (t : List UInt8) (fold : Bool) (a s b : List UInt8) : callL Try.prog ext6 4 [condD op t fold, .str a, .str s, .str b] [] = some (.bool true, [.no], []) :=
  law4_L op t fold a s b (joined_right op t fold a s b)
end Go.Av
