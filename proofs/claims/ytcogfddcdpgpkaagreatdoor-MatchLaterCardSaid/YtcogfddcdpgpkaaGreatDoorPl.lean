/- Plain laws on characters: what whole bytes tell, and right bytes with others behind them. No program in sight; no conditions but those that each law names. -/
import Derived.Test.YtcogfddcdpgpkaaGreatDoorGd
namespace Go.Proofs.YtcogfddcdpgpkaaGreatDoor

theorem rFold_one (n z : Int) : rFold n [z] = 64 * n + z - 128 := rfl

/-- Whole bytes, by their ranges. -/
def WholeIs (t : List Int) : Prop :=
  (∃ a, t = [a] ∧ 0 ≤ a ∧ a < 128) ∨
  (∃ a b, t = [a, b] ∧ 194 ≤ a ∧ a ≤ 223 ∧ 128 ≤ b ∧ b ≤ 191) ∨
  (∃ a b c, t = [a, b, c] ∧ 224 ≤ a ∧ a ≤ 239 ∧ (if a = 224 then 160 else 128) ≤ b ∧ b ≤ (if a = 237 then 159 else 191) ∧ 128 ≤ c ∧ c ≤ 191) ∨
  (∃ a b c d, t = [a, b, c, d] ∧ 240 ≤ a ∧ a ≤ 244 ∧ (if a = 240 then 144 else 128) ≤ b ∧ b ≤ (if a = 244 then 143 else 191) ∧ 128 ≤ c ∧ c ≤ 191 ∧ 128 ≤ d ∧ d ≤ 191)

theorem whole_is {t : List Int} (h : rWholeB t = true) : WholeIs t := by
  unfold rWholeB at h
  simp only [Bool.and_eq_true, decide_eq_true_eq, rightC_true] at h
  obtain ⟨⟨h1, h2, h3⟩, h4⟩ := h
  unfold rPut at h4
  split at h4
  · exact .inl ⟨_, h4.symm, h1, by omega⟩
  · split at h4
    · have e := h4.symm
      generalize hn : rTold t = n at *
      subst e
      simp [rTold, rFold, rHead] at hn
      exact .inr (.inl ⟨_, _, rfl, by omega, by omega, by omega, by omega⟩)
    · split at h4
      · have e := h4.symm
        generalize hn : rTold t = n at *
        subst e
        simp [rTold, rFold, rHead] at hn
        refine .inr (.inr (.inl ⟨_, _, _, rfl, by omega, by omega, ?_, ?_, by omega, by omega⟩)) <;> split <;> omega
      · have e := h4.symm
        generalize hn : rTold t = n at *
        subst e
        simp [rTold, rFold, rHead] at hn
        refine .inr (.inr (.inr ⟨_, _, _, _, rfl, by omega, by omega, ?_, ?_, by omega, by omega, by omega, by omega⟩)) <;> split <;> omega

theorem beg_2 {c : Int} (h : 194 ≤ c ∧ c ≤ 223) : beg c = some (c % 32, 1, 128, 191) := by unfold beg; rw [if_neg (by omega), if_pos h]
theorem beg_3 {c : Int} (h : 224 ≤ c ∧ c ≤ 239) : beg c = some (c - 224, 2, if c = 224 then 160 else 128, if c = 237 then 159 else 191) := by
  unfold beg
  rw [if_neg (by omega), if_neg (by omega)]
  by_cases h1 : c = 224
  · rw [if_pos h1, if_pos h1, if_neg (by omega)]
    subst h1
    rfl
  · rw [if_neg h1, if_neg h1]
    by_cases h2 : c = 237
    · rw [if_pos h2, if_pos h2]
      subst h2
      rfl
    · rw [if_neg h2, if_neg h2, if_pos (by omega)]
      rw [show c % 16 = c - 224 by omega]
theorem beg_4 {c : Int} (h : 240 ≤ c ∧ c ≤ 244) : beg c = some (c - 240, 3, if c = 240 then 144 else 128, if c = 244 then 143 else 191) := by
  unfold beg
  rw [if_neg (by omega), if_neg (by omega), if_neg (by omega), if_neg (by omega), if_neg (by omega)]
  by_cases h1 : c = 240
  · rw [if_pos h1, if_pos h1, if_neg (by omega)]
    subst h1
    rfl
  · rw [if_neg h1, if_neg h1]
    by_cases h2 : c = 244
    · rw [if_pos h2, if_pos h2]
      subst h2
      rfl
    · rw [if_neg h2, if_neg h2, if_pos (by omega)]
      rw [show c % 8 = c - 240 by omega]

theorem first_of_whole {t : List Int} (h : rWholeB t = true) (b : List Int) : firstOf (t ++ b) = (rTold t, t.length) := by
  rcases whole_is h with ⟨x, rfl, h1, h2⟩ | ⟨x, y, rfl, h1, h2, h3, h4⟩ | ⟨x, y, z, rfl, h1, h2, h3, h4, h5, h6⟩ | ⟨x, y, z, u, rfl, h1, h2, h3, h4, h5, h6, h7, h8⟩
  · simp [firstOf, beg, h2, goOn, rTold, rFold, rHead]
  · simp only [firstOf, List.cons_append, List.nil_append, beg_2 ⟨h1, h2⟩, goOn]
    rw [if_neg (by omega)]
    simp [rTold, rFold, rHead]
    omega
  · simp only [firstOf, List.cons_append, List.nil_append, beg_3 ⟨h1, h2⟩, goOn]
    rw [if_neg (by omega), if_neg (by omega)]
    simp [rTold, rFold, rHead]
    omega
  · simp only [firstOf, List.cons_append, List.nil_append, beg_4 ⟨h1, h2⟩, goOn]
    rw [if_neg (by omega), if_neg (by omega), if_neg (by omega)]
    simp [rTold, rFold, rHead]
    omega

theorem good_joins : ∀ (n : Nat) (zs b : List Int), zs.length ≤ n → rGood zs = true → rawChars (zs ++ b) = rawChars zs ++ rawChars b
  | 0, [], b, _, _ => by rw [rawChars_nil]; rfl
  | n + 1, [], b, _, _ => by rw [rawChars_nil]; rfl
  | 0, _ :: _, _, h, _ => absurd h (by simp)
  | n + 1, z :: zs, b, hn, h => by
    have hpos : 0 < (z :: zs).length := by simp
    rw [rGood_of hpos] at h
    have hs := rFirst_size hpos
    split at h
    · cases h
    · rename_i hc
      have hw : rWholeB ((z :: zs).take (rFirst (z :: zs)).2) = true := by
        cases hq : rWholeB ((z :: zs).take (rFirst (z :: zs)).2) with
        | true => rfl
        | false => exact absurd (.inr (.inl hq)) hc
      generalize (rFirst (z :: zs)).2 = y at *
      have hl : ((z :: zs).take y).length = y := by simp only [List.length_take]; omega
      have f1 := first_of_whole hw ((z :: zs).drop y)
      have f2 := first_of_whole hw ((z :: zs).drop y ++ b)
      rw [List.take_append_drop] at f1
      rw [← List.append_assoc, List.take_append_drop] at f2
      rw [hl] at f1 f2
      have ih := good_joins n ((z :: zs).drop y) b (by simp only [List.length_drop]; omega) h
      rw [rawChars_of (zs := z :: zs ++ b) (by simp), f2, rawChars_of hpos, f1]
      simp only
      rw [List.drop_append_of_le_length (by omega), ih]
      rfl
theorem chars_joins {a b : List Int} (h : rGood a = true) (hne : a ≠ []) : chars (a ++ b) = chars a ++ rawChars b := by
  have hpos : 0 < a.length := by cases a; exact absurd rfl hne; simp
  rw [chars, chars, good_joins a.length a b (Nat.le_refl _) h]
  rw [rawChars_of hpos]
  unfold dropMark
  simp only [List.cons_append, List.head?_cons, List.tail_cons]
  by_cases h : (firstOf a).1 = 65279 <;> simp [h]
theorem chars_x {b : List Int} : chars (120 :: b) = 120 :: rawChars b := by
  have : rawChars (120 :: b) = 120 :: rawChars b := by
    rw [rawChars_cons]
    simp [firstOf, beg, goOn]
  rw [chars, this]
  simp [dropMark]
end Go.Proofs.YtcogfddcdpgpkaaGreatDoor
