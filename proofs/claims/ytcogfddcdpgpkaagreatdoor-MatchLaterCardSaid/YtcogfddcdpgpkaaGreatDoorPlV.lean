/- Plain laws: which bytes are characters' bytes, as utf8.Valid has it, and as the document has it. No program in sight; the bytes are bytes. -/
import Derived.Test.YtcogfddcdpgpkaaGreatDoorPlF
namespace Go.Proofs.YtcogfddcdpgpkaaGreatDoor

/-- How many bytes the first character has; none: no character stands there. -/
def vStep : List Int → Option Nat
  | [] => none
  | x :: r => if x < 128 then some 1 else match r with
    | [] => none
    | y :: r => if W2 x y then some 2 else match r with
      | [] => none
      | z :: r => if B23 x y ∧ C1 z then some 3 else match r with
        | [] => none
        | u :: _ => if B24 x y ∧ C1 z ∧ C1 u then some 4 else none
theorem vStep_size {r : List Int} {k : Nat} (h : vStep r = some k) : 1 ≤ k ∧ k ≤ r.length := by
  unfold vStep at h
  repeat' split at h
  all_goals (first | (injection h with h; subst h; simp only [List.length_cons]; omega) | cases h)
def validN : Nat → List Int → Bool
  | 0, _ => true
  | _ + 1, [] => true
  | n + 1, x :: r => match vStep (x :: r) with
    | none => false
    | some k => validN n ((x :: r).drop k)
def validB (zs : List Int) : Bool := validN zs.length zs
theorem validN_fuel : ∀ (n m : Nat) (zs : List Int), zs.length ≤ n → zs.length ≤ m → validN n zs = validN m zs
  | 0, 0, _, _, _ => rfl
  | 0, m + 1, [], _, _ => rfl
  | n + 1, 0, [], _, _ => rfl
  | 0, _ + 1, _ :: _, h, _ => absurd h (by simp)
  | _ + 1, 0, _ :: _, _, h => absurd h (by simp)
  | n + 1, m + 1, [], _, _ => rfl
  | n + 1, m + 1, z :: zs, h1, h2 => by
    simp only [validN]
    cases hv : vStep (z :: zs) with
    | none => rfl
    | some k =>
      have := vStep_size hv
      simp only [List.length_cons] at h1 h2 this
      exact validN_fuel n m _ (by simp only [List.length_drop, List.length_cons]; omega) (by simp only [List.length_drop, List.length_cons]; omega)
theorem validB_nil : validB [] = true := rfl
theorem validB_cons {x : Int} {r : List Int} : validB (x :: r) = match vStep (x :: r) with | none => false | some k => validB ((x :: r).drop k) := by
  rw [validB, List.length_cons, validN]
  cases hv : vStep (x :: r) with
  | none => rfl
  | some k =>
    have := vStep_size hv
    exact validN_fuel _ _ _ (by simp only [List.length_drop, List.length_cons] at this ⊢; omega) (Nat.le_refl _)
theorem validB_ascii {x : Int} {r : List Int} (h : x < 128) : validB (x :: r) = validB r := by
  rw [validB_cons]
  have : vStep (x :: r) = some 1 := by simp [vStep, h]
  rw [this]
  rfl
theorem validB_skip : ∀ (k : Nat) (zs : List Int), k ≤ zs.length → (∀ i, i < k → zs.getD i 0 < 128) → validB (zs.drop k) = validB zs
  | 0, _, _, _ => by simp
  | k + 1, [], h, _ => by simp at h
  | k + 1, x :: r, h, ha => by
    have h0 := ha 0 (by omega)
    simp at h0
    rw [List.drop_succ_cons, validB_ascii h0]
    exact validB_skip k r (by simpa using h) (fun i hi => by have := ha (i + 1) (by omega); simpa using this)

theorem whole_of_first {x : Int} {r : List Int} (h0 : 0 ≤ x) : rWholeB ((x :: r).take (rFirst (x :: r)).2) = (vStep (x :: r)).isSome ∧ (∀ k, vStep (x :: r) = some k → (rFirst (x :: r)).2 = k) := by
  match r with
  | [] =>
    rw [rf_1]
    by_cases h : W1 x
    · simp [h, w1, vStep, h.2]
    · have : ¬ x < 128 := fun hh => h ⟨h0, hh⟩
      simp [h, w1, vStep, this]
  | [y] =>
    rw [rf_2]
    by_cases h : W1 x
    · simp [h, w1, vStep, h.2]
    · have hx : ¬ x < 128 := fun hh => h ⟨h0, hh⟩
      by_cases h2 : W2 x y
      · simp [h, w2, vStep, hx, h2]
      · by_cases h5 : B23 x y ∨ B24 x y <;> simp [h, w1, w2, vStep, hx, h2, h5]
  | [y, z] =>
    rw [rf_3]
    by_cases h : W1 x
    · simp [h, w1, vStep, h.2]
    · have hx : ¬ x < 128 := fun hh => h ⟨h0, hh⟩
      by_cases h2 : W2 x y
      · simp [h, w2, vStep, hx, h2]
      · by_cases h3 : B23 x y ∧ C1 z
        · simp [h, w3, vStep, hx, h2, h3]
        · by_cases h4 : B24 x y ∧ C1 z
          · simp [h, w3, vStep, hx, h2, h4, b24_no h4.1]
          · by_cases h5 : B23 x y ∨ B24 x y <;> simp [h, w1, w2, vStep, hx, h2, h3, h4, h5]
  | y :: z :: u :: r =>
    rw [rf_4]
    by_cases h : W1 x
    · simp [h, w1, vStep, h.2]
    · have hx : ¬ x < 128 := fun hh => h ⟨h0, hh⟩
      by_cases h2 : W2 x y
      · simp [h, w2, vStep, hx, h2]
      · by_cases h3 : B23 x y ∧ C1 z
        · simp [h, w3, vStep, hx, h2, h3]
        · by_cases h6 : B24 x y ∧ C1 z ∧ C1 u
          · simp [h, w4, vStep, hx, h2, h6, b24_no h6.1]
          · by_cases h4 : B24 x y ∧ C1 z
            · have hu : ¬ C1 u := fun hh => h6 ⟨h4.1, h4.2, hh⟩
              simp [h, w3, vStep, hx, h2, h4, hu, b24_no h4.1]
            · by_cases h5 : B23 x y ∨ B24 x y <;> simp [h, w1, w2, vStep, hx, h2, h3, h4, h5, h6]

/-- No nought among so many. -/
def noNul (zs : List Int) : Bool := zs.all fun z => !(z == 0)
theorem vStep_spec {x : Int} {r : List Int} {k : Nat} (h : vStep (x :: r) = some k) : (k = 1 ∧ x < 128) ∨ (∃ y r', k = 2 ∧ r = y :: r' ∧ W2 x y) ∨ (∃ y z r', k = 3 ∧ r = y :: z :: r' ∧ B23 x y ∧ C1 z) ∨
    (∃ y z u r', k = 4 ∧ r = y :: z :: u :: r' ∧ B24 x y ∧ C1 z ∧ C1 u) := by
  match r with
  | [] =>
    by_cases hx : x < 128
    · simp [vStep, hx] at h
      exact .inl ⟨h.symm, hx⟩
    · simp [vStep, hx] at h
  | [y] =>
    by_cases hx : x < 128
    · simp [vStep, hx] at h
      exact .inl ⟨h.symm, hx⟩
    · by_cases h2 : W2 x y
      · simp [vStep, hx, h2] at h
        exact .inr (.inl ⟨y, [], h.symm, rfl, h2⟩)
      · simp [vStep, hx, h2] at h
  | [y, z] =>
    by_cases hx : x < 128
    · simp [vStep, hx] at h
      exact .inl ⟨h.symm, hx⟩
    · by_cases h2 : W2 x y
      · simp [vStep, hx, h2] at h
        exact .inr (.inl ⟨y, [z], h.symm, rfl, h2⟩)
      · by_cases h3 : B23 x y ∧ C1 z
        · simp [vStep, hx, h2, h3] at h
          exact .inr (.inr (.inl ⟨y, z, [], h.symm, rfl, h3.1, h3.2⟩))
        · simp [vStep, hx, h2, h3] at h
  | y :: z :: u :: r' =>
    by_cases hx : x < 128
    · simp [vStep, hx] at h
      exact .inl ⟨h.symm, hx⟩
    · by_cases h2 : W2 x y
      · simp [vStep, hx, h2] at h
        exact .inr (.inl ⟨y, z :: u :: r', h.symm, rfl, h2⟩)
      · by_cases h3 : B23 x y ∧ C1 z
        · simp [vStep, hx, h2, h3] at h
          exact .inr (.inr (.inl ⟨y, z, u :: r', h.symm, rfl, h3.1, h3.2⟩))
        · by_cases h4 : B24 x y ∧ C1 z ∧ C1 u
          · simp [vStep, hx, h2, h4, b24_no h4.1] at h
            exact .inr (.inr (.inr ⟨y, z, u, r', h.symm, rfl, h4.1, h4.2.1, h4.2.2⟩))
          · simp [vStep, hx, h2, h3, h4] at h
theorem b23_ge {x y : Int} (h : B23 x y) : 128 ≤ y := by
  have := h.2.2.1
  unfold L3 at this
  split at this <;> omega
theorem b24_ge {x y : Int} (h : B24 x y) : 128 ≤ y ∧ (x = 240 → 144 ≤ y) := by
  have := h.2.2.1
  unfold L4 at this
  split at this <;> omega
theorem b23_ge2 {x y : Int} (h : B23 x y) : x = 224 → 160 ≤ y := by
  have := h.2.2.1
  unfold L3 at this
  split at this <;> omega
theorem noNul_cons (z : Int) (r : List Int) : noNul (z :: r) = (!(z == 0) && noNul r) := rfl
theorem noNul_pos {z : Int} {r : List Int} (h : z ≠ 0) : noNul (z :: r) = noNul r := by
  rw [noNul_cons]
  simp [h]

theorem good_valid : ∀ (n : Nat) (zs : List Int), zs.length ≤ n → BytesOK zs → rGood zs = (noNul zs && validB zs)
  | _, [], _, _ => rfl
  | 0, _ :: _, h, _ => absurd h (by simp)
  | n + 1, x :: r, hn, hb => by
    have hx0 : 0 ≤ x := by have := (hb 0 (by simp)).1; simpa using this
    obtain ⟨hw, hk⟩ := whole_of_first (r := r) hx0
    rw [rGood_of (by simp), validB_cons, hw]
    cases hv : vStep (x :: r) with
    | none => simp
    | some k =>
      have hsz := vStep_size hv
      have hk' := hk k hv
      have hT : (rFirst (x :: r)).1 = rTold ((x :: r).take k) := by
        have h1 : rWholeB ((x :: r).take k) = true := by rw [← hk', hw, hv]; rfl
        have h2 := first_of_whole h1 ((x :: r).drop k)
        rw [List.take_append_drop] at h2
        rw [first_eq x r hx0, h2]
      rw [hk', hT]
      have ih := good_valid n ((x :: r).drop k) (by simp only [List.length_drop, List.length_cons] at hn hsz ⊢; omega) (hb.drop k)
      rw [ih]
      simp only [List.getD_cons_zero, Option.isSome_some]
      by_cases hz : x = 0
      · subst hz
        simp [noNul]
      · have hgo : rTold ((x :: r).take k) ≠ 0 ∧ noNul (x :: r) = noNul ((x :: r).drop k) := by
          rcases vStep_spec hv with ⟨rfl, h⟩ | ⟨y, r', rfl, rfl, h⟩ | ⟨y, z, r', rfl, rfl, h, h'⟩ | ⟨y, z, u, r', rfl, rfl, h, h', h''⟩
          · exact ⟨by simpa [rTold, rFold, rHead] using hz, by rw [noNul_pos hz]; rfl⟩
          · obtain ⟨a1, a2, a3, a4⟩ := h
            exact ⟨by simp [rTold, rFold, rHead]; omega, by rw [noNul_pos hz, noNul_pos (by omega)]; rfl⟩
          · have g1 := b23_ge h
            have g2 := b23_ge2 h
            have g3 := h.1
            have g4 := h'.1
            exact ⟨by simp [rTold, rFold, rHead]; omega, by rw [noNul_pos hz, noNul_pos (by omega), noNul_pos (by omega)]; rfl⟩
          · have g1 := b24_ge h
            have g3 := h.1
            have g4 := h'.1
            have g5 := h''.1
            exact ⟨by simp [rTold, rFold, rHead]; omega, by rw [noNul_pos hz, noNul_pos (by omega), noNul_pos (by omega), noNul_pos (by omega)]; rfl⟩
        rw [if_neg (by rintro (h | h | h); exact hz h; cases h; exact hgo.1 h), hgo.2]
end Go.Proofs.YtcogfddcdpgpkaaGreatDoor
