/- Plain laws on characters and their bytes; what is prepared. No program in sight; no conditions but those that each law names. -/
import Derived.Test.YtcogfddcdpgpkaaGreatDoorPl
namespace Go.Proofs.YtcogfddcdpgpkaaGreatDoor

def fixC (c : Int) : Int := if rightC c then c else 65533
theorem fixC_right (c : Int) : rightC (fixC c) = true := by
  unfold fixC
  split
  · assumption
  · rfl
theorem fixC_yes {c : Int} (h : rightC c = true) : fixC c = c := by simp [fixC, h]
theorem fixC_no {c : Int} (h : rightC c = false) : fixC c = 65533 := by simp [fixC, h]
def textOf : List Int → List Int
  | [] => []
  | c :: r => rPut (fixC c) ++ textOf r
theorem rPut_length (n : Int) : 1 ≤ (rPut n).length ∧ (rPut n).length ≤ 4 := by
  unfold rPut
  split
  · simp
  · split
    · simp
    · split <;> simp
theorem textOf_append : ∀ (xs ys : List Int), textOf (xs ++ ys) = textOf xs ++ textOf ys
  | [], ys => rfl
  | c :: r, ys => by simp [textOf, textOf_append r ys]
theorem textOf_snoc {xs : List Int} {k : Nat} (h : k < xs.length) : textOf (xs.take (k + 1)) = textOf (xs.take k) ++ rPut (fixC (xs.getD k 0)) := by
  rw [List.take_succ_eq_append_getElem h, textOf_append]
  simp [textOf, h]
theorem textOf_length : ∀ (xs : List Int), (textOf xs).length ≤ 4 * xs.length
  | [] => by simp [textOf]
  | c :: r => by
    have := textOf_length r
    have := (rPut_length (fixC c)).2
    simp [textOf]
    omega
theorem textOf_bytes : ∀ (xs : List Int), BytesOK (textOf xs)
  | [] => fun i hi => by simp [textOf] at hi
  | c :: r => by
    have hr := rightC_true.1 (fixC_right c)
    intro i hi
    have h1 := rPut_bytes (n := fixC c) hr.1 (by omega)
    by_cases h : i < (rPut (fixC c)).length
    · have := h1 i h
      simpa [textOf, List.getD_eq_getElem?_getD, List.getElem?_append_left h] using this
    · simp [textOf] at hi
      have := textOf_bytes r (i - (rPut (fixC c)).length) (by omega)
      simpa [textOf, List.getD_eq_getElem?_getD, List.getElem?_append_right (by omega : (rPut (fixC c)).length ≤ i)] using this
theorem rTold_put {c : Int} (h : rightC c = true) : rTold (rPut c) = c := by
  have hr := rightC_true.1 h
  unfold rPut
  split
  · simp [rTold, rFold, rHead]
  · split
    · simp [rTold, rFold, rHead]
      omega
    · split
      · simp [rTold, rFold, rHead]
        omega
      · simp [rTold, rFold, rHead]
        omega
theorem whole_put {c : Int} (h : rightC c = true) : rWholeB (rPut c) = true := by simp [rWholeB, rTold_put h, h]
theorem raw_put {c : Int} (h : rightC c = true) (r : List Int) : rawChars (rPut c ++ r) = c :: rawChars r := by
  have hl := (rPut_length c).1
  rw [rawChars_of (by simp; omega), first_of_whole (whole_put h), rTold_put h]
  simp
theorem raw_text : ∀ (xs : List Int), rawChars (textOf xs) = xs.map fixC
  | [] => rfl
  | c :: r => by rw [textOf, raw_put (fixC_right c), raw_text r]; rfl
theorem chars_text (xs : List Int) : chars (textOf xs) = dropMark (xs.map fixC) := by rw [chars, raw_text]

/-- Characters as a style sheet has them. -/
def prepC (c : Int) : Int := if c = 13 ∨ c = 12 then 10 else if c = 0 then 65533 else fixC c
def prep : List Int → List Int
  | [] => []
  | c :: r => if c = 13 ∧ r.head? = some 10 then prep r else prepC c :: prep r
theorem prep_length : ∀ (xs : List Int), (prep xs).length ≤ xs.length
  | [] => by simp [prep]
  | c :: r => by
    have := prep_length r
    unfold prep
    split <;> simp <;> omega
def goodC (c : Int) : Prop := rightC c = true ∧ c ≠ 0 ∧ c ≠ 12 ∧ c ≠ 13
theorem prepC_good (c : Int) : goodC (prepC c) := by
  unfold prepC
  split
  · exact ⟨rfl, by decide, by decide, by decide⟩
  · rename_i h1
    split
    · exact ⟨rfl, by decide, by decide, by decide⟩
    · rename_i h2
      refine ⟨fixC_right c, ?_⟩
      unfold fixC
      split
      · exact ⟨h2, fun h => h1 (.inr h), fun h => h1 (.inl h)⟩
      · exact ⟨by decide, by decide, by decide⟩
theorem prep_good : ∀ (xs : List Int), ∀ c ∈ prep xs, goodC c
  | [], c, h => by cases h
  | x :: r, c, h => by
    unfold prep at h
    split at h
    · exact prep_good r c h
    · rcases List.mem_cons.1 h with rfl | h
      · exact prepC_good x
      · exact prep_good r c h
theorem prep_of_good : ∀ (xs : List Int), (∀ c ∈ xs, goodC c) → prep xs = xs
  | [], _ => rfl
  | c :: r, h => by
    have hc := h c (by simp)
    obtain ⟨h1, h2, h3, h4⟩ := hc
    unfold prep
    rw [if_neg (fun hh => h4 hh.1), prep_of_good r (fun x hx => h x (by simp [hx]))]
    congr 1
    unfold prepC
    rw [if_neg (by intro hh; rcases hh with hh | hh; exact h4 hh; exact h3 hh), if_neg h2, fixC_yes h1]
theorem prep_prep (xs : List Int) : prep (prep xs) = prep xs := prep_of_good _ (prep_good xs)
theorem prep_drop {xs : List Int} {k : Nat} (h : k < xs.length) : prep (xs.drop k) = if xs.getD k 0 = 13 ∧ xs[k + 1]? = some 10 then prep (xs.drop (k + 1)) else prepC (xs.getD k 0) :: prep (xs.drop (k + 1)) := by
  rw [List.drop_eq_getElem_cons h, prep]
  simp [h]
end Go.Proofs.YtcogfddcdpgpkaaGreatDoor
