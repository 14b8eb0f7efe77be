/- Plain laws for DecodeSizes: right characters' bytes are right; bytes below 128 are their own characters. No program in sight. -/
import Derived.Test.YtliflodflpecmaaDoorPlX
import Derived.Test.YtliflodflpecmaaDoorPlT
set_option linter.unusedVariables false
set_option linter.unusedSimpArgs false
namespace Go.Proofs.YtliflodflpecmaaDoor
theorem rPut_head {c : Int} (h : rightC c = true) (h0 : c ≠ 0) : ∃ x r, rPut c = x :: r ∧ 0 < x := by
  have hr := rightC_true.1 h
  unfold rPut
  split
  · exact ⟨_, _, rfl, by omega⟩
  · split
    · exact ⟨_, _, rfl, by omega⟩
    · split
      · exact ⟨_, _, rfl, by omega⟩
      · exact ⟨_, _, rfl, by omega⟩
theorem good_put {c : Int} (h : rightC c = true) (h0 : c ≠ 0) (t : List Int) : rGood (rPut c ++ t) = rGood t := by
  obtain ⟨x, r, e, hx⟩ := rPut_head h h0
  have hlen : 0 < (rPut c ++ t).length := by rw [e]; simp
  have hf : rFirst (rPut c ++ t) = (c, (rPut c).length) := by
    have h1 := first_of_whole (whole_put h) t
    rw [rTold_put h] at h1
    rw [e] at h1 ⊢
    rw [List.cons_append] at h1 ⊢
    rw [first_eq x (r ++ t) (by omega)]
    exact h1
  rw [rGood_of hlen, hf]
  have hg : (rPut c ++ t).getD 0 0 = x := by rw [e]; rfl
  simp only
  rw [hg, List.take_left' rfl, List.drop_left' rfl, whole_put h]
  rw [if_neg]
  rintro (h1 | h1 | h1)
  · omega
  · cases h1
  · exact h0 h1
theorem good_text : ∀ (xs : List Int), (∀ c ∈ xs, goodC c) → rGood (textOf xs) = true
  | [], _ => rfl
  | c :: r, h => by
    obtain ⟨h1, h2, _, _⟩ := h c (by simp)
    rw [textOf, fixC_yes h1, good_put h1 h2]
    exact good_text r fun x hx => h x (by simp [hx])
theorem right_text (l : List Int) : (noNul (textOf (prep l)) && validB (textOf (prep l))) = true := by
  rw [← good_valid _ _ (Nat.le_refl _) (textOf_bytes _)]
  exact good_text _ (prep_good l)
def plainB (zs : List Int) : Bool := zs.all fun c => decide (c < 128) && decide (0 < c)
theorem plain_first {x : Int} {r : List Int} (h : x < 128) : firstOf (x :: r) = (x, 1) := by simp [firstOf, beg, h, goOn]
theorem plain_raw : ∀ (zs : List Int), plainB zs = true → rawChars zs = zs
  | [], _ => rfl
  | x :: r, h => by
    simp only [plainB, List.all_cons, Bool.and_eq_true, decide_eq_true_eq] at h
    rw [rawChars_of (by simp), plain_first h.1.1]
    simp only [List.drop_succ_cons, List.drop_zero]
    rw [plain_raw r (by simpa [plainB] using h.2)]
theorem plain_chars {zs : List Int} (h : plainB zs = true) : chars zs = zs := by
  unfold chars
  rw [plain_raw zs h]
  unfold dropMark
  rw [if_neg]
  cases zs with
  | nil => simp
  | cons x r =>
    simp only [plainB, List.all_cons, Bool.and_eq_true, decide_eq_true_eq] at h
    simp
    omega
theorem plain_right {zs : List Int} (h : plainB zs = true) : (noNul zs && validB zs) = true := by
  have h' : ∀ z ∈ zs, z < 128 ∧ 0 < z := by
    intro z hz
    have := List.all_eq_true.1 h z hz
    simpa using this
  have hv : validB zs = true := by
    have := validB_skip zs.length zs (Nat.le_refl _) (fun i hi => by
      have := (h' _ (List.getElem_mem hi)).1
      simpa [List.getD, List.getElem?_eq_getElem hi] using this)
    rw [List.drop_length] at this
    rw [← this]; rfl
  have hn : noNul zs = true := by
    unfold noNul
    rw [List.all_eq_true]
    intro z hz
    have := (h' z hz).2
    simp
    omega
  rw [hv, hn]; rfl
theorem plain_snoc {zs : List Int} {k : Nat} (h : k < zs.length) : plainB (zs.take (k + 1)) = (plainB (zs.take k) && (decide (zs.getD k 0 < 128) && decide (0 < zs.getD k 0))) := by
  unfold plainB
  rw [List.take_succ_eq_append_getElem h, List.all_append]
  simp [List.getD, List.getElem?_eq_getElem h]
end Go.Proofs.YtliflodflpecmaaDoor
