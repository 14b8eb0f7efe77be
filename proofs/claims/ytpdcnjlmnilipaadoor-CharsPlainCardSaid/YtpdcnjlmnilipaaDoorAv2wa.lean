/- Chapter 2: the library's parts of a text between blanks are ours. -/
import Derived.Test.YtpdcnjlmnilipaaDoorAv2v
set_option linter.unusedVariables false
set_option linter.unusedSimpArgs false
namespace Go.Av
open Go.Proofs
def pB (x : Nat) : Bool := decide (x < 128) && decide (idxB (UInt8.ofNat x) 0 [32, 9, 10, 13, 12] ≥ 0)
theorem pB_hi (x : Nat) (h : 128 ≤ x) : pB x = false := by unfold pB; rw [decide_eq_false (by omega)]; rfl
theorem each_byte {p : UInt8 → Bool} (h : (List.range 256).all (fun n => p (UInt8.ofNat n)) = true) (b : UInt8) : p b = true := by
  have := List.all_eq_true.1 h b.toNat (List.mem_range.2 b.toNat_lt)
  simpa using this
theorem pB_lo (b : UInt8) (h : b.toNat < 128) : pB b.toNat = blankB b := by
  have := each_byte (p := fun b => !decide (b.toNat < 128) || pB b.toNat == blankB b) (by decide +kernel) b
  simpa [h] using this
theorem blank_hi (b : UInt8) (h : 128 ≤ b.toNat) : blankB b = false := by
  have := each_byte (p := fun b => !decide (128 ≤ b.toNat) || blankB b == false) (by decide +kernel) b
  simpa [h] using this
theorem parts_skip : ∀ (k : Nat) (l p : List UInt8), k ≤ l.length → (∀ x ∈ l.take k, blankB x = false) → partsB l p = partsB (l.drop k) (p ++ l.take k)
  | 0, l, p, _, _ => by simp
  | k + 1, [], p, h, _ => by simp at h
  | k + 1, x :: r, p, h, hb => by
    rw [partsB, if_neg (by rw [hb x (by simp)]; simp), parts_skip k r (p ++ [x]) (by simpa using h) (fun y hy => hb y (by simp [hy]))]
    simp
theorem get_drop (s : ByteArray) (pos j : Nat) (h : pos + j < s.size) : (s.data.toList.drop pos)[j]? = some (s.get! (pos + j)) := by
  have h' : pos + j < s.data.toList.length := by rw [← Lib.size_eq]; exact h
  rw [List.getElem?_drop, List.getElem?_eq_getElem h']
  congr 1
  have h2 : pos + j < s.data.size := h
  show _ = s.data[pos + j]!
  rw [getElem!_pos s.data (pos + j) h2]
  rfl
/-- A character of more than one byte, or none: no blank in it. -/
theorem dec_hi (s : ByteArray) (pos : Nat) (h : pos < s.size) (hb : 128 ≤ (s.get! pos).toNat) :
    128 ≤ (Utf8.decode s pos).1 ∧ 1 ≤ (Utf8.decode s pos).2 ∧ pos + (Utf8.decode s pos).2 ≤ s.size ∧ ∀ j, j < (Utf8.decode s pos).2 → 128 ≤ (s.get! (pos + j)).toNat := by
  have one : 1 ≤ 1 ∧ pos + 1 ≤ s.size ∧ ∀ j, j < 1 → 128 ≤ (s.get! (pos + j)).toNat := ⟨Nat.le_refl _, h, fun j hj => by
    have hj0 : j = 0 := by omega
    rw [hj0]; exact hb⟩
  unfold Utf8.decode
  simp only [Nat.add_zero]
  rw [if_neg (by omega)]
  split
  · rename_i hc
    simp only [Bool.and_eq_true, decide_eq_true_eq, beq_iff_eq] at hc
    split
    · refine ⟨by assumption, by omega, by omega, fun j hj => ?_⟩
      match j, hj with
      | 0, _ => exact hb
      | 1, _ => omega
    · exact ⟨by decide, one⟩
  · split
    · rename_i hc
      simp only [Bool.and_eq_true, decide_eq_true_eq, beq_iff_eq] at hc
      split
      · rename_i hv
        refine ⟨by simp only [Bool.and_eq_true, decide_eq_true_eq] at hv; omega, by omega, by omega, fun j hj => ?_⟩
        match j, hj with
        | 0, _ => exact hb
        | 1, _ => omega
        | 2, _ => omega
      · exact ⟨by decide, one⟩
    · split
      · rename_i hc
        simp only [Bool.and_eq_true, decide_eq_true_eq, beq_iff_eq] at hc
        split
        · rename_i hv
          refine ⟨by simp only [Bool.and_eq_true, decide_eq_true_eq] at hv; omega, by omega, by omega, fun j hj => ?_⟩
          match j, hj with
          | 0, _ => exact hb
          | 1, _ => omega
          | 2, _ => omega
          | 3, _ => omega
        · exact ⟨by decide, one⟩
      · exact ⟨by decide, one⟩
theorem dec_lo (s : ByteArray) (pos : Nat) (hb : (s.get! pos).toNat < 128) : Utf8.decode s pos = ((s.get! pos).toNat, 1) := by
  unfold Utf8.decode
  simp only [Nat.add_zero]
  rw [if_pos (by omega)]
open Go.Lib in
theorem spansP_eq (s : ByteArray) : ∀ (f pos : Nat) (st : Option Nat) (acc : List (Nat × Nat)), s.size ≤ pos + f → pos ≤ s.size → (∀ a, st = some a → a < pos) →
    acc.map (fun p => pieceU s.data.toList p.1 p.2) ++ partsB (s.data.toList.drop pos) (openPiece s.data.toList st pos) = (closeSpans s (spansFromP pB s f pos st acc)).map (fun p => pieceU s.data.toList p.1 p.2) := by
  intro f
  induction f with
  | zero =>
    intro pos st acc h hp hst
    obtain rfl : pos = s.size := by omega
    have hd : s.data.toList.drop s.size = [] := List.drop_eq_nil_of_le (by rw [← size_eq]; exact Nat.le_refl _)
    rw [hd, partsB]
    cases st with
    | none => simp [spansFromP, closeSpans, openPiece]
    | some a =>
      have := pieceU_ne s.data.toList a s.size (hst a rfl) (by rw [← size_eq]; exact Nat.le_refl _)
      simp [spansFromP, closeSpans, openPiece, this]
  | succ f ih =>
    intro pos st acc h hp hst
    by_cases hlt : pos < s.size
    · have hd0 : s.data.toList.drop pos = s.get! pos :: s.data.toList.drop (pos + 1) := by
        have h' : pos < s.data.toList.length := by rw [← size_eq]; exact hlt
        rw [List.drop_eq_getElem_cons h']
        congr 1
        have := get_drop s pos 0 hlt
        rw [List.getElem?_drop, Nat.add_zero, List.getElem?_eq_getElem h'] at this
        exact Option.some.inj this
      have hun : ∀ g, spansFromP pB s (f + 1) pos g acc = if pB (Utf8.decode s pos).1 = true then (match g with
         | some a => spansFromP pB s f (pos + (Utf8.decode s pos).2) none (acc ++ [(a, pos)])
         | none => spansFromP pB s f (pos + (Utf8.decode s pos).2) none acc) else (match g with
         | some a => spansFromP pB s f (pos + (Utf8.decode s pos).2) (some a) acc
         | none => spansFromP pB s f (pos + (Utf8.decode s pos).2) (some pos) acc) := fun g => by
        conv => lhs; unfold spansFromP
        rw [if_pos hlt]
        cases g <;> rfl
      rw [hun]
      by_cases hb : (s.get! pos).toNat < 128
      · rw [dec_lo s pos hb]
        simp only
        rw [pB_lo _ hb]
        rw [hd0, partsB]
        have h1 : (s.data.toList.drop pos).take 1 = [s.get! pos] := by rw [hd0]; rfl
        split
        · cases st with
          | none =>
            have := ih (pos + 1) none acc (by omega) (by omega) (fun a h => by cases h)
            simpa [openPiece] using this
          | some a =>
            have hpn := pieceU_ne s.data.toList a pos (hst a rfl) (by rw [← size_eq]; omega)
            have := ih (pos + 1) none (acc ++ [(a, pos)]) (by omega) (by omega) (fun a h => by cases h)
            simpa [openPiece, hpn] using this
        · cases st with
          | none =>
            have := ih (pos + 1) (some pos) acc (by omega) (by omega) (fun a h => by cases h; omega)
            simp only [openPiece] at this ⊢
            rw [← this, List.nil_append, ← h1, show pieceU s.data.toList pos (pos + 1) = (s.data.toList.drop pos).take 1 by unfold pieceU; rw [Nat.add_sub_cancel_left]]
          | some a =>
            have := ih (pos + 1) (some a) acc (by omega) (by omega) (fun b h => by cases h; have := hst a rfl; omega)
            simp only [openPiece] at this ⊢
            rw [← this, ← h1, pieceU_grow _ _ _ _ (Nat.le_of_lt (hst a rfl))]
      · obtain ⟨d1, d2, d3, d4⟩ := dec_hi s pos hlt (by omega)
        have hsk : ∀ p, partsB (s.data.toList.drop pos) p = partsB (s.data.toList.drop (pos + (Utf8.decode s pos).2)) (p ++ (s.data.toList.drop pos).take (Utf8.decode s pos).2) := by
          intro p
          rw [parts_skip (Utf8.decode s pos).2 _ p (by rw [List.length_drop, ← size_eq]; omega), List.drop_drop]
          intro x hx
          obtain ⟨j, hj, rfl⟩ := List.mem_iff_getElem.1 hx
          rw [List.length_take, List.length_drop, ← size_eq] at hj
          rw [List.getElem_take]
          have := get_drop s pos j (by omega)
          rw [List.getElem?_eq_getElem (by rw [List.length_drop, ← size_eq]; omega)] at this
          rw [Option.some.inj this]
          exact blank_hi _ (d4 j (by omega))
        rw [pB_hi _ d1, hsk]
        simp only [Bool.false_eq_true, if_false]
        cases st with
        | none =>
          have := ih (pos + (Utf8.decode s pos).2) (some pos) acc (by omega) d3 (fun a h => by cases h; omega)
          simp only [openPiece] at this ⊢
          rw [← this, List.nil_append, show pieceU s.data.toList pos (pos + (Utf8.decode s pos).2) = (s.data.toList.drop pos).take (Utf8.decode s pos).2 by unfold pieceU; rw [Nat.add_sub_cancel_left]]
        | some a =>
          have := ih (pos + (Utf8.decode s pos).2) (some a) acc (by omega) d3 (fun b h => by cases h; have := hst a rfl; omega)
          simp only [openPiece] at this ⊢
          rw [← this, pieceU_grow _ _ _ _ (Nat.le_of_lt (hst a rfl))]
    · obtain rfl : pos = s.size := by omega
      have hd : s.data.toList.drop s.size = [] := List.drop_eq_nil_of_le (by rw [← size_eq]; exact Nat.le_refl _)
      rw [hd, spansFromP_end _ s _ _ _ _ hlt, partsB]
      cases st with
      | none => simp [closeSpans, openPiece]
      | some a =>
        have := pieceU_ne s.data.toList a s.size (hst a rfl) (by rw [← size_eq]; exact Nat.le_refl _)
        simp [closeSpans, openPiece, this]
theorem fields_parts (s : List UInt8) : (Lib.goFieldsP pB ⟨s.toArray⟩).map (·.data.toList) = partsB s [] := by
  have h := spansP_eq ⟨s.toArray⟩ s.length 0 none [] (Nat.le_of_eq (by rw [Nat.zero_add]; rfl)) (Nat.zero_le _) (fun a h => by cases h)
  simp only [List.map_nil, List.nil_append, Lib.openPiece, List.drop_zero] at h
  have hs : (ByteArray.mk s.toArray).size = s.length := rfl
  rw [h]
  unfold Lib.goFieldsP Lib.spansOfP
  rw [hs, List.map_map]
  congr 1
  funext p
  simp [Lib.pieceU]
end Go.Av
