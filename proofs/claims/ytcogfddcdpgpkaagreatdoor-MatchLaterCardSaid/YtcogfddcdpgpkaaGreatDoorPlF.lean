/- Plain law: the first character by the document's definition is the one that the program finds. No program in sight; the bytes are bytes. -/
import Derived.Test.YtcogfddcdpgpkaaGreatDoorPlT
namespace Go.Proofs.YtcogfddcdpgpkaaGreatDoor

def L3 (x : Int) : Int := if x = 224 then 160 else 128
def H3 (x : Int) : Int := if x = 237 then 159 else 191
def L4 (x : Int) : Int := if x = 240 then 144 else 128
def H4 (x : Int) : Int := if x = 244 then 143 else 191
def W1 (x : Int) : Prop := 0 ≤ x ∧ x < 128
def W2 (x y : Int) : Prop := 194 ≤ x ∧ x ≤ 223 ∧ 128 ≤ y ∧ y ≤ 191
def B23 (x y : Int) : Prop := 224 ≤ x ∧ x ≤ 239 ∧ L3 x ≤ y ∧ y ≤ H3 x
def B24 (x y : Int) : Prop := 240 ≤ x ∧ x ≤ 244 ∧ L4 x ≤ y ∧ y ≤ H4 x
def C1 (z : Int) : Prop := 128 ≤ z ∧ z ≤ 191
instance (x : Int) : Decidable (W1 x) := by unfold W1; infer_instance
instance (x y : Int) : Decidable (W2 x y) := by unfold W2; infer_instance
instance (x y : Int) : Decidable (B23 x y) := by unfold B23; infer_instance
instance (x y : Int) : Decidable (B24 x y) := by unfold B24; infer_instance
instance (x : Int) : Decidable (C1 x) := by unfold C1; infer_instance

theorem w1 (x : Int) : rWholeB [x] = decide (W1 x) := by
  rw [Bool.eq_iff_iff, decide_eq_true_iff]
  constructor
  · intro h
    rcases whole_is h with ⟨a, e, h1, h2⟩ | ⟨a, b, e, _⟩ | ⟨a, b, c, e, _⟩ | ⟨a, b, c, d, e, _⟩
    · injection e with e
      subst e
      exact ⟨h1, h2⟩
    all_goals simp at e
  · rintro ⟨h1, h2⟩
    have hr : rightC x = true := rightC_true.2 (by omega)
    have := whole_put hr
    rwa [show rPut x = [x] from by unfold rPut; rw [if_pos h2]] at this
theorem w2 (x y : Int) : rWholeB [x, y] = decide (W2 x y) := by
  rw [Bool.eq_iff_iff, decide_eq_true_iff]
  constructor
  · intro h
    rcases whole_is h with ⟨a, e, h1, h2⟩ | ⟨a, b, e, h1, h2, h3, h4⟩ | ⟨a, b, c, e, _⟩ | ⟨a, b, c, d, e, _⟩
    · simp at e
    · simp only [List.cons.injEq, and_true] at e
      obtain ⟨rfl, rfl⟩ := e
      exact ⟨h1, h2, h3, h4⟩
    all_goals simp at e
  · rintro ⟨h1, h2, h3, h4⟩
    have hr : rightC (64 * (x - 192) + y - 128) = true := rightC_true.2 (by omega)
    have := whole_put hr
    rwa [show rPut (64 * (x - 192) + y - 128) = [x, y] from by
      unfold rPut
      rw [if_neg (by omega), if_pos (by omega), show 192 + (64 * (x - 192) + y - 128) / 64 = x by omega, show 128 + (64 * (x - 192) + y - 128) % 64 = y by omega]] at this
theorem w3 (x y z : Int) : rWholeB [x, y, z] = decide (B23 x y ∧ C1 z) := by
  rw [Bool.eq_iff_iff, decide_eq_true_iff]
  constructor
  · intro h
    rcases whole_is h with ⟨a, e, _⟩ | ⟨a, b, e, _⟩ | ⟨a, b, c, e, h1, h2, h3, h4, h5, h6⟩ | ⟨a, b, c, d, e, _⟩
    · simp at e
    · simp at e
    · simp only [List.cons.injEq, and_true] at e
      obtain ⟨rfl, rfl, rfl⟩ := e
      exact ⟨⟨h1, h2, h3, h4⟩, h5, h6⟩
    · simp at e
  · rintro ⟨⟨h1, h2, h3, h4⟩, h5, h6⟩
    have h3' : (x = 224 ∧ 160 ≤ y) ∨ (x ≠ 224 ∧ 128 ≤ y) := by unfold L3 at h3; split at h3 <;> omega
    have h4' : (x = 237 ∧ y ≤ 159) ∨ (x ≠ 237 ∧ y ≤ 191) := by unfold H3 at h4; split at h4 <;> omega
    have hr : rightC (64 * (64 * (x - 224) + y - 128) + z - 128) = true := rightC_true.2 (by omega)
    have := whole_put hr
    rwa [show rPut (64 * (64 * (x - 224) + y - 128) + z - 128) = [x, y, z] from by
      unfold rPut
      rw [if_neg (by omega), if_neg (by omega), if_pos (by omega), show 224 + (64 * (64 * (x - 224) + y - 128) + z - 128) / 4096 = x by omega,
        show 128 + (64 * (64 * (x - 224) + y - 128) + z - 128) / 64 % 64 = y by omega, show 128 + (64 * (64 * (x - 224) + y - 128) + z - 128) % 64 = z by omega]] at this
theorem w4 (x y z u : Int) : rWholeB [x, y, z, u] = decide (B24 x y ∧ C1 z ∧ C1 u) := by
  rw [Bool.eq_iff_iff, decide_eq_true_iff]
  constructor
  · intro h
    rcases whole_is h with ⟨a, e, _⟩ | ⟨a, b, e, _⟩ | ⟨a, b, c, e, _⟩ | ⟨a, b, c, d, e, h1, h2, h3, h4, h5, h6, h7, h8⟩
    · simp at e
    · simp at e
    · simp at e
    · simp only [List.cons.injEq, and_true] at e
      obtain ⟨rfl, rfl, rfl, rfl⟩ := e
      exact ⟨⟨h1, h2, h3, h4⟩, ⟨h5, h6⟩, h7, h8⟩
  · rintro ⟨⟨h1, h2, h3, h4⟩, ⟨h5, h6⟩, h7, h8⟩
    have h3' : (x = 240 ∧ 144 ≤ y) ∨ (x ≠ 240 ∧ 128 ≤ y) := by unfold L4 at h3; split at h3 <;> omega
    have h4' : (x = 244 ∧ y ≤ 143) ∨ (x ≠ 244 ∧ y ≤ 191) := by unfold H4 at h4; split at h4 <;> omega
    have hr : rightC (64 * (64 * (64 * (x - 240) + y - 128) + z - 128) + u - 128) = true := rightC_true.2 (by omega)
    have := whole_put hr
    rwa [show rPut (64 * (64 * (64 * (x - 240) + y - 128) + z - 128) + u - 128) = [x, y, z, u] from by
      unfold rPut
      rw [if_neg (by omega), if_neg (by omega), if_neg (by omega), show 240 + (64 * (64 * (64 * (x - 240) + y - 128) + z - 128) + u - 128) / 262144 = x by omega,
        show 128 + (64 * (64 * (64 * (x - 240) + y - 128) + z - 128) + u - 128) / 4096 % 64 = y by omega,
        show 128 + (64 * (64 * (64 * (x - 240) + y - 128) + z - 128) + u - 128) / 64 % 64 = z by omega, show 128 + (64 * (64 * (64 * (x - 240) + y - 128) + z - 128) + u - 128) % 64 = u by omega]] at this

theorem b2 (x y : Int) : rBeg [x, y] = decide (B23 x y ∨ B24 x y) := by
  have c1 : C1 128 := ⟨by decide, by decide⟩
  have c2 : C1 191 := ⟨by decide, by decide⟩
  have h1 : fillTo [x, y] 128 3 = [x, y, 128] := rfl
  have h2 : fillTo [x, y] 191 3 = [x, y, 191] := rfl
  have h3 : fillTo [x, y] 128 4 = [x, y, 128, 128] := rfl
  have h4 : fillTo [x, y] 191 4 = [x, y, 191, 191] := rfl
  have : rBeg [x, y] = (rWholeB (fillTo [x, y] 128 3) || (rWholeB (fillTo [x, y] 191 3) || (rWholeB (fillTo [x, y] 128 4) || (rWholeB (fillTo [x, y] 191 4) || false)))) := rfl
  rw [this, h1, h2, h3, h4, w3, w3, w4, w4]
  simp only [c1, c2, and_true, Bool.or_false]
  by_cases h : B23 x y <;> by_cases h' : B24 x y <;> simp [h, h']
theorem b3 (x y z : Int) : rBeg [x, y, z] = decide (B24 x y ∧ C1 z) := by
  have c1 : C1 128 := ⟨by decide, by decide⟩
  have c2 : C1 191 := ⟨by decide, by decide⟩
  have h3 : fillTo [x, y, z] 128 4 = [x, y, z, 128] := rfl
  have h4 : fillTo [x, y, z] 191 4 = [x, y, z, 191] := rfl
  have : rBeg [x, y, z] = (rWholeB (fillTo [x, y, z] 128 4) || (rWholeB (fillTo [x, y, z] 191 4) || false)) := rfl
  rw [this, h3, h4, w4, w4]
  simp only [c1, c2, and_true, Bool.or_false, Bool.or_self]

theorem b24_no {x y : Int} (h : B24 x y) : ¬ B23 x y := fun hh => by have := h.1; have := hh.2.1; omega
theorem c1_if {α : Type} (z : Int) (a b : α) : (if 128 ≤ z ∧ z ≤ 191 then a else b) = if C1 z then a else b := by
  by_cases h : C1 z
  · rw [if_pos h, if_pos (show 128 ≤ z ∧ z ≤ 191 from h)]
  · rw [if_neg h, if_neg (show ¬ (128 ≤ z ∧ z ≤ 191) from h)]
theorem goOn_0 {ch lo up : Int} {r : List Int} {k : Nat} : goOn 0 ch lo up r k = (ch, k) := rfl
theorem goOn_e {n : Nat} {ch lo up : Int} {k : Nat} : goOn (n + 1) ch lo up [] k = (65533, k) := rfl
theorem rf_1 (x : Int) : rFirst [x] = if W1 x then (rTold [x], 1) else (65533, 1) := by
  by_cases h : W1 x <;> simp [rFirst, rF1, rF2, w1, h]
theorem rf_2 (x y : Int) : rFirst [x, y] = if W1 x then (rTold [x], 1) else if W2 x y then (rTold [x, y], 2) else if B23 x y ∨ B24 x y then (65533, 2) else (65533, 1) := by
  by_cases h : W1 x
  · simp [rFirst, rF1, w1, h]
  · by_cases h2 : W2 x y
    · simp [rFirst, rF1, w1, w2, h, h2]
    · by_cases h3 : B23 x y ∨ B24 x y <;> simp [rFirst, rF1, rF2, w1, w2, b2, h, h2, h3]
theorem rf_3 (x y z : Int) : rFirst [x, y, z] = if W1 x then (rTold [x], 1) else if W2 x y then (rTold [x, y], 2) else if B23 x y ∧ C1 z then (rTold [x, y, z], 3) else
    if B24 x y ∧ C1 z then (65533, 3) else if B23 x y ∨ B24 x y then (65533, 2) else (65533, 1) := by
  by_cases h : W1 x
  · simp [rFirst, rF1, w1, h]
  · by_cases h2 : W2 x y
    · simp [rFirst, rF1, w1, w2, h, h2]
    · by_cases h3 : B23 x y ∧ C1 z
      · simp [rFirst, rF1, w1, w2, w3, h, h2, h3]
      · by_cases h4 : B24 x y ∧ C1 z
        · simp [rFirst, rF1, rF2, w1, w2, w3, b3, h, h2, h4, b24_no h4.1]
        · by_cases h5 : B23 x y ∨ B24 x y <;> simp [rFirst, rF1, rF2, w1, w2, w3, b2, b3, h, h2, h3, h4, h5]
theorem rf_4 (x y z u : Int) (r : List Int) : rFirst (x :: y :: z :: u :: r) = if W1 x then (rTold [x], 1) else if W2 x y then (rTold [x, y], 2) else if B23 x y ∧ C1 z then (rTold [x, y, z], 3) else
    if B24 x y ∧ C1 z ∧ C1 u then (rTold [x, y, z, u], 4) else if B24 x y ∧ C1 z then (65533, 3) else if B23 x y ∨ B24 x y then (65533, 2) else (65533, 1) := by
  by_cases h : W1 x
  · simp [rFirst, rF1, w1, h]
  · by_cases h2 : W2 x y
    · simp [rFirst, rF1, w1, w2, h, h2]
    · by_cases h3 : B23 x y ∧ C1 z
      · simp [rFirst, rF1, w1, w2, w3, h, h2, h3]
      · by_cases h6 : B24 x y ∧ C1 z ∧ C1 u
        · simp [rFirst, rF1, w1, w2, w3, w4, h, h2, h6, b24_no h6.1]
        · by_cases h4 : B24 x y ∧ C1 z
          · have hu : ¬ C1 u := fun hh => h6 ⟨h4.1, h4.2, hh⟩
            simp [rFirst, rF1, rF2, w1, w2, w3, w4, b3, h, h2, h4, hu, b24_no h4.1]
          · by_cases h5 : B23 x y ∨ B24 x y <;> simp [rFirst, rF1, rF2, w1, w2, w3, w4, b2, b3, h, h2, h3, h4, h5, h6]

theorem beg_no {c : Int} (h0 : 128 ≤ c) (h : c < 194 ∨ 244 < c) : beg c = none := by
  unfold beg
  rw [if_neg (by omega), if_neg (by omega), if_neg (by omega), if_neg (by omega), if_neg (by omega), if_neg (by omega), if_neg (by omega), if_neg (by omega)]
theorem beg_3' {c : Int} (h : 224 ≤ c ∧ c ≤ 239) : beg c = some (c - 224, 2, L3 c, H3 c) := beg_3 h
theorem beg_4' {c : Int} (h : 240 ≤ c ∧ c ≤ 244) : beg c = some (c - 240, 3, L4 c, H4 c) := beg_4 h
theorem goOn_s {n : Nat} {ch lo up c : Int} {r : List Int} {k : Nat} : goOn (n + 1) ch lo up (c :: r) k = if lo ≤ c ∧ c ≤ up then goOn n (ch * 64 + c % 64) 128 191 r (k + 1) else (65533, k) := by
  rw [goOn]
  by_cases h : lo ≤ c ∧ c ≤ up
  · rw [if_neg (by omega), if_pos h]
  · rw [if_pos (by omega), if_neg h]

theorem first_eq (x : Int) (r : List Int) (h0 : 0 ≤ x) : rFirst (x :: r) = firstOf (x :: r) := by
  rcases (by omega : x < 128 ∨ (128 ≤ x ∧ (x < 194 ∨ 244 < x)) ∨ (194 ≤ x ∧ x ≤ 223) ∨ (224 ≤ x ∧ x ≤ 239) ∨ (240 ≤ x ∧ x ≤ 244)) with h | ⟨h, h'⟩ | h | h | h
  · have hw : W1 x := ⟨h0, h⟩
    have hf : firstOf (x :: r) = (x, 1) := by simp [firstOf, beg, h, goOn]
    have ht : rTold [x] = x := by simp [rTold, rFold, rHead]
    rw [hf]
    match r with
    | [] => rw [rf_1, if_pos hw, ht]
    | [y] => rw [rf_2, if_pos hw, ht]
    | [y, z] => rw [rf_3, if_pos hw, ht]
    | y :: z :: u :: r => rw [rf_4, if_pos hw, ht]
  · have hw : ¬ W1 x := fun hh => by have := hh.2; omega
    have h2 : ∀ y, ¬ W2 x y := fun y hh => by have := hh.1; have := hh.2.1; omega
    have h3 : ∀ y, ¬ B23 x y := fun y hh => by have := hh.1; have := hh.2.1; omega
    have h4 : ∀ y, ¬ B24 x y := fun y hh => by have := hh.1; have := hh.2.1; omega
    have hf : firstOf (x :: r) = (65533, 1) := by simp [firstOf, beg_no h h']
    rw [hf]
    match r with
    | [] => simp [rf_1, hw]
    | [y] => simp [rf_2, hw, h2, h3, h4]
    | [y, z] => simp [rf_3, hw, h2, h3, h4]
    | y :: z :: u :: r => simp [rf_4, hw, h2, h3, h4]
  · have hw : ¬ W1 x := fun hh => by have := hh.2; omega
    have h3 : ∀ y, ¬ B23 x y := fun y hh => by have := hh.1; omega
    have h4 : ∀ y, ¬ B24 x y := fun y hh => by have := hh.1; omega
    match r with
    | [] => simp [rf_1, hw, firstOf, beg_2 h, goOn_e]
    | y :: r =>
      have ht : rTold [x, y] = x % 32 * 64 + y % 64 ∨ ¬ C1 y := by
        by_cases hy : C1 y
        · left
          have := hy.1
          have := hy.2
          simp [rTold, rFold, rHead]
          omega
        · right
          exact hy
      have hf : firstOf (x :: y :: r) = if C1 y then (x % 32 * 64 + y % 64, 2) else (65533, 1) := by
        simp only [firstOf, beg_2 h, goOn_s, goOn_0, c1_if]
      have hw2 : W2 x y ↔ C1 y := ⟨fun hh => hh.2.2, fun hh => ⟨h.1, h.2, hh⟩⟩
      rw [hf]
      by_cases hy : C1 y
      · have ht' : rTold [x, y] = x % 32 * 64 + y % 64 := by rcases ht with ht | ht; exact ht; exact absurd hy ht
        match r with
        | [] => rw [rf_2, if_neg hw, if_pos (hw2.2 hy), if_pos hy, ht']
        | [z] => rw [rf_3, if_neg hw, if_pos (hw2.2 hy), if_pos hy, ht']
        | z :: u :: r => rw [rf_4, if_neg hw, if_pos (hw2.2 hy), if_pos hy, ht']
      · have hn : ¬ W2 x y := fun hh => hy (hw2.1 hh)
        match r with
        | [] => simp [rf_2, hw, hn, h3, h4, hy]
        | [z] => simp [rf_3, hw, hn, h3, h4, hy]
        | z :: u :: r => simp [rf_4, hw, hn, h3, h4, hy]
  · have hw : ¬ W1 x := fun hh => by have := hh.2; omega
    have h2 : ∀ y, ¬ W2 x y := fun y hh => by have := hh.2.1; omega
    have h4 : ∀ y, ¬ B24 x y := fun y hh => by have := hh.1; omega
    have hb : ∀ y, B23 x y ↔ (L3 x ≤ y ∧ y ≤ H3 x) := fun y => ⟨fun hh => hh.2.2, fun hh => ⟨h.1, h.2, hh⟩⟩
    match r with
    | [] => simp [rf_1, hw, firstOf, beg_3' h, goOn_e]
    | [y] =>
      simp only [firstOf, beg_3' h, goOn_s, goOn_e, rf_2, if_neg hw, if_neg (h2 y), hb y, h4 y, or_false]
    | y :: z :: r =>
      have ht : (L3 x ≤ y ∧ y ≤ H3 x) → C1 z → rTold [x, y, z] = ((x - 224) * 64 + y % 64) * 64 + z % 64 := by
        intro hy hz
        have := hz.1
        have := hz.2
        have h3' : 128 ≤ y := by have := hy.1; unfold L3 at this; split at this <;> omega
        have h4' : y ≤ 191 := by have := hy.2; unfold H3 at this; split at this <;> omega
        simp [rTold, rFold, rHead]
        omega
      have hf : firstOf (x :: y :: z :: r) = if L3 x ≤ y ∧ y ≤ H3 x then (if C1 z then (((x - 224) * 64 + y % 64) * 64 + z % 64, 3) else (65533, 2)) else (65533, 1) := by
        simp only [firstOf, beg_3' h, goOn_s, goOn_0, c1_if]
      rw [hf]
      by_cases hy : L3 x ≤ y ∧ y ≤ H3 x
      · have hy' := (hb y).2 hy
        by_cases hz : C1 z
        · rw [if_pos hy, if_pos hz, ← ht hy hz]
          match r with
          | [] => rw [rf_3, if_neg hw, if_neg (h2 y), if_pos ⟨hy', hz⟩]
          | u :: r => rw [rf_4, if_neg hw, if_neg (h2 y), if_pos ⟨hy', hz⟩]
        · rw [if_pos hy, if_neg hz]
          match r with
          | [] => rw [rf_3, if_neg hw, if_neg (h2 y), if_neg (fun hh => hz hh.2), if_neg (fun hh => hz hh.2), if_pos (.inl hy')]
          | u :: r => rw [rf_4, if_neg hw, if_neg (h2 y), if_neg (fun hh => hz hh.2), if_neg (fun hh => hz hh.2.1), if_neg (fun hh => hz hh.2), if_pos (.inl hy')]
      · have hy' : ¬ B23 x y := fun hh => hy ((hb y).1 hh)
        rw [if_neg hy]
        match r with
        | [] => simp [rf_3, hw, h2, h4, hy']
        | u :: r => simp [rf_4, hw, h2, h4, hy']
  · have hw : ¬ W1 x := fun hh => by have := hh.2; omega
    have h2 : ∀ y, ¬ W2 x y := fun y hh => by have := hh.2.1; omega
    have h3 : ∀ y, ¬ B23 x y := fun y hh => by have := hh.2.1; omega
    have hb : ∀ y, B24 x y ↔ (L4 x ≤ y ∧ y ≤ H4 x) := fun y => ⟨fun hh => hh.2.2, fun hh => ⟨h.1, h.2, hh⟩⟩
    match r with
    | [] => simp [rf_1, hw, firstOf, beg_4' h, goOn_e]
    | [y] =>
      simp only [firstOf, beg_4' h, goOn_s, goOn_e, rf_2, if_neg hw, if_neg (h2 y), hb y, h3 y, false_or]
    | [y, z] =>
      have hf : firstOf [x, y, z] = if L4 x ≤ y ∧ y ≤ H4 x then (if C1 z then (65533, 3) else (65533, 2)) else (65533, 1) := by
        simp only [firstOf, beg_4' h, goOn_s, goOn_e, c1_if]
      rw [hf]
      by_cases hy : L4 x ≤ y ∧ y ≤ H4 x
      · have hy' := (hb y).2 hy
        by_cases hz : C1 z <;> simp [rf_3, hw, h2, h3, hy', hz, hy]
      · have hy' : ¬ B24 x y := fun hh => hy ((hb y).1 hh)
        simp [rf_3, hw, h2, h3, hy', hy]
    | y :: z :: u :: r =>
      have ht : (L4 x ≤ y ∧ y ≤ H4 x) → C1 z → C1 u → rTold [x, y, z, u] = (((x - 240) * 64 + y % 64) * 64 + z % 64) * 64 + u % 64 := by
        intro hy hz hu
        have := hz.1
        have := hz.2
        have := hu.1
        have := hu.2
        have h3' : 128 ≤ y := by have := hy.1; unfold L4 at this; split at this <;> omega
        have h4' : y ≤ 191 := by have := hy.2; unfold H4 at this; split at this <;> omega
        simp [rTold, rFold, rHead]
        omega
      have hf : firstOf (x :: y :: z :: u :: r) = if L4 x ≤ y ∧ y ≤ H4 x then (if C1 z then (if C1 u then ((((x - 240) * 64 + y % 64) * 64 + z % 64) * 64 + u % 64, 4) else (65533, 3)) else (65533, 2)) else (65533, 1) := by
        simp only [firstOf, beg_4' h, goOn_s, goOn_0, c1_if]
      rw [hf]
      by_cases hy : L4 x ≤ y ∧ y ≤ H4 x
      · have hy' := (hb y).2 hy
        by_cases hz : C1 z
        · by_cases hu : C1 u
          · rw [if_pos hy, if_pos hz, if_pos hu, ← ht hy hz hu, rf_4, if_neg hw, if_neg (h2 y), if_neg (fun hh => h3 y hh.1), if_pos ⟨hy', hz, hu⟩]
          · simp [rf_4, hw, h2, h3, hy', hz, hu, hy]
        · simp [rf_4, hw, h2, h3, hy', hz, hy]
      · have hy' : ¬ B24 x y := fun hh => hy ((hb y).1 hh)
        simp [rf_4, hw, h2, h3, hy', hy]
end Go.Proofs.YtcogfddcdpgpkaaGreatDoor
