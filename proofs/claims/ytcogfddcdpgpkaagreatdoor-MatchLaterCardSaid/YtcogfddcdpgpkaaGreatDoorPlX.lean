/- Plain laws for the walk of utf8.Valid: what each kind of first byte does. No program in sight. -/
import Derived.Test.YtcogfddcdpgpkaaGreatDoorPlV
import Derived.Test.YtcogfddcdpgpkaaGreatDoorPlW
namespace Go.Proofs.YtcogfddcdpgpkaaGreatDoor

theorem v_bad {rs : List Int} (h : 0 < rs.length) (hv : vStep rs = none) : validB rs = false := by
  cases rs with
  | nil => simp at h
  | cons x r => rw [validB_cons, hv]
theorem v_ok {rs : List Int} {k : Nat} (hv : vStep rs = some k) : validB (rs.drop k) = validB rs := by
  cases rs with
  | nil => simp [vStep] at hv
  | cons x r => rw [validB_cons, hv]
theorem v1_ok {rs : List Int} (h : 1 ≤ rs.length) (hx : rs.getD 0 0 < 128) : validB (rs.drop 1) = validB rs :=
  validB_skip 1 rs h (fun i hi => by rw [show i = 0 by omega]; exact hx)
theorem v0_bad {rs : List Int} (hpos : 0 < rs.length) (h1 : 128 ≤ rs.getD 0 0) (h2 : rs.getD 0 0 < 194 ∨ 244 < rs.getD 0 0) : validB rs = false := by
  refine v_bad hpos ?_
  cases rs with
  | nil => rfl
  | cons x r =>
    clear hpos
    simp only [List.getD_cons_zero] at h1 h2
    cases hv : vStep (x :: r) with
    | none => rfl
    | some k =>
      rcases vStep_spec hv with ⟨_, h⟩ | ⟨y, r', _, _, h⟩ | ⟨y, z, r', _, _, h, _⟩ | ⟨y, z, u, r', _, _, h, _⟩
      · omega
      · have := h.1
        have := h.2.1
        omega
      · have := h.1
        have := h.2.1
        omega
      · have := h.1
        have := h.2.1
        omega
theorem v2_bad {rs : List Int} (hpos : 0 < rs.length) (h1 : 194 ≤ rs.getD 0 0) (h2 : rs.getD 0 0 ≤ 223) (hn : rs.length < 2 ∨ ¬ C1 (rs.getD 1 0)) : validB rs = false := by
  refine v_bad hpos ?_
  cases rs with
  | nil => rfl
  | cons x r =>
    clear hpos
    simp only [List.getD_cons_zero] at h1 h2
    cases hv : vStep (x :: r) with
    | none => rfl
    | some k =>
      rcases vStep_spec hv with ⟨_, h⟩ | ⟨y, r', _, rfl, h⟩ | ⟨y, z, r', _, _, h, _⟩ | ⟨y, z, u, r', _, _, h, _⟩
      · omega
      · rcases hn with hn | hn
        · simp at hn
          omega
        · exact absurd h.2.2 hn
      · have := h.1
        omega
      · have := h.1
        omega
theorem v2_ok {rs : List Int} (h : 2 ≤ rs.length) (hw : W2 (rs.getD 0 0) (rs.getD 1 0)) : validB (rs.drop 2) = validB rs := by
  match rs, h with
  | x :: y :: r, _ =>
    refine v_ok ?_
    have hw' : W2 x y := hw
    have hx : ¬ x < 128 := by have := hw'.1; omega
    simp [vStep, hx, hw']
theorem v3_bad {rs : List Int} (hpos : 0 < rs.length) (h1 : 224 ≤ rs.getD 0 0) (h2 : rs.getD 0 0 ≤ 239) (hn : rs.length < 3 ∨ rs.getD 1 0 < L3 (rs.getD 0 0) ∨ H3 (rs.getD 0 0) < rs.getD 1 0 ∨ ¬ C1 (rs.getD 2 0)) : validB rs = false := by
  refine v_bad hpos ?_
  cases rs with
  | nil => rfl
  | cons x r =>
    clear hpos
    simp only [List.getD_cons_zero] at h1 h2 hn
    cases hv : vStep (x :: r) with
    | none => rfl
    | some k =>
      rcases vStep_spec hv with ⟨_, h⟩ | ⟨y, r', _, rfl, h⟩ | ⟨y, z, r', _, rfl, h, h'⟩ | ⟨y, z, u, r', _, _, h, _⟩
      · omega
      · have := h.2.1
        omega
      · rcases hn with hn | hn | hn | hn
        · simp at hn
          omega
        · have := h.2.2.1
          simp at hn
          omega
        · have := h.2.2.2
          simp at hn
          omega
        · exact absurd h' hn
      · have := h.1
        omega
theorem v3_ok {rs : List Int} (h : 3 ≤ rs.length) (h1 : 224 ≤ rs.getD 0 0) (h2 : rs.getD 0 0 ≤ 239) (hl : L3 (rs.getD 0 0) ≤ rs.getD 1 0) (hh : rs.getD 1 0 ≤ H3 (rs.getD 0 0)) (hz : C1 (rs.getD 2 0)) : validB (rs.drop 3) = validB rs := by
  match rs, h with
  | x :: y :: z :: r, _ =>
    refine v_ok ?_
    have hb : B23 x y := ⟨h1, h2, hl, hh⟩
    have hz' : C1 z := hz
    have hx : ¬ x < 128 := by have := hb.1; omega
    have hw : ¬ W2 x y := fun hw => by have := hw.2.1; have := hb.1; omega
    simp [vStep, hx, hw, hb, hz']
theorem v4_bad {rs : List Int} (hpos : 0 < rs.length) (h1 : 240 ≤ rs.getD 0 0) (h2 : rs.getD 0 0 ≤ 244) (hn : rs.length < 4 ∨ rs.getD 1 0 < L4 (rs.getD 0 0) ∨ H4 (rs.getD 0 0) < rs.getD 1 0 ∨ ¬ C1 (rs.getD 2 0) ∨ ¬ C1 (rs.getD 3 0)) : validB rs = false := by
  refine v_bad hpos ?_
  cases rs with
  | nil => rfl
  | cons x r =>
    clear hpos
    simp only [List.getD_cons_zero] at h1 h2 hn
    cases hv : vStep (x :: r) with
    | none => rfl
    | some k =>
      rcases vStep_spec hv with ⟨_, h⟩ | ⟨y, r', _, rfl, h⟩ | ⟨y, z, r', _, rfl, h, h'⟩ | ⟨y, z, u, r', _, rfl, h, h', h''⟩
      · omega
      · have := h.2.1
        omega
      · have := h.2.1
        omega
      · rcases hn with hn | hn | hn | hn | hn
        · simp at hn
          omega
        · have := h.2.2.1
          simp at hn
          omega
        · have := h.2.2.2
          simp at hn
          omega
        · exact absurd h' hn
        · exact absurd h'' hn
theorem v4_ok {rs : List Int} (h : 4 ≤ rs.length) (h1 : 240 ≤ rs.getD 0 0) (h2 : rs.getD 0 0 ≤ 244) (hl : L4 (rs.getD 0 0) ≤ rs.getD 1 0) (hh : rs.getD 1 0 ≤ H4 (rs.getD 0 0)) (hz : C1 (rs.getD 2 0)) (hu : C1 (rs.getD 3 0)) : validB (rs.drop 4) = validB rs := by
  match rs, h with
  | x :: y :: z :: u :: r, _ =>
    refine v_ok ?_
    have hb : B24 x y := ⟨h1, h2, hl, hh⟩
    have hz' : C1 z := hz
    have hu' : C1 u := hu
    have hx : ¬ x < 128 := by have := hb.1; omega
    have hw : ¬ W2 x y := fun hw => by have := hw.2.1; have := hb.1; omega
    have h3 : ¬ B23 x y := b24_no hb
    simp [vStep, hx, hw, h3, hb, hz', hu']

/-- Eight bytes of a list as one number. -/
def wordL (rs : List Int) : Nat := wordN (rs.getD 0 0).toNat (rs.getD 1 0).toNat (rs.getD 2 0).toNat (rs.getD 3 0).toNat (rs.getD 4 0).toNat (rs.getD 5 0).toNat (rs.getD 6 0).toNat (rs.getD 7 0).toNat
theorem byte_lt {rs : List Int} (hz : BytesOK rs) (h : 8 ≤ rs.length) (i : Nat) (hi : i < 8) : (rs.getD i 0).toNat < 256 := by
  have := hz i (by omega)
  omega
theorem wordL_lt {rs : List Int} (hz : BytesOK rs) (h : 8 ≤ rs.length) : wordL rs < 18446744073709551616 :=
  word_lt (byte_lt hz h 0 (by omega)) (byte_lt hz h 1 (by omega)) (byte_lt hz h 2 (by omega)) (byte_lt hz h 3 (by omega)) (byte_lt hz h 4 (by omega)) (byte_lt hz h 5 (by omega)) (byte_lt hz h 6 (by omega)) (byte_lt hz h 7 (by omega))
theorem wordL_low {rs : List Int} (hz : BytesOK rs) (h : 8 ≤ rs.length) (hl : LowN (wordL rs)) : ∀ i, i < 8 → rs.getD i 0 < 128 := by
  have := low_word (byte_lt hz h 0 (by omega)) (byte_lt hz h 1 (by omega)) (byte_lt hz h 2 (by omega)) (byte_lt hz h 3 (by omega)) (byte_lt hz h 4 (by omega)) (byte_lt hz h 5 (by omega)) (byte_lt hz h 6 (by omega)) (byte_lt hz h 7 (by omega)) hl
  intro i hi
  rcases (by omega : i = 0 ∨ i = 1 ∨ i = 2 ∨ i = 3 ∨ i = 4 ∨ i = 5 ∨ i = 6 ∨ i = 7) with rfl | rfl | rfl | rfl | rfl | rfl | rfl | rfl <;> omega
theorem skip16 {rs : List Int} (h : 16 ≤ rs.length) (h1 : ∀ i, i < 8 → rs.getD i 0 < 128) (h2 : ∀ i, i < 8 → (rs.drop 8).getD i 0 < 128) : validB (rs.drop 16) = validB rs := by
  refine validB_skip 16 rs h (fun i hi => ?_)
  by_cases h8 : i < 8
  · exact h1 i h8
  · have := h2 (i - 8) (by omega)
    simp only [List.getD_eq_getElem?_getD, List.getElem?_drop] at this ⊢
    rwa [show 8 + (i - 8) = i by omega] at this
end Go.Proofs.YtcogfddcdpgpkaaGreatDoor
