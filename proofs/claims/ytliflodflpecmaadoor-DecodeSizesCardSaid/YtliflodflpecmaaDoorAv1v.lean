/- Chapter 1's door: utf8.Valid. -/
import Derived.Test.YtliflodflpecmaaDoorAv1w
import Derived.Test.YtliflodflpecmaaDoorAvb
set_option linter.unusedSimpArgs false
set_option linter.unusedVariables false
set_option maxRecDepth 100000
namespace Go.Av
open Go.Proofs Go.Proofs.YtliflodflpecmaaDoor
/-- What the tables say of a first byte. -/
def clsB (n : Nat) : Bool :=
  decide (bits .and .u8 (firstN n : Nat) 7 = (firstN n % 8 : Nat)) && decide ((firstN n : Int).fdiv 16 = (firstN n / 16 : Nat)) && decide (firstN n < 256) && (n < 128 ||
  (if n < 194 ∨ 244 < n then firstN n % 8 == 1 else if n ≤ 223 then firstN n % 8 == 2 && accN.getD (firstN n / 16 * 2) 0 == 128 && accN.getD (firstN n / 16 * 2 + 1) 0 == 191
   else if n ≤ 239 then firstN n % 8 == 3 && decide ((accN.getD (firstN n / 16 * 2) 0 : Int) = L3 n) && decide ((accN.getD (firstN n / 16 * 2 + 1) 0 : Int) = H3 n)
   else firstN n % 8 == 4 && decide ((accN.getD (firstN n / 16 * 2) 0 : Int) = L4 n) && decide ((accN.getD (firstN n / 16 * 2 + 1) 0 : Int) = H4 n)))
theorem cls_all : (List.range 256).all clsB = true := by decide +kernel
theorem acc_at (q : Nat) (h : q < 16) : dpart Tryd.prog 54 accD (q * 2) = some (.agg [.int .u8 (accN.getD (q * 2) 0 : Nat), .int .u8 (accN.getD (q * 2 + 1) 0 : Nat)]) := by
  rw [dp54]
  rcases (by omega : q = 0 ∨ q = 1 ∨ q = 2 ∨ q = 3 ∨ q = 4 ∨ q = 5 ∨ q = 6 ∨ q = 7 ∨ q = 8 ∨ q = 9 ∨ q = 10 ∨ q = 11 ∨ q = 12 ∨ q = 13 ∨ q = 14 ∨ q = 15) with rfl | rfl | rfl | rfl | rfl | rfl | rfl | rfl | rfl | rfl | rfl | rfl | rfl | rfl | rfl | rfl <;> rfl
/-- The class of a first byte that is not its own character. -/
theorem cls (x : Int) (h1 : 128 ≤ x) (h2 : x < 256) : ∃ (F : Int) (q : Nat) (lo hi s : Int), firstD[x.toNat]? = some (.int .u8 F) ∧ bits .and .u8 F 7 = s ∧ dShift .shr .u8 F 4 = some (.int .u8 (q : Nat)) ∧ q < 16 ∧
    dpart Tryd.prog 54 accD (q * 2) = some (.agg [.int .u8 lo, .int .u8 hi]) ∧
    ((s = 1 ∧ (x < 194 ∨ 244 < x)) ∨ (s = 2 ∧ 194 ≤ x ∧ x ≤ 223 ∧ lo = 128 ∧ hi = 191) ∨ (s = 3 ∧ 224 ≤ x ∧ x ≤ 239 ∧ lo = L3 x ∧ hi = H3 x) ∨ (s = 4 ∧ 240 ≤ x ∧ x ≤ 244 ∧ lo = L4 x ∧ hi = H4 x)) := by
  obtain ⟨n, rfl⟩ : ∃ n : Nat, x = n := ⟨x.toNat, by omega⟩
  have h := List.all_eq_true.1 cls_all n (List.mem_range.2 (by omega))
  unfold clsB at h
  simp only [Bool.and_eq_true, decide_eq_true_eq, Bool.or_eq_true] at h
  obtain ⟨⟨⟨g1, g2⟩, g3⟩, g4⟩ := h
  have hq : firstN n / 16 < 16 := by omega
  refine ⟨(firstN n : Nat), firstN n / 16, _, _, _, firstD_at n (by omega), g1, ?_, hq, acc_at _ hq, ?_⟩
  · show some (D.int .u8 ((firstN n : Int).fdiv 16)) = _
    rw [g2]
  · have g4' := g4.resolve_left (by omega)
    split at g4'
    · rename_i hc
      simp at g4'
      exact .inl ⟨by omega, by omega⟩
    · split at g4'
      · simp only [Bool.and_eq_true, beq_iff_eq] at g4'
        exact .inr (.inl ⟨by omega, by omega, by omega, by rw [g4'.1.2]; rfl, by rw [g4'.2]; rfl⟩)
      · split at g4'
        · simp only [Bool.and_eq_true, beq_iff_eq, decide_eq_true_eq] at g4'
          exact .inr (.inr (.inl ⟨by omega, by omega, by omega, g4'.1.2, g4'.2⟩))
        · simp only [Bool.and_eq_true, beq_iff_eq, decide_eq_true_eq] at g4'
          exact .inr (.inr (.inr ⟨by omega, by omega, by omega, g4'.1.2, g4'.2⟩))
theorem low_test {a : Nat} (ha : a < 18446744073709551616) (h : (bits .and .u64 (a : Int) 9259542123273814144 == 0) = true) : LowN a := by
  rw [and_bits ha, beq_iff_eq] at h
  exact low_of (by omega)
theorem low1 {rs : List Int} (hz : BytesOK rs) (h8 : 8 ≤ rs.length) (h : (bits .and .u64 (wordL rs : Nat) 9259542123273814144 == 0) = true) : ∀ i, i < 8 → rs.getD i 0 < 128 :=
  wordL_low hz h8 (low_test (wordL_lt hz h8) h)
theorem getD_drop (rs : List Int) (k i : Nat) : (rs.drop k).getD i 0 = rs.getD (k + i) 0 := by simp [List.getD]
theorem low2 {rs : List Int} (hz : BytesOK rs) (h8 : 16 ≤ rs.length) (h : (bits .and .u64 (bits .or .u64 (wordL rs : Nat) (wordL (rs.drop 8) : Nat)) 9259542123273814144 == 0) = true) : ∀ i, i < 16 → rs.getD i 0 < 128 := by
  have z1 := wordL_lt hz (by omega : 8 ≤ rs.length)
  have z2 := wordL_lt (hz.drop 8) (by simp; omega : 8 ≤ (rs.drop 8).length)
  rw [or_bits z1 z2] at h
  obtain ⟨l1, l2⟩ := low_or (low_test (or_lt z1 z2) h)
  intro i hi
  by_cases h1 : i < 8
  · exact wordL_low hz (by omega) l1 i h1
  · have := wordL_low (hz.drop 8) (by simp; omega) l2 (i - 8) (by omega)
    rw [getD_drop] at this
    rwa [show 8 + (i - 8) = i by omega] at this
theorem low4 {rs : List Int} (hz : BytesOK rs) (h8 : 32 ≤ rs.length)
    (h : (bits .and .u64 (bits .or .u64 (bits .or .u64 (wordL rs : Nat) (wordL (rs.drop 8) : Nat)) (bits .or .u64 (wordL (rs.drop 16) : Nat) (wordL (rs.drop 24) : Nat))) 9259542123273814144 == 0) = true) : ∀ i, i < 32 → rs.getD i 0 < 128 := by
  have z1 := wordL_lt hz (by omega : 8 ≤ rs.length)
  have z2 := wordL_lt (hz.drop 8) (by simp; omega : 8 ≤ (rs.drop 8).length)
  have z3 := wordL_lt (hz.drop 16) (by simp; omega : 8 ≤ (rs.drop 16).length)
  have z4 := wordL_lt (hz.drop 24) (by simp; omega : 8 ≤ (rs.drop 24).length)
  rw [or_bits z1 z2, or_bits z3 z4, or_bits (or_lt z1 z2) (or_lt z3 z4)] at h
  obtain ⟨l12, l34⟩ := low_or (low_test (or_lt (or_lt z1 z2) (or_lt z3 z4)) h)
  obtain ⟨l1, l2⟩ := low_or l12
  obtain ⟨l3, l4⟩ := low_or l34
  intro i hi
  rcases (by omega : i < 8 ∨ (8 ≤ i ∧ i < 16) ∨ (16 ≤ i ∧ i < 24) ∨ (24 ≤ i ∧ i < 32)) with h1 | h1 | h1 | h1
  · exact wordL_low hz (by omega) l1 i h1
  · have := wordL_low (hz.drop 8) (by simp; omega) l2 (i - 8) (by omega)
    rw [getD_drop] at this
    rwa [show 8 + (i - 8) = i by omega] at this
  · have := wordL_low (hz.drop 16) (by simp; omega) l3 (i - 16) (by omega)
    rw [getD_drop] at this
    rwa [show 16 + (i - 16) = i by omega] at this
  · have := wordL_low (hz.drop 24) (by simp; omega) l4 (i - 24) (by omega)
    rw [getD_drop] at this
    rwa [show 24 + (i - 24) = i by omega] at this
end Go.Av
