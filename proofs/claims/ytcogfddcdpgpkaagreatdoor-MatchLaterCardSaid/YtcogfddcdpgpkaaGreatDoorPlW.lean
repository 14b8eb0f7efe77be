/- Plain laws on eight bytes as one number, and on the test that none has its high bit. No program in sight. -/
import Derived.Laws.BitsAllLaws
namespace Go.Proofs.YtcogfddcdpgpkaaGreatDoor

def hiN : Nat := 9259542123273814144
def wordN (x0 x1 x2 x3 x4 x5 x6 x7 : Nat) : Nat := x0 ||| x1 * 256 ||| x2 * 65536 ||| x3 * 16777216 ||| x4 * 4294967296 ||| x5 * 1099511627776 ||| x6 * 281474976710656 ||| x7 * 72057594037927936

theorem or_lt {a b : Nat} (ha : a < 18446744073709551616) (hb : b < 18446744073709551616) : a ||| b < 18446744073709551616 := Nat.or_lt_two_pow (n := 64) ha hb
theorem or_bits {a b : Nat} (ha : a < 18446744073709551616) (hb : b < 18446744073709551616) : bits .or .u64 (a : Int) (b : Int) = ((a ||| b : Nat) : Int) := u64_or_nat a b ha hb

theorem mul_lt {x p N : Nat} (h : x < 256) (hp : 0 < p) (hb : 256 * p ≤ N) : x * p < N := Nat.lt_of_lt_of_le (Nat.mul_lt_mul_of_pos_right h hp) hb
theorem word_bits {x0 x1 x2 x3 x4 x5 x6 x7 : Nat} (h0 : x0 < 256) (h1 : x1 < 256) (h2 : x2 < 256) (h3 : x3 < 256) (h4 : x4 < 256) (h5 : x5 < 256) (h6 : x6 < 256) (h7 : x7 < 256) :
    bits .or .u64 (bits .or .u64 (bits .or .u64 (bits .or .u64 (bits .or .u64 (bits .or .u64 (bits .or .u64 (x0 : Int) ((x1 : Int) * 256)) ((x2 : Int) * 65536)) ((x3 : Int) * 16777216)) ((x4 : Int) * 4294967296)) ((x5 : Int) * 1099511627776))
      ((x6 : Int) * 281474976710656)) ((x7 : Int) * 72057594037927936) = ((wordN x0 x1 x2 x3 x4 x5 x6 x7 : Nat) : Int) := by
  have e1 : (x1 : Int) * 256 = ((x1 * 256 : Nat) : Int) := (Int.natCast_mul x1 256).symm
  have e2 : (x2 : Int) * 65536 = ((x2 * 65536 : Nat) : Int) := (Int.natCast_mul x2 65536).symm
  have e3 : (x3 : Int) * 16777216 = ((x3 * 16777216 : Nat) : Int) := (Int.natCast_mul x3 16777216).symm
  have e4 : (x4 : Int) * 4294967296 = ((x4 * 4294967296 : Nat) : Int) := (Int.natCast_mul x4 4294967296).symm
  have e5 : (x5 : Int) * 1099511627776 = ((x5 * 1099511627776 : Nat) : Int) := (Int.natCast_mul x5 1099511627776).symm
  have e6 : (x6 : Int) * 281474976710656 = ((x6 * 281474976710656 : Nat) : Int) := (Int.natCast_mul x6 281474976710656).symm
  have e7 : (x7 : Int) * 72057594037927936 = ((x7 * 72057594037927936 : Nat) : Int) := (Int.natCast_mul x7 72057594037927936).symm
  have b0 : x0 < 18446744073709551616 := Nat.lt_of_lt_of_le h0 (by decide)
  have b1 : x1 * 256 < 18446744073709551616 := mul_lt h1 (by decide) (by decide)
  have b2 : x2 * 65536 < 18446744073709551616 := mul_lt h2 (by decide) (by decide)
  have b3 : x3 * 16777216 < 18446744073709551616 := mul_lt h3 (by decide) (by decide)
  have b4 : x4 * 4294967296 < 18446744073709551616 := mul_lt h4 (by decide) (by decide)
  have b5 : x5 * 1099511627776 < 18446744073709551616 := mul_lt h5 (by decide) (by decide)
  have b6 : x6 * 281474976710656 < 18446744073709551616 := mul_lt h6 (by decide) (by decide)
  have b7 : x7 * 72057594037927936 < 18446744073709551616 := mul_lt h7 (by decide) (by decide)
  rw [e1, e2, e3, e4, e5, e6, e7, or_bits b0 b1, or_bits (or_lt b0 b1) b2, or_bits (or_lt (or_lt b0 b1) b2) b3, or_bits (or_lt (or_lt (or_lt b0 b1) b2) b3) b4,
    or_bits (or_lt (or_lt (or_lt (or_lt b0 b1) b2) b3) b4) b5, or_bits (or_lt (or_lt (or_lt (or_lt (or_lt b0 b1) b2) b3) b4) b5) b6, or_bits (or_lt (or_lt (or_lt (or_lt (or_lt (or_lt b0 b1) b2) b3) b4) b5) b6) b7]
  rfl

/-- The bits that the test looks at are all nought. -/
def LowN (W : Nat) : Prop := ∀ k, k < 8 → W.testBit (8 * k + 7) = false
theorem low_of {W : Nat} (h : W &&& hiN = 0) : LowN W := by
  intro k hk
  have h1 := congrArg (fun n => Nat.testBit n (8 * k + 7)) h
  simp only [Nat.testBit_and, Nat.zero_testBit] at h1
  have h2 : hiN.testBit (8 * k + 7) = true := by
    rcases (by omega : k = 0 ∨ k = 1 ∨ k = 2 ∨ k = 3 ∨ k = 4 ∨ k = 5 ∨ k = 6 ∨ k = 7) with rfl | rfl | rfl | rfl | rfl | rfl | rfl | rfl <;> decide
  rw [h2, Bool.and_true] at h1
  exact h1
theorem low_or {a b : Nat} (h : LowN (a ||| b)) : LowN a ∧ LowN b := by
  constructor <;> intro k hk <;> have := h k hk <;> rw [Nat.testBit_or, Bool.or_eq_false_iff] at this
  · exact this.1
  · exact this.2
theorem bit_div {n i : Nat} (h : n.testBit i = false) : n / 2 ^ i % 2 = 0 := by
  rw [Nat.testBit_eq_decide_div_mod_eq, decide_eq_false_iff_not] at h
  omega
theorem low_word {x0 x1 x2 x3 x4 x5 x6 x7 : Nat} (h0 : x0 < 256) (h1 : x1 < 256) (h2 : x2 < 256) (h3 : x3 < 256) (h4 : x4 < 256) (h5 : x5 < 256) (h6 : x6 < 256) (h7 : x7 < 256)
    (h : LowN (wordN x0 x1 x2 x3 x4 x5 x6 x7)) : x0 < 128 ∧ x1 < 128 ∧ x2 < 128 ∧ x3 < 128 ∧ x4 < 128 ∧ x5 < 128 ∧ x6 < 128 ∧ x7 < 128 := by
  unfold wordN at h
  obtain ⟨h, a7⟩ := low_or h
  obtain ⟨h, a6⟩ := low_or h
  obtain ⟨h, a5⟩ := low_or h
  obtain ⟨h, a4⟩ := low_or h
  obtain ⟨h, a3⟩ := low_or h
  obtain ⟨h, a2⟩ := low_or h
  obtain ⟨a0, a1⟩ := low_or h
  have d0 := bit_div (a0 0 (by omega))
  have d1 := bit_div (a1 1 (by omega))
  have d2 := bit_div (a2 2 (by omega))
  have d3 := bit_div (a3 3 (by omega))
  have d4 := bit_div (a4 4 (by omega))
  have d5 := bit_div (a5 5 (by omega))
  have d6 := bit_div (a6 6 (by omega))
  have d7 := bit_div (a7 7 (by omega))
  simp only [Nat.reduceMul, Nat.reduceAdd, Nat.reducePow] at d0 d1 d2 d3 d4 d5 d6 d7
  refine ⟨?_, ?_, ?_, ?_, ?_, ?_, ?_, ?_⟩ <;> omega
theorem and_bits {a : Nat} (ha : a < 18446744073709551616) : bits .and .u64 (a : Int) 9259542123273814144 = ((a &&& hiN : Nat) : Int) := u64_and_nat a hiN ha (by decide)
theorem word_lt {x0 x1 x2 x3 x4 x5 x6 x7 : Nat} (h0 : x0 < 256) (h1 : x1 < 256) (h2 : x2 < 256) (h3 : x3 < 256) (h4 : x4 < 256) (h5 : x5 < 256) (h6 : x6 < 256) (h7 : x7 < 256) : wordN x0 x1 x2 x3 x4 x5 x6 x7 < 18446744073709551616 :=
  or_lt (or_lt (or_lt (or_lt (or_lt (or_lt (or_lt (Nat.lt_of_lt_of_le h0 (by decide)) (mul_lt h1 (by decide) (by decide))) (mul_lt h2 (by decide) (by decide))) (mul_lt h3 (by decide) (by decide))) (mul_lt h4 (by decide) (by decide))) (mul_lt h5 (by decide) (by decide))) (mul_lt h6 (by decide) (by decide))) (mul_lt h7 (by decide) (by decide))
end Go.Proofs.YtcogfddcdpgpkaaGreatDoor
