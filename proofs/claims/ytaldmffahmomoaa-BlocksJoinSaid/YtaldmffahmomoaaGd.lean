/- The walk of the reference's Good. Conditions: the slice reads as bytes. -/
import Derived.Test.YtaldmffahmomoaaFst
namespace Go.Proofs.Ytaldmffahmomoaa
open Go.RowKit

def rGoodN : Nat → List Int → Bool
  | 0, _ => true
  | _ + 1, [] => true
  | n + 1, z :: r => if z = 0 ∨ rWholeB ((z :: r).take (rFirst (z :: r)).2) = false ∨ (rFirst (z :: r)).1 = 0 then false else rGoodN n ((z :: r).drop (rFirst (z :: r)).2)
def rGood (zs : List Int) : Bool := rGoodN zs.length zs

theorem rF1_size {r : List Int} {x : Int × Nat} : ∀ {m : Nat}, m ≤ 4 → rF1 r m = some x → 1 ≤ x.2 ∧ x.2 ≤ 4 ∧ x.2 ≤ r.length
  | 0, _, h => by simp [rF1] at h
  | m + 1, hm, h => by
    unfold rF1 at h
    have ih := @rF1_size r x m (by omega)
    split at h
    · split at h
      · injection h with h
        subst h
        simp only
        omega
      · by_cases h0 : m = 0
        · subst h0
          simp [rF1] at h
        · exact ih h
    · cases h
theorem rF2_size {r : List Int} : ∀ m : Nat, m ≤ 2 → 0 < r.length → 1 ≤ rF2 r m ∧ rF2 r m ≤ 4 ∧ rF2 r m ≤ r.length
  | 0, _, h => by simp [rF2]; omega
  | m + 1, hm, h => by
    unfold rF2
    split
    · omega
    · exact rF2_size m (by omega) h
theorem rFirst_size {r : List Int} (h : 0 < r.length) : 1 ≤ (rFirst r).2 ∧ (rFirst r).2 ≤ 4 ∧ (rFirst r).2 ≤ r.length := by
  unfold rFirst
  cases h1 : rF1 r 4 with
  | some x => exact rF1_size (Nat.le_refl _) h1
  | none => exact rF2_size 2 (Nat.le_refl _) h
theorem rGoodN_fuel : ∀ (n m : Nat) (zs : List Int), zs.length ≤ n → zs.length ≤ m → rGoodN n zs = rGoodN m zs
  | 0, 0, _, _, _ => rfl
  | 0, m + 1, [], _, _ => rfl
  | n + 1, 0, [], _, _ => rfl
  | 0, _ + 1, _ :: _, h, _ => absurd h (by simp)
  | _ + 1, 0, _ :: _, _, h => absurd h (by simp)
  | n + 1, m + 1, [], _, _ => rfl
  | n + 1, m + 1, z :: zs, h1, h2 => by
    simp only [rGoodN]
    have := rFirst_size (r := z :: zs) (by simp)
    simp only [List.length_cons] at h1 h2
    rw [rGoodN_fuel n m _ (by simp only [List.length_drop, List.length_cons]; omega) (by simp only [List.length_drop, List.length_cons]; omega)]
theorem rGood_nil : rGood [] = true := rfl
theorem rGood_of {zs : List Int} (h : 0 < zs.length) : rGood zs = if zs.getD 0 0 = 0 ∨ rWholeB (zs.take (rFirst zs).2) = false ∨ (rFirst zs).1 = 0 then false else rGood (zs.drop (rFirst zs).2) := by
  cases zs with
  | nil => simp at h
  | cons z r =>
    have := rFirst_size (r := z :: r) (by simp)
    rw [rGood, List.length_cons, rGoodN, rGood, rGoodN_fuel r.length _ ((z :: r).drop (rFirst (z :: r)).2) (by simp only [List.length_drop, List.length_cons]; omega) (Nat.le_refl _)]
    rfl

end Go.Proofs.Ytaldmffahmomoaa
