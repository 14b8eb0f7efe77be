/- The walk of decode's reader: next. Conditions: the reader's block is known whole. -/
import Derived.Test.YtaihimaopedicaaDoorRd
namespace Go.Proofs.YtaihimaopedicaaDoor
open Go.RowKit

theorem wraps_i64 (n : Int) (h₀ : 0 ≤ n) (h₁ : n < 2 ^ 63) : IntKind.i64.wrap n = n := by rw [IntKind.wrap_i64]; omega
theorem i64_or6 (x y : Int) (hx₀ : 0 ≤ x) (hx : x % 64 = 0) (hx₁ : x < 9223372036854775808) (h₀ : 0 ≤ y) (h₁ : y < 64) : bits .or .i64 x y = x + y :=
  bits_join .i64 63 (by decide) wraps_i64 6 x y hx₀ hx hx₁ h₀ h₁ (by omega)

theorem next_no (w : World) (g : Nat) (ch need lo up : Int) (c : Int) (hc : c < lo ∨ up < c) (hg : Bk w g 58 (rd ch need lo up)) :
    Calls Tryd.prog 22 #[.pointer (some ⟨g, 0, none⟩), .int .u8 c] w fun e w' => e = .returned (.bool false) ∧ w.grownBy w' (some g) := by
  have a2 := hg.cell 2
  have a3 := hg.cell 3
  simp [rd] at a2 a3
  by_cases h : c < lo
  · go_enter Tryd.func22, Tryd.ntmps22
    go_wp2
    go_ret
    exact ⟨rfl, World.grownBy.refl _ _⟩
  · have h' : up < c := by omega
    go_enter Tryd.func22, Tryd.ntmps22
    go_wp2
    go_ret
    exact ⟨rfl, World.grownBy.refl _ _⟩

theorem next_yes (w : World) (g : Nat) (ch need lo up : Int) (c : Int) (h0 : 0 ≤ c) (h1 : c < 256) (k0 : 0 ≤ ch) (k1 : ch ≤ 1000000) (n0 : 0 ≤ need) (n1 : need ≤ 10) (hc1 : lo ≤ c) (hc2 : c ≤ up) (hg : Bk w g 58 (rd ch need lo up)) :
    Calls Tryd.prog 22 #[.pointer (some ⟨g, 0, none⟩), .int .u8 c] w fun e w' => e = .returned (.bool true) ∧ w.grownBy w' (some g) ∧ Bk w' g 58 (rd (ch * 64 + c % 64) (need - 1) 128 191) := by
  have a0 := hg.cell 0
  have a1 := hg.cell 1
  have a2 := hg.cell 2
  have a3 := hg.cell 3
  have f0 := hg.free 0
  have f1 := hg.free 1
  have f2 := hg.free 2
  have f3 := hg.free 3
  simp [rd] at a0 a1 a2 a3
  have h : ¬ c < lo := by omega
  have h' : ¬ up < c := by omega
  go_enter Tryd.func22, Tryd.ntmps22
  go_wp2
  go_ret
  refine ⟨rfl, ?_, ?_⟩
  · repeat (first | (with_reducible exact World.grownBy.refl _ _) | (with_reducible refine grown_put ?_ rfl _))
  · with_reducible refine Bk.put4 hg ?_
    simp [rd]
    exact i64_or6 _ _ (by omega) (by omega) (by omega) (by omega) (by omega)
end Go.Proofs.YtaihimaopedicaaDoor
