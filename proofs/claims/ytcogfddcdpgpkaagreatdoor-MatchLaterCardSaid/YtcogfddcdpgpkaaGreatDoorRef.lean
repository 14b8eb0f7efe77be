/- The walks of the reference's small functions: Right, Put, told. Conditions: the numbers are in range. -/
import Derived.Test.YtcogfddcdpgpkaaGreatDoorOwn
import Derived.Test.YtcogfddcdpgpkaaGreatDoorDec
import Derived.Test.YtcogfddcdpgpkaaGreatDoorChecked
import Derived.Deep.QuietTactic
import Derived.BigQuiet
namespace Go.Proofs.YtcogfddcdpgpkaaGreatDoor
open Go.RowKit

theorem rightC_true {n : Int} : rightC n = true ↔ 0 ≤ n ∧ n ≤ 1114111 ∧ ¬ (55296 ≤ n ∧ n ≤ 57343) := by unfold rightC; rw [decide_eq_true_iff]
theorem rightC_false {n : Int} : rightC n = false ↔ ¬ (0 ≤ n ∧ n ≤ 1114111 ∧ ¬ (55296 ≤ n ∧ n ≤ 57343)) := by unfold rightC; rw [decide_eq_false_iff_not]

theorem rRight_any (w : World) (n : Int) : Calls Tryz.prog 124 #[.int .i64 n] w fun e w' => e = .returned (.bool (rightC n)) ∧ w = w' := by
  rcases (by omega : n < 0 ∨ 1114111 < n ∨ (0 ≤ n ∧ n < 55296) ∨ (55296 ≤ n ∧ n ≤ 57343) ∨ (57343 < n ∧ n ≤ 1114111)) with h | h | ⟨h, h'⟩ | ⟨h, h'⟩ | ⟨h, h'⟩
  · have hq : Hid (rightC n = false) := rightC_false.2 (by omega)
    go_enter Tryz.func124, Tryz.ntmps124
    go_wp2
    go_ret
    exact ⟨by rw [hq.out]; rfl, rfl⟩
  · have hq : Hid (rightC n = false) := rightC_false.2 (by omega)
    have h0 : ¬ n < 0 := by omega
    go_enter Tryz.func124, Tryz.ntmps124
    go_wp2
    go_ret
    exact ⟨by rw [hq.out]; rfl, rfl⟩
  · have hq : Hid (rightC n = true) := rightC_true.2 (by omega)
    go_enter Tryz.func124, Tryz.ntmps124
    go_wp2
    go_ret
    exact ⟨by rw [hq.out]; rfl, rfl⟩
  · have hq : Hid (rightC n = false) := rightC_false.2 (by omega)
    have hd : decide (n < 55296) = false := by simp; omega
    have hd2 : decide (57343 < n) = false := by simp; omega
    go_enter Tryz.func124, Tryz.ntmps124
    go_wp2
    go_ret
    exact ⟨by rw [hq.out]; rfl, rfl⟩
  · have hq : Hid (rightC n = true) := rightC_true.2 (by omega)
    go_enter Tryz.func124, Tryz.ntmps124
    go_wp2
    go_ret
    exact ⟨by rw [hq.out]; rfl, rfl⟩

def rPut (n : Int) : List Int :=
  if n < 128 then [n] else if n < 2048 then [192 + n / 64, 128 + n % 64] else if n < 65536 then [224 + n / 4096, 128 + n / 64 % 64, 128 + n % 64] else [240 + n / 262144, 128 + n / 4096 % 64, 128 + n / 64 % 64, 128 + n % 64]
theorem RetL.lit {k : IntKind} {w : World} {t : TypeId} {l : List Int} {cs : Array Value} {n c : Nat} (h : cs = (l.map (Value.int k)).toArray) (hn : n = l.length) (hc : c = l.length) :
    RetL k w l (.returned (.slice (some ⟨w.heap.size, 0, none⟩) n c)) (w.alloc (.cells cs t)) := by
  subst h hn hc
  refine ⟨_, _, rfl, Nat.le_refl _, ?_, (Below.refl _ w).alloc (Nat.le_refl _) _⟩
  have := Sl.lit w t (l.map (Value.int k)).toArray
  simpa using this

theorem rPut_any (w : World) (n : Int) (h0 : 0 ≤ n) (h1 : n < 1114112) : Calls Tryz.prog 159 #[.int .i64 n] w (RetL .u8 w (rPut n)) := by
  rcases (by omega : n < 128 ∨ (128 ≤ n ∧ n < 2048) ∨ (2048 ≤ n ∧ n < 65536) ∨ 65536 ≤ n) with h | ⟨h, h'⟩ | ⟨h, h'⟩ | h
  · have hq : Hid (rPut n = [n]) := by show _ = _; unfold rPut; rw [if_pos h]
    go_enter Tryz.func159, Tryz.ntmps159
    go_wp2
    go_ret
    rw [hq.out]
    exact RetL.lit (by simp) rfl rfl
  · have hq : Hid (rPut n = [192 + n / 64, 128 + n % 64]) := by show _ = _; unfold rPut; rw [if_neg (by omega), if_pos (by omega)]
    go_enter Tryz.func159, Tryz.ntmps159
    go_wp2
    go_ret
    rw [hq.out]
    exact RetL.lit (by simp) rfl rfl
  · have hq : Hid (rPut n = [224 + n / 4096, 128 + n / 64 % 64, 128 + n % 64]) := by show _ = _; unfold rPut; rw [if_neg (by omega), if_neg (by omega), if_pos (by omega)]
    go_enter Tryz.func159, Tryz.ntmps159
    go_wp2
    go_ret
    rw [hq.out]
    exact RetL.lit (by simp) rfl rfl
  · have hq : Hid (rPut n = [240 + n / 262144, 128 + n / 4096 % 64, 128 + n / 64 % 64, 128 + n % 64]) := by show _ = _; unfold rPut; rw [if_neg (by omega), if_neg (by omega), if_neg (by omega)]
    go_enter Tryz.func159, Tryz.ntmps159
    go_wp2
    go_ret
    rw [hq.out]
    exact RetL.lit (by simp) rfl rfl
end Go.Proofs.YtcogfddcdpgpkaaGreatDoor
