/- The walks of decode's Lines and of the law DecodeLines. Conditions: the slice reads as integers. -/
import Derived.Test.YtliflodflpecmaaSp
namespace Go.Proofs.Ytliflodflpecmaa
open Go.RowKit

def lnStep (s : Nat × Nat) (c : Int) : Nat × Nat := if c = 10 then (s.1 + 1, 0) else (s.1, s.2 + 1)
def linesOf (l : List Int) : Nat × Nat := l.foldl lnStep (0, 0)
theorem linesOf_snoc {l : List Int} {k : Nat} (h : k < l.length) : linesOf (l.take (k + 1)) = lnStep (linesOf (l.take k)) (l.getD k 0) := by
  rw [List.take_succ_eq_append_getElem h, linesOf, List.foldl_append]
  simp [linesOf, h]
theorem linesOf_le (l : List Int) : ∀ k, k ≤ l.length → (linesOf (l.take k)).1 ≤ k ∧ (linesOf (l.take k)).2 ≤ k
  | 0, _ => by simp [linesOf]
  | k + 1, h => by
    have := linesOf_le l k (by omega)
    rw [linesOf_snoc (by omega)]
    unfold lnStep
    split
    · simp
      omega
    · simp
      omega

/-- The place to which an integer leads, in so many. -/
def clampTo (at_ : Int) (n : Nat) : Nat := min at_.toNat n

structure LnRel (xs : List Int) (k : Nat) (l p : Nat) : Prop where
  le : k ≤ xs.length
  eq : linesOf (xs.take k) = (l, p)
theorem LnRel.bd {xs : List Int} {k l p : Nat} (h : LnRel xs k l p) : l ≤ k ∧ p ≤ k := by
  have := linesOf_le xs k h.le
  rw [h.eq] at this
  exact this

def LinesPost (w : World) (x : Nat × Nat) (e : Ending) (w' : World) : Prop := e = .returned (.tuple #[.int .i64 (x.1 : Nat), .int .i64 (x.2 : Nat)]) ∧ w = w'

theorem LinesPost.mk' {w : World} {x : Nat × Nat} {y z : Nat} {e : Ending} (h : x = (y, z)) (he : e = .returned (.tuple #[.int .i64 (y : Nat), .int .i64 (z : Nat)])) : LinesPost w x e w := ⟨by rw [h]; exact he, rfl⟩

set_option maxHeartbeats 2000000 in
theorem lines_any (w : World) (B : Nat) (a : Option Addr) (n c : Nat) (xs : List Int) (at_ : Int) (hn : n = xs.length) (hc : n ≤ c) (hm : xs.length ≤ 1099511627776)
    (hs : Sl w B a (xs.map (Value.int .i64))) : Calls Try.prog 11 #[.slice a n c, .int .i64 at_] w (LinesPost w (linesOf (xs.take (clampTo at_ xs.length)))) := by
  subst hn
  have HS := Lib.hid hs
  clear hs
  have HC : Hid (∀ m, clampTo at_ xs.length = m → linesOf (xs.take (clampTo at_ xs.length)) = linesOf (xs.take m)) := fun m h => by rw [h]
  rcases (by omega : at_ < 0 ∨ (0 ≤ at_ ∧ at_ < xs.length) ∨ (0 ≤ at_ ∧ (xs.length : Int) ≤ at_)) with h | ⟨h, h'⟩ | ⟨h, h'⟩
  · have HQ : Hid (clampTo at_ xs.length = 0) := by show _ = _; unfold clampTo; omega
    go_enter Try.func11, Try.ntmps11
    go_wp2_with fail
    go_loop [4, 5, 7, 16] (fun l p _ i => ∃ j y z : Nat, i = .int .i64 j ∧ l = .int .i64 y ∧ p = .int .i64 z ∧ j ≤ 0 ∧ LnRel xs j y z) (fun _ _ _ i => 0 - (intOf i).toNat)
    case atStart => exact ⟨0, 0, 0, by go_num, by go_num, by go_num, Nat.zero_le _, ⟨Nat.zero_le _, rfl⟩⟩
    case round =>
      obtain ⟨j, y, z, rfl, rfl, rfl, hj, hr⟩ := hrel
      have hbd := hr.bd
      have hle := hr.le
      obtain ⟨b1, b2⟩ := hbd
      have HR := Lib.hid hr
      clear hr
      by_cases hlt : j < 0
      · have hlx : j < xs.length := by omega
        have hlt' : (j : Int) < 0 := by omega
        obtain ⟨b, off, rfl, hb, hcell⟩ := HS.out.int hlx
        have c1 := hcell j hlx
        clear hcell
        obtain ⟨x, HX⟩ : ∃ z, Hid (xs.getD j 0 = z) := ⟨_, rfl⟩
        rw [HX.out] at c1
        by_cases hx : x = 10
        · subst hx
          have HN : LnRel xs (j + 1) (y + 1) 0 := ⟨hlx, by rw [linesOf_snoc hlx, HR.out.eq, HX.out]; rfl⟩
          clear HR HX
          go_wp2_with fail
          go_round
          case rel => exact ⟨j + 1, y + 1, 0, by go_num, by go_num, by go_num, by omega, HN⟩
          case measure => simp [intOf]; omega
        · have hxb : (x == 10) = false := by simp [hx]
          have HN : LnRel xs (j + 1) y (z + 1) := ⟨hlx, by rw [linesOf_snoc hlx, HR.out.eq, HX.out]; simp [lnStep, hx]⟩
          clear HR HX hx
          go_wp2_with fail
          go_round
          case rel => exact ⟨j + 1, y, z + 1, by go_num, by go_num, by go_num, by omega, HN⟩
          case measure => simp [intOf]; omega
      · have hje : j = 0 := by omega
        have HE : Hid (linesOf (xs.take (clampTo at_ xs.length)) = (y, z)) := by
          have := HR.out.eq
          rw [hje] at this
          rw [HC.out _ HQ.out]
          exact this
        have hge : ¬ (j : Int) < 0 := by omega
        have HJE := Lib.hid hje
        clear hje
        go_wp2_with fail
        go_ret2
        exact LinesPost.mk' HE.out rfl

  · obtain ⟨k, rfl⟩ := Int.eq_ofNat_of_zero_le h
    have HQ : Hid (clampTo k xs.length = k) := by show _ = _; unfold clampTo; omega
    go_enter Try.func11, Try.ntmps11
    go_wp2_with fail
    go_loop [4, 5, 7, 16] (fun l p _ i => ∃ j y z : Nat, i = .int .i64 j ∧ l = .int .i64 y ∧ p = .int .i64 z ∧ j ≤ k ∧ LnRel xs j y z) (fun _ _ _ i => k - (intOf i).toNat)
    case atStart => exact ⟨0, 0, 0, by go_num, by go_num, by go_num, Nat.zero_le _, ⟨Nat.zero_le _, rfl⟩⟩
    case round =>
      obtain ⟨j, y, z, rfl, rfl, rfl, hj, hr⟩ := hrel
      have hbd := hr.bd
      have hle := hr.le
      obtain ⟨b1, b2⟩ := hbd
      have HR := Lib.hid hr
      clear hr
      by_cases hlt : j < k
      · have hlx : j < xs.length := by omega
        have hlt' : (j : Int) < (k : Int) := by omega
        obtain ⟨b, off, rfl, hb, hcell⟩ := HS.out.int hlx
        have c1 := hcell j hlx
        clear hcell
        obtain ⟨x, HX⟩ : ∃ z, Hid (xs.getD j 0 = z) := ⟨_, rfl⟩
        rw [HX.out] at c1
        by_cases hx : x = 10
        · subst hx
          have HN : LnRel xs (j + 1) (y + 1) 0 := ⟨hlx, by rw [linesOf_snoc hlx, HR.out.eq, HX.out]; rfl⟩
          clear HR HX
          go_wp2_with fail
          go_round
          case rel => exact ⟨j + 1, y + 1, 0, by go_num, by go_num, by go_num, by omega, HN⟩
          case measure => simp [intOf]; omega
        · have hxb : (x == 10) = false := by simp [hx]
          have HN : LnRel xs (j + 1) y (z + 1) := ⟨hlx, by rw [linesOf_snoc hlx, HR.out.eq, HX.out]; simp [lnStep, hx]⟩
          clear HR HX hx
          go_wp2_with fail
          go_round
          case rel => exact ⟨j + 1, y, z + 1, by go_num, by go_num, by go_num, by omega, HN⟩
          case measure => simp [intOf]; omega
      · have hje : j = k := by omega
        have HE : Hid (linesOf (xs.take (clampTo k xs.length)) = (y, z)) := by
          have := HR.out.eq
          rw [hje] at this
          rw [HC.out _ HQ.out]
          exact this
        have hge : ¬ (j : Int) < (k : Int) := by omega
        have HJE := Lib.hid hje
        clear hje
        go_wp2_with fail
        go_ret2
        exact LinesPost.mk' HE.out rfl

  · have HQ : Hid (clampTo at_ xs.length = xs.length) := by show _ = _; unfold clampTo; omega
    go_enter Try.func11, Try.ntmps11
    go_wp2_with fail
    all_goals (
      go_loop [4, 5, 7, 16] (fun l p _ i => ∃ j y z : Nat, i = .int .i64 j ∧ l = .int .i64 y ∧ p = .int .i64 z ∧ j ≤ xs.length ∧ LnRel xs j y z) (fun _ _ _ i => xs.length - (intOf i).toNat)
      case atStart => exact ⟨0, 0, 0, by go_num, by go_num, by go_num, Nat.zero_le _, ⟨Nat.zero_le _, rfl⟩⟩
      case round =>
        obtain ⟨j, y, z, rfl, rfl, rfl, hj, hr⟩ := hrel
        have hbd := hr.bd
        have hle := hr.le
        obtain ⟨b1, b2⟩ := hbd
        have HR := Lib.hid hr
        clear hr
        by_cases hlt : j < xs.length
        · have hlx : j < xs.length := by omega
          have hlt' : (j : Int) < (xs.length : Int) := by omega
          obtain ⟨b, off, rfl, hb, hcell⟩ := HS.out.int hlx
          have c1 := hcell j hlx
          clear hcell
          obtain ⟨x, HX⟩ : ∃ z, Hid (xs.getD j 0 = z) := ⟨_, rfl⟩
          rw [HX.out] at c1
          by_cases hx : x = 10
          · subst hx
            have HN : LnRel xs (j + 1) (y + 1) 0 := ⟨hlx, by rw [linesOf_snoc hlx, HR.out.eq, HX.out]; rfl⟩
            clear HR HX
            go_wp2_with fail
            go_round
            case rel => exact ⟨j + 1, y + 1, 0, by go_num, by go_num, by go_num, by omega, HN⟩
            case measure => simp [intOf]; omega
          · have hxb : (x == 10) = false := by simp [hx]
            have HN : LnRel xs (j + 1) y (z + 1) := ⟨hlx, by rw [linesOf_snoc hlx, HR.out.eq, HX.out]; simp [lnStep, hx]⟩
            clear HR HX hx
            go_wp2_with fail
            go_round
            case rel => exact ⟨j + 1, y, z + 1, by go_num, by go_num, by go_num, by omega, HN⟩
            case measure => simp [intOf]; omega
        · have hje : j = xs.length := by omega
          have HE : Hid (linesOf (xs.take (clampTo at_ xs.length)) = (y, z)) := by
            have := HR.out.eq
            rw [hje] at this
            rw [HC.out _ HQ.out]
            exact this
          have hge : ¬ (j : Int) < (xs.length : Int) := by omega
          have HJE := Lib.hid hje
          clear hje
          go_wp2_with fail
          go_ret2
          exact LinesPost.mk' HE.out rfl)
end Go.Proofs.Ytliflodflpecmaa
