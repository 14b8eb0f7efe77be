/- The walk of the law DecodeLines. Conditions: the slice reads as integers. -/
import Derived.Test.YtliflodflpecmaaLn
namespace Go.Proofs.Ytliflodflpecmaa
open Go.RowKit

structure LnRel2 (xs : List Int) (k : Nat) (l q : Nat) : Prop where
  le : k ≤ xs.length
  lq : q ≤ k
  eq : linesOf (xs.take k) = (l, k - q)
theorem LnRel2.bd {xs : List Int} {k l q : Nat} (h : LnRel2 xs k l q) : l ≤ k := by
  have := linesOf_le xs k h.le
  rw [h.eq] at this
  exact this.1
theorem clampTo_cases (at_ : Int) (n : Nat) : ∃ m, clampTo at_ n = m ∧ m ≤ n ∧ min (max at_ 0) (n : Int) = (m : Int) := ⟨_, rfl, by unfold clampTo; omega, by unfold clampTo; omega⟩

set_option maxHeartbeats 4000000 in
theorem dlines_any (w : World) (a : Option Addr) (n c : Nat) (xs : List Int) (at_ : Int) (hn : n = xs.length) (hc : n ≤ c) 
    (hs : Sl w w.heap.size a (xs.map (Value.int .i64))) : Calls Try.prog 4 #[.slice a n c, .int .i64 at_] w (RetV w (.bool true)) := by
  subst hn
  have HS0 := Lib.hid hs
  clear hs
  go_enter Try.func4, Try.ntmps4
  go_wp2_with fail
  refine (speaks_any w).mono ?_
  rintro e w1 ⟨rfl, hb1⟩
  have HS := Lib.hid (HS0.out.below hb1)
  clear HS0
  by_cases k1 : 2000 < xs.length
  · go_wp2_with fail
    go_ret
    exact ⟨rfl, hb1⟩
  have k1' : ¬ (2000 : Int) < (xs.length : Int) := by omega
  go_wp2_with fail
  refine (lines_any _ _ _ _ _ xs at_ rfl hc (by omega) HS.out).mono ?_
  rintro e w2 ⟨rfl, rfl⟩
  generalize hL : linesOf (xs.take (clampTo at_ xs.length)) = L
  obtain ⟨L1, L2⟩ := L
  have HL := Lib.hid hL
  clear hL
  rcases (by omega : at_ < 0 ∨ (0 ≤ at_ ∧ at_ ≤ xs.length) ∨ (0 ≤ at_ ∧ (xs.length : Int) < at_)) with h | ⟨h, h'⟩ | ⟨h, h'⟩
  · have HQ : Hid (clampTo at_ xs.length = 0) := by show _ = _; unfold clampTo; omega
    go_wp2_with fail
    all_goals (
      go_loop [8, 9, 10] (fun l p i => ∃ j y z : Nat, i = .int .i64 j ∧ l = .int .i64 y ∧ p = .int .i64 z ∧ j ≤ 0 ∧ LnRel2 xs j y z) (fun _ _ i => 0 - (intOf i).toNat)
      case atStart => exact ⟨0, 0, 0, by go_num, by go_num, by go_num, Nat.zero_le _, ⟨Nat.zero_le _, Nat.zero_le _, rfl⟩⟩
      case round =>
        obtain ⟨j, y, z, rfl, rfl, rfl, hj, hr⟩ := hrel
        have b1 := hr.bd
        have hle := hr.le
        have hlq := hr.lq
        have HR := Lib.hid hr
        clear hr
        by_cases hlt : j < 0
        · have hlx : j < xs.length := by omega
          have hlt' : (j : Int) < 0 := by omega
          obtain ⟨b, off, rfl, hb, hcell⟩ := HS.out.int hlx
          have c1 := hcell j hlx
          clear hcell
          obtain ⟨x, HX⟩ : ∃ z, Hid (xs.getD j 0 = z) := ⟨_, rfl⟩
          rw [HX.out] at c1
          by_cases hx : x = 10
          · subst hx
            have HN : LnRel2 xs (j + 1) (y + 1) (j + 1) := ⟨hlx, Nat.le_refl _, by rw [linesOf_snoc hlx, HR.out.eq, HX.out]; simp [lnStep]⟩
            clear HR HX
            go_wp2_with fail
            go_round
            case rel => exact ⟨j + 1, y + 1, j + 1, by go_num, by go_num, by go_num, by omega, HN⟩
            case measure => simp [intOf]; omega
          · have hxb : (x == 10) = false := by simp [hx]
            have HN : LnRel2 xs (j + 1) y z := ⟨hlx, by omega, by rw [linesOf_snoc hlx, HR.out.eq, HX.out]; simp [lnStep, hx]; omega⟩
            clear HR HX hx
            go_wp2_with fail
            go_round
            case rel => exact ⟨j + 1, y, z, by go_num, by go_num, by go_num, by omega, HN⟩
            case measure => simp [intOf]; omega
        · have hje : j = 0 := by omega
          have HE : Hid ((L1, L2) = (y, j - z)) := by
            have h1 := HR.out.eq
            have h2 := HL.out
            rw [HQ.out, ← hje] at h2
            rw [← h1]
            exact h2.symm
          have hge : ¬ (j : Int) < 0 := by omega
          have HJE := Lib.hid hje
          clear hje
          have e1 : ((L1 : Int) == (y : Int)) = true := by
            have := congrArg Prod.fst HE.out
            simp at this
            simp [this]
          have e2 : ((L2 : Int) == -(z : Int)) = true := by
            have h3 := congrArg Prod.snd HE.out
            have h4 := HJE.out
            simp only at h3
            rw [beq_iff_eq]
            omega
          clear HE HJE HR HL
          go_wp2_with fail
          go_ret
          exact ⟨rfl, hb1⟩)
  · obtain ⟨k, rfl⟩ := Int.eq_ofNat_of_zero_le h
    have HQ : Hid (clampTo k xs.length = k) := by show _ = _; unfold clampTo; omega
    go_wp2_with fail
    all_goals (
      go_loop [8, 9, 10] (fun l p i => ∃ j y z : Nat, i = .int .i64 j ∧ l = .int .i64 y ∧ p = .int .i64 z ∧ j ≤ k ∧ LnRel2 xs j y z) (fun _ _ i => k - (intOf i).toNat)
      case atStart => exact ⟨0, 0, 0, by go_num, by go_num, by go_num, Nat.zero_le _, ⟨Nat.zero_le _, Nat.zero_le _, rfl⟩⟩
      case round =>
        obtain ⟨j, y, z, rfl, rfl, rfl, hj, hr⟩ := hrel
        have b1 := hr.bd
        have hle := hr.le
        have hlq := hr.lq
        have HR := Lib.hid hr
        clear hr
        by_cases hlt : j < k
        · have hlx : j < xs.length := by omega
          have hlt' : (j : Int) < (k : Int) := by omega
          obtain ⟨b, off, rfl, hb, hcell⟩ := HS.out.int hlx
          have c1 := hcell j hlx
          clear hcell
          obtain ⟨x, HX⟩ : ∃ z, Hid (xs.getD j 0 = z) := ⟨_, rfl⟩
          rw [HX.out] at c1
          by_cases hx : x = 10
          · subst hx
            have HN : LnRel2 xs (j + 1) (y + 1) (j + 1) := ⟨hlx, Nat.le_refl _, by rw [linesOf_snoc hlx, HR.out.eq, HX.out]; simp [lnStep]⟩
            clear HR HX
            go_wp2_with fail
            go_round
            case rel => exact ⟨j + 1, y + 1, j + 1, by go_num, by go_num, by go_num, by omega, HN⟩
            case measure => simp [intOf]; omega
          · have hxb : (x == 10) = false := by simp [hx]
            have HN : LnRel2 xs (j + 1) y z := ⟨hlx, by omega, by rw [linesOf_snoc hlx, HR.out.eq, HX.out]; simp [lnStep, hx]; omega⟩
            clear HR HX hx
            go_wp2_with fail
            go_round
            case rel => exact ⟨j + 1, y, z, by go_num, by go_num, by go_num, by omega, HN⟩
            case measure => simp [intOf]; omega
        · have hje : j = k := by omega
          have HE : Hid ((L1, L2) = (y, j - z)) := by
            have h1 := HR.out.eq
            have h2 := HL.out
            rw [HQ.out, ← hje] at h2
            rw [← h1]
            exact h2.symm
          have hge : ¬ (j : Int) < (k : Int) := by omega
          have HJE := Lib.hid hje
          clear hje
          have e1 : ((L1 : Int) == (y : Int)) = true := by
            have := congrArg Prod.fst HE.out
            simp at this
            simp [this]
          have e2 : ((L2 : Int) == (k : Int) - (z : Int)) = true := by
            have h3 := congrArg Prod.snd HE.out
            have h4 := HJE.out
            simp only at h3
            rw [beq_iff_eq]
            omega
          clear HE HJE HR HL
          go_wp2_with fail
          go_ret
          exact ⟨rfl, hb1⟩)
  · have HQ : Hid (clampTo at_ xs.length = xs.length) := by show _ = _; unfold clampTo; omega
    go_wp2_with fail
    all_goals (
      go_loop [8, 9, 10] (fun l p i => ∃ j y z : Nat, i = .int .i64 j ∧ l = .int .i64 y ∧ p = .int .i64 z ∧ j ≤ xs.length ∧ LnRel2 xs j y z) (fun _ _ i => xs.length - (intOf i).toNat)
      case atStart => exact ⟨0, 0, 0, by go_num, by go_num, by go_num, Nat.zero_le _, ⟨Nat.zero_le _, Nat.zero_le _, rfl⟩⟩
      case round =>
        obtain ⟨j, y, z, rfl, rfl, rfl, hj, hr⟩ := hrel
        have b1 := hr.bd
        have hle := hr.le
        have hlq := hr.lq
        have HR := Lib.hid hr
        clear hr
        by_cases hlt : j < xs.length
        · have hlx : j < xs.length := by omega
          have hlt' : (j : Int) < (xs.length : Int) := by omega
          obtain ⟨b, off, rfl, hb, hcell⟩ := HS.out.int hlx
          have c1 := hcell j hlx
          clear hcell
          obtain ⟨x, HX⟩ : ∃ z, Hid (xs.getD j 0 = z) := ⟨_, rfl⟩
          rw [HX.out] at c1
          by_cases hx : x = 10
          · subst hx
            have HN : LnRel2 xs (j + 1) (y + 1) (j + 1) := ⟨hlx, Nat.le_refl _, by rw [linesOf_snoc hlx, HR.out.eq, HX.out]; simp [lnStep]⟩
            clear HR HX
            go_wp2_with fail
            go_round
            case rel => exact ⟨j + 1, y + 1, j + 1, by go_num, by go_num, by go_num, by omega, HN⟩
            case measure => simp [intOf]; omega
          · have hxb : (x == 10) = false := by simp [hx]
            have HN : LnRel2 xs (j + 1) y z := ⟨hlx, by omega, by rw [linesOf_snoc hlx, HR.out.eq, HX.out]; simp [lnStep, hx]; omega⟩
            clear HR HX hx
            go_wp2_with fail
            go_round
            case rel => exact ⟨j + 1, y, z, by go_num, by go_num, by go_num, by omega, HN⟩
            case measure => simp [intOf]; omega
        · have hje : j = xs.length := by omega
          have HE : Hid ((L1, L2) = (y, j - z)) := by
            have h1 := HR.out.eq
            have h2 := HL.out
            rw [HQ.out, ← hje] at h2
            rw [← h1]
            exact h2.symm
          have hge : ¬ (j : Int) < (xs.length : Int) := by omega
          have HJE := Lib.hid hje
          clear hje
          have e1 : ((L1 : Int) == (y : Int)) = true := by
            have := congrArg Prod.fst HE.out
            simp at this
            simp [this]
          have e2 : ((L2 : Int) == (xs.length : Int) - (z : Int)) = true := by
            have h3 := congrArg Prod.snd HE.out
            have h4 := HJE.out
            simp only at h3
            rw [beq_iff_eq]
            omega
          clear HE HJE HR HL
          go_wp2_with fail
          go_ret
          exact ⟨rfl, hb1⟩)
end Go.Proofs.Ytliflodflpecmaa
