/- chars' small functions, all, put, escape: what they hand back. Conditions: the numbers are characters; the builder is the call's own. -/
import Derived.Test.YtpdcnjlmnilipaaDoorAv2i
import Derived.Test.YtpdcnjlmnilipaaDoorAv2j
import Derived.Test.YtpdcnjlmnilipaaDoorUt
import Derived.Test.YtpdcnjlmnilipaaDoorPlF
set_option linter.unusedVariables false
set_option linter.unusedSimpArgs false
namespace Go.Proofs.YtpdcnjlmnilipaaDoor
open Go.RowKit
/-- A plain answer, the world as it was. -/
def RetW (w : World) (v : Value) (e : Ending) (w' : World) : Prop := e = .returned v ∧ w = w'
def controlC (c : Int) : Bool := decide (0 < c) && decide (c < 32) || decide (c = 127)
def digitC (c : Int) : Bool := decide (48 ≤ c) && decide (c ≤ 57)
def smallC (c : Int) : Int := if 65 ≤ c ∧ c ≤ 90 then c + 32 else c
def letterC (c : Int) : Bool := decide (97 ≤ smallC c) && decide (smallC c ≤ 122)
def startC (c : Int) : Bool := letterC c || decide (c = 95) || decide (128 ≤ c)
def nameC (c : Int) : Bool := startC c || digitC c || decide (c = 45)
theorem control_any (w : World) (c : Int) : Calls Tryd.prog 20 #[.int .i64 c] w (RetW w (.bool (controlC c))) := by
  by_cases h0 : 0 < c
  · by_cases h1 : c < 32
    · have hq : Hid (controlC c = true) := by show _ = _; simp [controlC, h0, h1]
      go_enter Tryd.func20, Tryd.ntmps20
      go_wp2_with fail
      go_ret
      exact ⟨by rw [hq.out]; rfl, rfl⟩
    · have hq : Hid (controlC c = decide (c = 127)) := by show _ = _; simp [controlC, h0, h1]
      go_enter Tryd.func20, Tryd.ntmps20
      go_wp2_with fail
      go_ret
      exact ⟨by rw [hq.out]; rfl, rfl⟩
  · have hq : Hid (controlC c = false) := by show _ = _; simp [controlC, h0]; omega
    have h2 : (c == 127) = false := by simp; omega
    have h3 : decide (c = 127) = false := by simp; omega
    go_enter Tryd.func20, Tryd.ntmps20
    go_wp2_with fail
    go_ret
    exact ⟨by rw [hq.out]; rfl, rfl⟩
theorem digit_any (w : World) (c : Int) : Calls Tryd.prog 21 #[.int .i64 c] w (RetW w (.bool (digitC c))) := by
  by_cases h0 : 48 ≤ c
  · have hq : Hid (digitC c = decide (c ≤ 57)) := by show _ = _; simp [digitC, h0]
    go_enter Tryd.func21, Tryd.ntmps21
    go_wp2_with fail
    go_ret
    exact ⟨by rw [hq.out]; rfl, rfl⟩
  · have hq : Hid (digitC c = false) := by show _ = _; simp [digitC, h0]
    have h2 : decide (48 ≤ c) = false := by simp; omega
    go_enter Tryd.func21, Tryd.ntmps21
    go_wp2_with fail
    go_ret
    exact ⟨by rw [hq.out]; rfl, rfl⟩
theorem small_any (w : World) (c : Int) (hw : 0 ≤ c ∧ c ≤ 1114111) : Calls Tryd.prog 34 #[.int .i64 c] w (RetW w (.int .i64 (smallC c))) := by
  obtain ⟨hw0, hw1⟩ := hw
  by_cases h0 : 65 ≤ c
  · by_cases h1 : c ≤ 90
    · have hq : Hid (smallC c = c + 97 - 65) := by show _ = _; rw [smallC, if_pos ⟨h0, h1⟩]; omega
      go_enter Tryd.func34, Tryd.ntmps34
      go_wp2_with fail
      go_ret
      exact ⟨by rw [hq.out]; rfl, rfl⟩
    · have hq : Hid (smallC c = c) := by show _ = _; rw [smallC, if_neg (by omega)]
      have h2 : decide (c ≤ 90) = false := by simp; omega
      go_enter Tryd.func34, Tryd.ntmps34
      go_wp2_with fail
      go_ret
      exact ⟨by rw [hq.out]; rfl, rfl⟩
  · have hq : Hid (smallC c = c) := by show _ = _; rw [smallC, if_neg (by omega)]
    have h2 : decide (65 ≤ c) = false := by simp; omega
    go_enter Tryd.func34, Tryd.ntmps34
    go_wp2_with fail
    go_ret
    exact ⟨by rw [hq.out]; rfl, rfl⟩
theorem small_at (w : World) (c y : Int) (hw : 0 ≤ c ∧ c ≤ 1114111) (hy : smallC c = y) : Calls Tryd.prog 34 #[.int .i64 c] w (RetW w (.int .i64 y)) := by
  subst hy
  exact small_any w c hw
theorem letter_any (w : World) (c : Int) (hw : 0 ≤ c ∧ c ≤ 1114111) : Calls Tryd.prog 50 #[.int .i64 c] w (RetW w (.bool (letterC c))) := by
  obtain ⟨y, hy⟩ : ∃ y, Hid (smallC c = y) := ⟨_, rfl⟩
  have HW := Lib.hid hw
  clear hw
  by_cases h : 97 ≤ y
  · have hq := Lib.hid (show letterC c = decide (y ≤ 122) by rw [letterC, hy.out]; simp [h])
    go_enter Tryd.func50, Tryd.ntmps50
    go_wp2_with fail
    refine (small_at _ c y HW.out hy.out).mono ?_
    rintro e w1 ⟨rfl, rfl⟩
    go_wp2_with fail
    refine (small_at _ c y HW.out hy.out).mono ?_
    rintro e w2 ⟨rfl, rfl⟩
    go_wp2_with fail
    go_ret
    exact ⟨by rw [hq.out]; rfl, rfl⟩
  · have hq := Lib.hid (show letterC c = false by rw [letterC, hy.out]; simp; omega)
    have h2 : decide (97 ≤ y) = false := by simp; omega
    go_enter Tryd.func50, Tryd.ntmps50
    go_wp2_with fail
    refine (small_at _ c y HW.out hy.out).mono ?_
    rintro e w1 ⟨rfl, rfl⟩
    go_wp2_with fail
    go_ret
    exact ⟨by rw [hq.out]; rfl, rfl⟩
theorem letter_at (w : World) (c : Int) (y : Bool) (hw : 0 ≤ c ∧ c ≤ 1114111) (hy : letterC c = y) : Calls Tryd.prog 50 #[.int .i64 c] w (RetW w (.bool y)) := by
  subst hy
  exact letter_any w c hw
theorem start_any (w : World) (c : Int) (hw : 0 ≤ c ∧ c ≤ 1114111) : Calls Tryd.prog 41 #[.int .i64 c] w (RetW w (.bool (startC c))) := by
  have HW := Lib.hid hw
  clear hw
  rcases Bool.eq_false_or_eq_true (letterC c) with hy | hy
  · have hq := Lib.hid (show startC c = true by rw [startC, hy]; simp)
    have HY := Lib.hid hy
    clear hy
    go_enter Tryd.func41, Tryd.ntmps41
    go_wp2_with fail
    refine (letter_at _ c true HW.out HY.out).mono ?_
    rintro e w1 ⟨rfl, rfl⟩
    go_wp2_with fail
    go_ret
    exact ⟨by rw [hq.out]; rfl, rfl⟩
  · have HY := Lib.hid hy
    have hq := Lib.hid (show startC c = (decide (c = 95) || decide (128 ≤ c)) by rw [startC, hy]; simp)
    clear hy
    by_cases h1 : c = 95
    · subst h1
      go_enter Tryd.func41, Tryd.ntmps41
      go_wp2_with fail
      refine (letter_at _ _ false HW.out HY.out).mono ?_
      rintro e w1 ⟨rfl, rfl⟩
      go_wp2_with fail
      go_ret
      exact ⟨by rw [hq.out]; rfl, rfl⟩
    · have h2 : (c == 95) = false := by simp [h1]
      have h3 := Lib.hid (show decide (c = 95) = false by simp [h1])
      clear h1
      go_enter Tryd.func41, Tryd.ntmps41
      go_wp2_with fail
      refine (letter_at _ _ false HW.out HY.out).mono ?_
      rintro e w1 ⟨rfl, rfl⟩
      go_wp2_with fail
      go_ret
      exact ⟨by rw [hq.out, h3.out]; rfl, rfl⟩
theorem start_at (w : World) (c : Int) (y : Bool) (hw : 0 ≤ c ∧ c ≤ 1114111) (hy : startC c = y) : Calls Tryd.prog 41 #[.int .i64 c] w (RetW w (.bool y)) := by
  subst hy
  exact start_any w c hw
theorem digit_at (w : World) (c : Int) (y : Bool) (hy : digitC c = y) : Calls Tryd.prog 21 #[.int .i64 c] w (RetW w (.bool y)) := by
  subst hy
  exact digit_any w c
theorem control_at (w : World) (c : Int) (y : Bool) (hy : controlC c = y) : Calls Tryd.prog 20 #[.int .i64 c] w (RetW w (.bool y)) := by
  subst hy
  exact control_any w c
theorem name_any (w : World) (c : Int) (hw : 0 ≤ c ∧ c ≤ 1114111) : Calls Tryd.prog 23 #[.int .i64 c] w (RetW w (.bool (nameC c))) := by
  have HW := Lib.hid hw
  clear hw
  rcases Bool.eq_false_or_eq_true (startC c) with hy | hy
  · have hq := Lib.hid (show nameC c = true by rw [nameC, hy]; simp)
    have HY := Lib.hid hy
    clear hy
    go_enter Tryd.func23, Tryd.ntmps23
    go_wp2_with fail
    refine (start_at _ c true HW.out HY.out).mono ?_
    rintro e w1 ⟨rfl, rfl⟩
    go_wp2_with fail
    go_ret
    exact ⟨by rw [hq.out]; rfl, rfl⟩
  · have HY := Lib.hid hy
    have hq := Lib.hid (show nameC c = (digitC c || decide (c = 45)) by rw [nameC, hy]; simp)
    clear hy
    rcases Bool.eq_false_or_eq_true (digitC c) with hd | hd
    · have HD := Lib.hid hd
      clear hd
      go_enter Tryd.func23, Tryd.ntmps23
      go_wp2_with fail
      refine (start_at _ c false HW.out HY.out).mono ?_
      rintro e w1 ⟨rfl, rfl⟩
      go_wp2_with fail
      refine (digit_at _ c true HD.out).mono ?_
      rintro e w2 ⟨rfl, rfl⟩
      go_wp2_with fail
      go_ret
      exact ⟨by rw [hq.out, HD.out]; rfl, rfl⟩
    · have HD := Lib.hid hd
      clear hd
      have h3 : Hid (decide (c = 45) = (c == 45)) := rfl
      go_enter Tryd.func23, Tryd.ntmps23
      go_wp2_with fail
      refine (start_at _ c false HW.out HY.out).mono ?_
      rintro e w1 ⟨rfl, rfl⟩
      go_wp2_with fail
      refine (digit_at _ c false HD.out).mono ?_
      rintro e w2 ⟨rfl, rfl⟩
      go_wp2_with fail
      go_ret
      exact ⟨by rw [hq.out, HD.out, h3.out]; rfl, rfl⟩
theorem name_at (w : World) (c : Int) (y : Bool) (hw : 0 ≤ c ∧ c ≤ 1114111) (hy : nameC c = y) : Calls Tryd.prog 23 #[.int .i64 c] w (RetW w (.bool y)) := by
  subst hy
  exact name_any w c hw
end Go.Proofs.YtpdcnjlmnilipaaDoor
