/- The walk of the reference's whole. Conditions: one to four bytes. -/
import Derived.Test.YtcogfddcdpgpkaaGreatDoorTold
import Derived.Deep.RegionHeld3
import Derived.Test.YtcogfddcdpgpkaaGreatDoorTxt
namespace Go.Proofs.YtcogfddcdpgpkaaGreatDoor
open Go.RowKit

def rWholeB (zs : List Int) : Bool := rightC (rTold zs) && decide (rPut (rTold zs) = zs)

theorem rPut_bytes {n : Int} (h0 : 0 ≤ n) (h1 : n < 1114112) : ∀ i, i < (rPut n).length → 0 ≤ (rPut n).getD i 0 ∧ (rPut n).getD i 0 < 256 := by
  unfold rPut
  intro i hi
  split at hi
  · rw [if_pos ‹_›]
    have : i = 0 := by simpa using hi
    subst this
    simp
    omega
  · rw [if_neg ‹_›]
    split at hi
    · rw [if_pos ‹_›]
      rcases (by simp at hi; omega : i = 0 ∨ i = 1) with rfl | rfl <;> simp <;> omega
    · rw [if_neg ‹_›]
      split at hi
      · rw [if_pos ‹_›]
        rcases (by simp at hi; omega : i = 0 ∨ i = 1 ∨ i = 2) with rfl | rfl | rfl <;> simp <;> omega
      · rw [if_neg ‹_›]
        rcases (by simp at hi; omega : i = 0 ∨ i = 1 ∨ i = 2 ∨ i = 3) with rfl | rfl | rfl | rfl <;> simp <;> omega
theorem rRight_no (w : World) (n : Int) (h : rightC n = false) : Calls Tryz.prog 124 #[.int .i64 n] w fun e w' => e = .returned (.bool false) ∧ w' = w :=
  (rRight_any w n).mono fun _ _ ⟨he, hw⟩ => ⟨by rw [he, h], hw.symm⟩
theorem rRight_yes (w : World) (n : Int) (h : rightC n = true) : Calls Tryz.prog 124 #[.int .i64 n] w fun e w' => e = .returned (.bool true) ∧ w' = w :=
  (rRight_any w n).mono fun _ _ ⟨he, hw⟩ => ⟨by rw [he, h], hw.symm⟩

set_option maxHeartbeats 1000000 in
theorem whole_any (w : World) (B : Nat) (a : Option Addr) (n c : Nat) (zs : List Int) (hB : B ≤ w.heap.size) (hz : ∀ i, i < zs.length → 0 ≤ zs.getD i 0 ∧ zs.getD i 0 < 256) (hn : n = zs.length) (h0 : 0 < zs.length) (h4 : zs.length ≤ 4)
    (hs : Sl w B a (zs.map (Value.int .u8))) : Calls Tryz.prog 126 #[.slice a n c] w (RetV w (.bool (rWholeB zs))) := by
  subst hn
  go_enter Tryz.func126, Tryz.ntmps126
  go_wp2_with fail
  refine (told_any _ B _ _ _ zs hB hz rfl h0 h4 hs).mono ?_
  rintro e w1 ⟨rfl, hb1⟩
  have hs1 := hs.below (hb1.mono hB)
  have hB1 : B ≤ w1.heap.size := Nat.le_trans hB hb1.size
  cases hr : rightC (rTold zs) with
  | false =>
    have HQ : Hid (rWholeB zs = false) := by show _ = _; simp [rWholeB, hr]
    have HR := Lib.hid hr
    clear hr
    generalize rTold zs = t at *
    go_wp2_with fail
    go_quiet ((go_at_call 124; exact Calls.quiet_of_same (rRight_no _ _ HR.out)))
    go_wp2_with fail
    go_ret
    exact ⟨by rw [HQ.out]; rfl, below_drewN hb1 _⟩
  | true =>
    have HR := Lib.hid hr
    have hrb := rightC_true.1 hr
    obtain ⟨t0, t1, -⟩ := hrb
    clear hr
    have HQ : Hid (∀ t, t = rTold zs → rWholeB zs = decide (rPut t = zs)) := by
      intro t ht
      subst ht
      simp [rWholeB, HR.out]
    obtain ⟨t, HT⟩ : ∃ t, Hid (t = rTold zs) := ⟨_, rfl⟩
    rw [← HT.out] at HR t0 t1
    rw [← HT.out]
    have hcv : ∀ W : World, Qt w1 W → (convert 74 9 (.slice a zs.length c)).run Tryz.prog W = .ok (.string (strOfNums zs)) W := fun W hW => conv_sl Tryz.underlying74 Tryz.underlying5 Tryz.underlying9 (hs1.keep (fun b o _ => hW.cell _))
    have hcv1 := hcv w1.drew (Qt.refl w1).drew
    go_wp2_with fail
    go_region_with (first
      | (go_at_call 124; refine (rRight_yes _ _ HR.out).mono ?_; rintro e w2 ⟨rfl, rfl⟩)
      | (go_at_call 159; refine (rPut_any _ t t0 (Int.lt_add_one_of_le t1)).mono ?_; rintro e w2 ⟨a2, c2, rfl, hc2, hs2, hb2⟩; have hcv2 := conv_sl (c := c2) Tryz.underlying74 Tryz.underlying5 Tryz.underlying9 hs2; have hcv3 := conv_sl (c := c) Tryz.underlying74 Tryz.underlying5 Tryz.underlying9 (hs1.drew.below (hb2.mono hB1))))
    all_goals go_wp2_with fail
    all_goals go_ret
    all_goals exact ⟨by rw [HQ.out t HT.out]; exact ret_bool (str_eq (rPut_bytes t0 (by omega)) hz), hb1.trans ((Qt.below (Qt.refl w1).drew).trans (hb2.mono (show w.heap.size ≤ w1.heap.size from hb1.size)))⟩
end Go.Proofs.YtcogfddcdpgpkaaGreatDoor
