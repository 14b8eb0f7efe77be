/- The walk of the law DecodePrepares. Conditions: the slice reads as integers. -/
import Derived.Test.YtliflodflpecmaaSp
import Derived.Test.YtliflodflpecmaaTx
import Derived.Test.YtliflodflpecmaaPr
namespace Go.Proofs.Ytliflodflpecmaa
open Go.RowKit

set_option maxHeartbeats 1500000 in
set_option maxRecDepth 100000 in
theorem prepares_any (w : World) (a : Option Addr) (n c : Nat) (xs : List Int) (hn : n = xs.length) (hs : Sl w w.heap.size a (xs.map (Value.int .i64))) :
    Calls Try.prog 6 #[.slice a n c] w (RetV w (.bool true)) := by
  subst hn
  have HS0 := Lib.hid hs
  clear hs
  go_enter Try.func6, Try.ntmps6
  go_wp2_with fail
  refine (speaks_any w).mono ?_
  rintro e w1 ⟨rfl, hb1⟩
  have hs1 := HS0.out.below hb1
  clear HS0
  have hw1 := hb1.size
  by_cases k1 : 2000 < xs.length
  · go_wp2_with fail
    go_ret
    exact ⟨rfl, hb1⟩
  have k1' : ¬ (2000 : Int) < (xs.length : Int) := by omega
  have hs1a := hs1.alloc hw1 (.cells #[] 3)
  go_wp2_with (at_builtin; refine app_appS _ rfl (.tmp 12) (.tmp 13) 25 rfl Try.eiInts (by decide) w1.heap.size .i64 _ [] rfl (OwnL.nil _ _ _ _ _) _ _ _ _ xs rfl rfl hs1a (by simp) (by omega) (by simp) ?_; intro A2 n2 c2 w2 hn2 hc2 ho2 hs2 hg2 hb2; simp only [List.nil_append] at hn2 ho2 hs2; subst hn2)
  have hb12 : Below w.heap.size w w2 := (hb1.alloc hw1 _).trans (hb2.mono hw1)
  have hx2 := hs1a.below (hb2.mono hw1)
  have hw2 := hb12.size
  clear hs1 hs1a hb1 hw1 ho2 hg2 hb2
  refine (prepare_any _ w2.heap.size _ _ _ xs (Nat.le_refl _) rfl (by omega) hs2).mono ?_
  rintro e w3 ⟨a3, c3, rfl, hc3, hs3, hb3⟩
  have hb13 : Below w.heap.size w w3 := hb12.trans (hb3.mono hw2)
  have hx3 := hx2.below (hb3.mono hw2)
  have hin3 := hs2.ge (Nat.le_refl _) hb3
  have hw23 := hb3.size
  have hw3 := hb13.size
  clear hs2 hb12 hx2 hb3
  have HPL := Lib.hid (Nat.le_trans (prep_length xs) (by omega : xs.length ≤ 2000))
  have HTL := Lib.hid (Nat.le_trans (textOf_length xs) (by omega : 4 * xs.length ≤ 8000))
  go_wp2_with fail
  go_region_with (first
    | (go_at_call 15; refine (rPrepare_any _ w.heap.size _ _ _ xs (show w.heap.size ≤ w3.drew.heap.size from hw3) rfl (by omega) hx3.drew).mono ?_; rintro e w4 ⟨a4, c4, rfl, hc4, hs4, hb4⟩; have hG4 : Ge w3 w4 := ge_of_d hb4)
    | (go_at_call_of 10 (Value.slice a4 (prep xs).length c4); refine (same_any _ _ _ _ _ _ _ _ _ (prep xs) (prep xs) rfl rfl (by have := HPL.out; omega) (by have := HPL.out; omega) (hs3.ge (Nat.le_refl _) hG4) hs4).mono ?_; rintro e w5 ⟨rfl, hb5⟩; rw [show decide (prep xs = prep xs) = true from decide_eq_true rfl]; have hG5 : Ge w3 w5 := Ge.tr hG4 hb5)
    | (go_at_call 10; refine (same_any _ _ _ _ _ _ _ _ _ xs xs rfl rfl (by omega) (by omega) (hin3.ge hw23 hG5) (hx3.ge hw3 hG5)).mono ?_; rintro e w6 ⟨rfl, hb6⟩; rw [show decide (xs = xs) = true from decide_eq_true rfl]; have hG6 : Ge w3 w6 := Ge.tr hG5 hb6)
    | (go_at_call 13; refine (text_any _ w.heap.size _ _ _ xs (Nat.le_trans hw3 hG6.size) rfl (by omega) (hx3.ge hw3 hG6)).mono ?_; rintro e w7 ⟨a7, c7, rfl, hc7, hs7, hb7⟩; have hG7 : Ge w3 w7 := Ge.tr hG6 hb7; have hcv7 := conv_sl (c := c7) Try.underlying22 Try.underlying5 Try.underlying9 hs7)
    | (go_at_call 16; refine (rText_any _ w.heap.size _ _ _ xs (Nat.le_trans hw3 hG7.size) rfl (by omega) (hx3.ge hw3 hG7)).mono ?_; rintro e w8 ⟨a8, c8, rfl, hc8, hs8, hb8⟩; have hG8 : Ge w3 w8 := Ge.tr hG7 hb8; have hcv8 := conv_sl (c := c8) Try.underlying22 Try.underlying5 Try.underlying9 hs8; have hcv87 := conv_sl (c := c7) Try.underlying22 Try.underlying5 Try.underlying9 (hs7.ge (Nat.le_refl _) hb8)))
  all_goals (
    have HX8 : Hid (Ge w w8) := Ge.tr hb13 hG8
    have hs38 := hs3.ge (Nat.le_refl _) hG8
    have hw38 := hG8.size
    have HPP := Lib.hid (prep_prep xs)
    have HG := Lib.hid (prep_good xs)
    clear hcv7 hcv8 hcv87 hb4 hb5 hb6 hb7 hb8 hG4 hG5 hG6 hG7 hG8 hs4 hs7 hs8 hc4 hc7 hc8 hs3 hx3 hin3 hb13 hw23 hw3 hw2 HTL
    generalize prep xs = ps at *
    go_wp2_with fail
    go_loop [6, 39] (fun _ i => ∃ k : Nat, i = .int .i64 k ∧ k ≤ ps.length) (fun _ i => ps.length - (intOf i).toNat)
    case atStart => exact ⟨0, by go_num, Nat.zero_le _⟩
    case round =>
      obtain ⟨k, rfl, hk⟩ := hrel
      have hpl := HPL.out
      by_cases hlt : k < ps.length
      · have hlt' : (k : Int) < (ps.length : Int) := by omega
        obtain ⟨b, off, rfl, hb, hcell⟩ := hs38.int hlt
        have c0 := hcell k hlt
        clear hcell
        have hgd := HG.out (ps.getD k 0) (by simp [hlt])
        obtain ⟨x, HX⟩ : ∃ z, Hid (ps.getD k 0 = z) := ⟨_, rfl⟩
        rw [HX.out] at c0 hgd
        obtain ⟨g1, g2, g3, g4⟩ := hgd
        have e0 : (x == 0) = false := by rw [beq_eq_false_iff_ne]; exact g2
        have e1 : (x == 12) = false := by rw [beq_eq_false_iff_ne]; exact g3
        have e2 : (x == 13) = false := by rw [beq_eq_false_iff_ne]; exact g4
        have G1 := Lib.hid g1
        clear g1 g2 g3 g4
        go_wp2_with fail
        refine (rRight_yes _ _ G1.out).mono ?_
        rintro e w9 ⟨rfl, rfl⟩
        go_wp2_with fail
        go_round
        case rel => exact ⟨k + 1, by go_num, hlt⟩
        case measure => simp [intOf]; omega
      · have hke : k = ps.length := by omega
        subst hke
        go_wp2_with fail
        refine (prepare_any _ w3.heap.size _ _ _ ps hw38 rfl (by omega) hs38).mono ?_
        rintro e w9 ⟨a9, c9, rfl, hc9, hs9, hb9⟩
        rw [HPP.out] at hs9 hc9 ⊢
        go_wp2_with fail
        refine (same_any _ _ _ _ _ _ _ _ _ ps ps rfl rfl (by omega) (by omega) hs9 (hs38.ge hw38 hb9)).mono ?_
        rintro e w10 ⟨rfl, hb10⟩
        rw [show decide (ps = ps) = true from decide_eq_true rfl]
        go_wp2_with fail
        go_ret
        exact ⟨rfl, Ge.tr (Ge.tr HX8.out hb9) hb10⟩)
end Go.Proofs.Ytliflodflpecmaa
