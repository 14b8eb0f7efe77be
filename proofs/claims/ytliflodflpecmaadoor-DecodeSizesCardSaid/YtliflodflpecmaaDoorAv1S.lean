/- The walk of the law DecodeSizes. Conditions: the slice reads as bytes; the two tables lie in memory. -/
import Derived.Test.YtliflodflpecmaaDoorAv1b
import Derived.Test.YtliflodflpecmaaDoorAv1n
import Derived.Test.YtliflodflpecmaaDoorAv1p
import Derived.Test.YtliflodflpecmaaDoorSp
import Derived.Test.YtliflodflpecmaaDoorTx
import Derived.Test.YtliflodflpecmaaDoorPr
set_option linter.unusedSimpArgs false
set_option linter.unusedVariables false
namespace Go.Proofs.YtliflodflpecmaaDoor
open Go.RowKit
set_option maxHeartbeats 2000000 in
set_option maxRecDepth 100000 in
theorem sizes_any (w : World) (a : Option Addr) (n c : Nat) (zs : List Int) (hT : TabsOK w) (hz : BytesOK zs) (hn : n = zs.length) (hc : n ≤ c) (hs : Sl w w.heap.size a (zs.map (Value.int .u8))) :
    Calls Tryd.prog 4 #[.slice a n c] w (RetV w (.bool true)) := by
  subst hn
  have HS0 := Lib.hid hs
  have HZ := Lib.hid hz
  have HT := Lib.hid hT
  clear hs hz hT
  go_enter Tryd.func4, Tryd.ntmps4
  go_wp2_with fail
  refine (speaks_any w).mono ?_
  rintro e w1 ⟨rfl, hb1⟩
  have hs1 := HS0.out.below hb1
  have hw1 := hb1.size
  by_cases k1 : 2000 < zs.length
  · go_wp2_with fail
    go_ret
    exact ⟨rfl, hb1⟩
  have k1' : ¬ (2000 : Int) < (zs.length : Int) := by omega
  go_wp2_with fail
  refine (chars_any _ w.heap.size _ _ _ zs hw1 HZ.out rfl hc (by omega) hs1).mono ?_
  rintro e w2 ⟨a2, c2, rfl, hc2, hs2, hb2⟩
  have hb12 : Below w.heap.size w w2 := hb1.trans (hb2.mono hw1)
  have HS2 := Lib.hid (HS0.out.below hb12)
  have HL2 := Lib.hid hs2
  have HT2 := Lib.hid (HT.out.below hb12)
  have hw2 := hb12.size
  have HB2 := Lib.hid hb12
  have hcs := chars_short (zs := zs)
  obtain ⟨ls, HLS⟩ : ∃ ls, Hid (chars zs = ls) := ⟨_, rfl⟩
  rw [HLS.out] at hcs HL2 hc2 ⊢
  clear hs1 hb1 hs2 hb2 hb12 hw1 HS0 HT
  go_wp2_with fail
  go_loop [4, 6, 18] (fun p _ i => ∃ k : Nat, i = .int .i64 k ∧ k ≤ zs.length ∧ p = .bool (plainB (zs.take k))) (fun _ _ i => zs.length - (intOf i).toNat)
  case atStart => exact ⟨0, by go_num, Nat.zero_le _, rfl⟩
  case round =>
    obtain ⟨k, rfl, hk, rfl⟩ := hrel
    by_cases hlt : k < zs.length
    · have hlt' : (k : Int) < (zs.length : Int) := by omega
      obtain ⟨b, off, rfl, hb, hcell⟩ := HS2.out.int hlt
      have c0 := hcell k hlt
      clear hcell
      have HP := Lib.hid (plain_snoc hlt)
      obtain ⟨x, HX⟩ : ∃ z, Hid (zs.getD k 0 = z) := ⟨_, rfl⟩
      rw [HX.out] at c0 HP
      cases hp : plainB (zs.take k) with
      | false =>
        rw [hp] at HP
        go_wp2_with fail
        refine ⟨⟨k + 1, by go_num, hlt, by rw [HP.out]; rfl⟩, ?_⟩
        simp [intOf]
        omega
      | true =>
        rw [hp] at HP
        by_cases h1 : x < 128
        · by_cases h2 : 0 < x
          · go_wp2_with fail
            refine ⟨⟨k + 1, by go_num, hlt, by rw [HP.out, decide_eq_true h1, decide_eq_true h2]; rfl⟩, ?_⟩
            simp [intOf]
            omega
          · go_wp2_with fail
            refine ⟨⟨k + 1, by go_num, hlt, by rw [HP.out, decide_eq_false h2]; simp⟩, ?_⟩
            simp [intOf]
            omega
        · go_wp2_with fail
          refine ⟨⟨k + 1, by go_num, hlt, by rw [HP.out, decide_eq_false h1]; simp⟩, ?_⟩
          simp [intOf]
          omega
    · have hge : ¬ (k : Int) < (zs.length : Int) := by omega
      have HPL := Lib.hid (show plainB (zs.take k) = plainB zs by rw [List.take_of_length_le (by omega)])
      rw [HPL.out]
      clear HPL
      have hle : (ls.length : Int) ≤ (zs.length : Int) := by omega
      cases hp : plainB zs with
      | false =>
        go_wp2_with fail
        refine (prepare_any _ w2.heap.size _ _ _ ls (Nat.le_refl _) rfl (by omega) HL2.out).mono ?_
        rintro e w3 ⟨a3, c3, rfl, hc3, hs3, hb3⟩
        have hpl := prep_length ls
        go_wp2_with fail
        refine (text_any _ w3.heap.size _ _ _ (prep ls) (Nat.le_refl _) rfl (by omega) hs3).mono ?_
        rintro e w4 ⟨a4, c4, rfl, hc4, hs4, hb4⟩
        have htl := textOf_length (prep ls)
        have hb24 : Below w2.heap.size w2 w4 := hb3.trans (hb4.mono hb3.size)
        go_wp2_with fail
        refine (rightB_any _ w4.heap.size _ _ _ (textOf (prep ls)) (HT2.out.below hb24) (textOf_bytes _) rfl hc4 (by omega) hs4).mono ?_
        rintro e w5 ⟨rfl, hb5⟩
        have hb25 : Below w2.heap.size w2 w5 := hb24.trans (hb5.mono hb24.size)
        have hb05 : Below w.heap.size w w5 := HB2.out.trans (hb25.mono hw2)
        rw [right_text]
        have HS5 := Lib.hid (HS2.out.below (hb25.mono hw2))
        have HT5 := Lib.hid (HT2.out.below hb25)
        clear hs3 hs4 hb3 hb4 hb5 hb24 htl hpl
        go_wp2_with fail
        go_ret
        exact ⟨rfl, hb05⟩
      | true =>
        have hlz : ls = zs := by rw [← HLS.out]; exact plain_chars hp
        subst hlz
        go_wp2_with fail
        go_loop [35, 7, 8] (fun i _ _ => ∃ j : Nat, i = .int .i64 j ∧ j ≤ ls.length) (fun i _ _ => ls.length - (intOf i).toNat)
        case atStart => exact ⟨0, by go_num, Nat.zero_le _⟩
        case round =>
          obtain ⟨j, rfl, hj⟩ := hrel
          by_cases hjt : j < ls.length
          · have hjt' : (j : Int) < (ls.length : Int) := by omega
            have hjn : ¬ (ls.length : Int) ≤ (j : Int) := by omega
            obtain ⟨b, off, rfl, hb, hcell⟩ := HS2.out.int hjt
            have c0 := hcell j hjt
            clear hcell
            obtain ⟨b2, off2, rfl, hb2, hcell2⟩ := HL2.out.int hjt
            have d0 := hcell2 j hjt
            clear hcell2
            have hx := HZ.out j hjt
            obtain ⟨x, HX⟩ : ∃ z, Hid (ls.getD j 0 = z) := ⟨_, rfl⟩
            rw [HX.out] at c0 d0 hx
            have hw1' : IntKind.i64.wrap x = x := by rw [IntKind.wrap_i64]; omega
            go_wp2_with fail
            refine ⟨⟨j + 1, by go_num, hjt⟩, ?_⟩
            simp [intOf]
            omega
          · have hjg : ¬ (j : Int) < (ls.length : Int) := by omega
            go_wp2_with fail
            refine (prepare_any _ w2.heap.size _ _ _ ls (Nat.le_refl _) rfl (by omega) HL2.out).mono ?_
            rintro e w3 ⟨a3, c3, rfl, hc3, hs3, hb3⟩
            have hpl := prep_length ls
            go_wp2_with fail
            refine (text_any _ w3.heap.size _ _ _ (prep ls) (Nat.le_refl _) rfl (by omega) hs3).mono ?_
            rintro e w4 ⟨a4, c4, rfl, hc4, hs4, hb4⟩
            have htl := textOf_length (prep ls)
            have hb24 : Below w2.heap.size w2 w4 := hb3.trans (hb4.mono hb3.size)
            go_wp2_with fail
            refine (rightB_any _ w4.heap.size _ _ _ (textOf (prep ls)) (HT2.out.below hb24) (textOf_bytes _) rfl hc4 (by omega) hs4).mono ?_
            rintro e w5 ⟨rfl, hb5⟩
            have hb25 : Below w2.heap.size w2 w5 := hb24.trans (hb5.mono hb24.size)
            have hb05 : Below w.heap.size w w5 := HB2.out.trans (hb25.mono hw2)
            rw [right_text]
            have HS5 := Lib.hid (HS2.out.below (hb25.mono hw2))
            have HT5 := Lib.hid (HT2.out.below hb25)
            clear hs3 hs4 hb3 hb4 hb5 hb24 htl hpl
            go_wp2_with fail
            refine (rightB_any _ w.heap.size _ _ _ ls HT5.out HZ.out rfl hc (by omega) HS5.out).mono ?_
            rintro e w6 ⟨rfl, hb6⟩
            have hb06 : Below w.heap.size w w6 := hb05.trans (hb6.mono hb05.size)
            rw [plain_right hp]
            clear hb05 hb25 hb6 HS5 HT5
            go_wp2_with fail
            go_ret
            exact ⟨rfl, hb06⟩
end Go.Proofs.YtliflodflpecmaaDoor
