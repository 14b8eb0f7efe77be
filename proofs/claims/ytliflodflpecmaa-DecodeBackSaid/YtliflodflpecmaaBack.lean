/- The walk of the law DecodeBack. Conditions: the slice reads as integers. -/
import Derived.Test.YtliflodflpecmaaSp
import Derived.Test.YtliflodflpecmaaTx
namespace Go.Proofs.Ytliflodflpecmaa
open Go.RowKit

theorem map_snoc {xs : List Int} {k : Nat} (h : k < xs.length) : (xs.take (k + 1)).map fixC = (xs.take k).map fixC ++ [fixC (xs.getD k 0)] := by
  rw [List.take_succ_eq_append_getElem h, List.map_append]
  simp [h]
structure BackRel (w : World) (xs : List Int) (k : Nat) (v : Value) (wr : World) : Prop where
  le : k ≤ xs.length
  own : OwnL wr w.heap.size 3 .i64 v ((xs.take k).map fixC)
  below : Below w.heap.size w wr

set_option maxHeartbeats 1000000 in
set_option maxRecDepth 100000 in
theorem back_any (w : World) (a : Option Addr) (n c : Nat) (xs : List Int) (hn : n = xs.length) (hs : Sl w w.heap.size a (xs.map (Value.int .i64))) :
    Calls Try.prog 5 #[.slice a n c] w (RetV w (.bool true)) := by
  subst hn
  have HS0 := Lib.hid hs
  clear hs
  go_enter Try.func5, Try.ntmps5
  go_wp2_with fail
  refine (speaks_any w).mono ?_
  rintro e w1 ⟨rfl, hb1⟩
  have HS := Lib.hid (HS0.out.below hb1)
  clear HS0
  have hw1 := hb1.size
  by_cases k1 : 2000 < xs.length
  · go_wp2_with fail
    go_ret
    exact ⟨rfl, hb1⟩
  have k1' : ¬ (2000 : Int) < (xs.length : Int) := by omega
  go_wp2_with fail
  have HB1 := Lib.hid hb1
  clear hb1
  go_loopw [3, 5, 15] (fun v _ i wr => ∃ (k : Nat) (a : Option Addr) (m c : Nat), i = .int .i64 k ∧ v = .slice a m c ∧ BackRel w1 xs k v wr) (fun _ _ i _ => xs.length - (intOf i).toNat)
  case atStart => exact ⟨0, _, 0, 0, by go_num, rfl, ⟨Nat.zero_le _, OwnL.nil _ _ _ _ _, (Below.refl _ _).alloc (Nat.le_refl _) _⟩⟩
  case round =>
    obtain ⟨k, a1, m1, c1, rfl, rfl, hr⟩ := hrel
    have hle := hr.le
    by_cases hlt : k < xs.length
    · have hlt' : (k : Int) < (xs.length : Int) := by omega
      obtain ⟨b, off, rfl, hb, hcell⟩ := HS.out.int hlt
      have c0 := ((below_cells hr.below).1 b (off + k) (by omega)).trans (hcell k hlt)
      clear hcell
      obtain ⟨x, HX⟩ : ∃ z, Hid (xs.getD k 0 = z) := ⟨_, rfl⟩
      rw [HX.out] at c0
      have HTX : Hid ((xs.take (k + 1)).map fixC = (xs.take k).map fixC ++ [fixC x]) := by have := map_snoc hlt; rw [HX.out] at this; exact this
      have HO := Lib.hid hr.own
      have HB := Lib.hid hr.below
      have hwb := hr.below.size
      have hL : ((xs.take k).map fixC).length ≤ 2000 := by simp; omega
      have HL := Lib.hid hL
      clear hr hL
      go_wp2_with fail
      refine (rRight_any _ _).mono ?_
      rintro e w2 ⟨rfl, rfl⟩
      cases hx : rightC x with
      | true =>
        have HF := Lib.hid (fixC_yes hx)
        clear hx
        go_wp2_with (at_builtin; refine appL_one _ rfl (.tmp 21) (.tmp 23) 25 rfl Try.eiInts (by decide) w1.heap.size .i64 _ _ x rfl HO.out rfl (by have := HL.out; omega) hwb ?_; intro v3 w3 ho3 hg3 hb3)
        have HN : BackRel w1 xs (k + 1) v3 w3 := ⟨hlt, by rw [HTX.out, HF.out]; exact ho3, HB.out.trans hb3⟩
        clear ho3 hg3 hb3 HO HTX HF
        obtain ⟨a3, c3, hv, -, -⟩ := HN.own.form
        refine ⟨⟨k + 1, a3, _, c3, by go_num, hv, HN⟩, ?_⟩
        simp [intOf]
        omega
      | false =>
        have HF := Lib.hid (fixC_no hx)
        clear hx
        go_wp2_with (at_builtin; refine appL_one _ rfl (.tmp 25) (.tmp 26) 25 rfl Try.eiInts (by decide) w1.heap.size .i64 _ _ 65533 rfl HO.out rfl (by have := HL.out; omega) hwb ?_; intro v3 w3 ho3 hg3 hb3)
        have HN : BackRel w1 xs (k + 1) v3 w3 := ⟨hlt, by rw [HTX.out, HF.out]; exact ho3, HB.out.trans hb3⟩
        clear ho3 hg3 hb3 HO HTX HF
        obtain ⟨a3, c3, hv, -, -⟩ := HN.own.form
        refine ⟨⟨k + 1, a3, _, c3, by go_num, hv, HN⟩, ?_⟩
        simp [intOf]
        omega
    · have hke : k = xs.length := by omega
      subst hke
      have HO := hr.own
      rw [List.take_length] at HO
      have hO := HO.len
      obtain ⟨rfl, hc1⟩ := hO
      have HB := Lib.hid hr.below
      have hwb := hr.below.size
      have hs1 := HS.out.ge hw1 hr.below
      have hsw := HO.sl
      clear hr HO
      have HQ : Hid (chars (textOf xs) = dropMark (xs.map fixC)) := chars_text xs
      go_wp2_with fail
      refine (text_any _ w.heap.size _ _ _ xs (Nat.le_trans hw1 hwb) rfl (by omega) hs1).mono ?_
      rintro e w3 ⟨a3, c3, rfl, hc3, hs3, hb3⟩
      have hsw3 := hsw.below hb3
      have hwr3 := hb3.size
      have hB3 := Lib.hid (HB.out.trans (hb3.mono hwb))
      have hTL : (textOf xs).length ≤ 8000 := Nat.le_trans (textOf_length xs) (by omega)
      have hTL' := Lib.hid hTL
      clear hb3 hsw hs1 hTL
      go_wp2_with fail
      refine (chars_any _ _ _ _ _ _ (Nat.le_refl _) (textOf_bytes xs) rfl hc3 (by have := hTL'.out; omega) hs3).mono ?_
      rintro e w4 ⟨a4, c4, rfl, hc4, hs4, hb4⟩
      rw [HQ.out] at hc4 hs4 ⊢
      have hsw4 := hsw3.ge hwr3 hb4
      have HB4 := Lib.hid ((HB1.out.trans (hB3.out.mono hw1)).trans (hb4.mono (Nat.le_trans (Nat.le_trans hw1 hwb) hwr3)))
      clear hs3 hsw3 hb4
      clear hle hB3 hTL' HB HQ
      cases xs with
      | nil =>
        have HD : Hid (decide (dropMark ([] : List Int) = []) = true) := by show _ = _; rfl
        simp only [List.map_nil] at hc1 hc4 hs4 hsw4 ⊢
        have hl0 : ([] : List Int).length = 0 := rfl
        have hl1 : (dropMark ([] : List Int)).length = 0 := rfl
        rw [hl1] at hc4 ⊢
        clear hl0 hl1
        go_wp2_with fail
        refine (same_any _ _ _ _ _ _ _ _ _ (dropMark []) [] rfl (by simp) (by simp [dropMark]) (by simp) hs4 hsw4).mono ?_
        rintro e w5 ⟨rfl, hb5⟩
        rw [HD.out]
        go_wp2_with fail
        go_ret
        exact ⟨rfl, HB4.out.trans (hb5.mono HB4.out.size)⟩
      | cons x r =>
        rw [List.map_cons] at hsw4 hc4 hs4 hc1 ⊢
        generalize hd : fixC x = d at *
        have hrl : (r.map fixC).length = r.length := List.length_map ..
        generalize hds : r.map fixC = ds at *
        clear hd hds
        have hd0 : 0 < (d :: ds).length := by simp
        obtain ⟨b3, off3, rfl, hb3', hcell⟩ := hsw4.int hd0
        have hc0 := hcell 0 hd0
        simp only [Nat.add_zero, List.getD_cons_zero] at hc0
        clear hcell
        have HRL := Lib.hid hrl
        simp only [List.length_cons] at hc1 hd0 k1 k1' ⊢
        have hc1' : r.length + 1 ≤ c1 := by rw [← HRL.out]; exact hc1
        have hd0' : 0 < r.length + 1 := by omega
        clear hc1 hrl
        by_cases hdm : d = 65279
        · subst hdm
          have HD : Hid (dropMark (65279 :: ds) = ds) := dropMark_cons_eq rfl
          rw [HD.out] at hc4 hs4 ⊢
          have HCUT := Lib.hid (hsw4.cut (k := 1) (cap := c1) (n := ds.length + 1) (by omega) (by simp) (by rw [HRL.out]; exact hc1'))
          have H1 : Hid (c1 = 1 → Sl w4 wr.heap.size (some ⟨b3, off3, none⟩) (ds.map (Value.int .i64))) := by
            intro h
            have := HCUT.out
            rw [if_pos h] at this
            simpa using this
          have H2 : Hid (¬ c1 = 1 → Sl w4 wr.heap.size (some ⟨b3, off3 + 1, none⟩) (ds.map (Value.int .i64))) := by
            intro h
            have := HCUT.out
            rw [if_neg h] at this
            simpa [addr_add] using this
          go_wp2_with fail
          · refine (same_any _ _ _ _ _ _ _ _ _ ds ds (by simp) (by simp [HRL.out]) (by simp [HRL.out]; omega) (by simp [HRL.out]; omega) hs4 (H1.out (by assumption))).mono ?_
            rintro e w5 ⟨rfl, hb5⟩
            rw [show decide (ds = ds) = true from decide_eq_true rfl]
            go_wp2_with fail
            go_ret
            exact ⟨rfl, HB4.out.trans (hb5.mono HB4.out.size)⟩
          · refine (same_any _ _ _ _ _ _ _ _ _ ds ds (by simp) (by simp [HRL.out]) (by simp [HRL.out]; omega) (by simp [HRL.out]; omega) hs4 (H2.out (by assumption))).mono ?_
            rintro e w5 ⟨rfl, hb5⟩
            rw [show decide (ds = ds) = true from decide_eq_true rfl]
            go_wp2_with fail
            go_ret
            exact ⟨rfl, HB4.out.trans (hb5.mono HB4.out.size)⟩
        · have hdm' : (d == 65279) = false := by simp [hdm]
          have HD : Hid (dropMark (d :: ds) = d :: ds) := dropMark_cons_ne hdm'
          clear hdm
          rw [HD.out] at hc4 hs4 ⊢
          go_wp2_with fail
          refine (same_any _ _ _ _ _ _ _ _ _ (d :: ds) (d :: ds) (by simp) (by simp [HRL.out]) (by simp [HRL.out]; omega) (by simp [HRL.out]; omega) hs4 hsw4).mono ?_
          rintro e w5 ⟨rfl, hb5⟩
          rw [show decide (d :: ds = d :: ds) = true from decide_eq_true rfl]
          go_wp2_with fail
          go_ret
          exact ⟨rfl, HB4.out.trans (hb5.mono HB4.out.size)⟩
end Go.Proofs.Ytliflodflpecmaa
