/- The walk of chars.Quote. Conditions: math/bits' table lies in memory. -/
import Derived.Test.YtpdcnjlmnilipaaDoorAv2o
set_option linter.unusedVariables false
set_option linter.unusedSimpArgs false
namespace Go.Proofs.YtpdcnjlmnilipaaDoor
open Go.RowKit
set_option maxHeartbeats 4000000 in
set_option maxRecDepth 100000 in
theorem quote_any (w : World) (s : ByteArray) (hs : s.size ≤ 100000) (hB : 3 < w.heap.size) (hT : TabT w) :
    Calls Tryd.prog 10 #[.string s] w (RetV w (.string (strOfNums (quoteF (rawChars (bytesI s)))))) := by
  have HL := Lib.hid (raw_length _ (bytesI s) (Nat.le_refl _))
  have HR := Lib.hid (raw_right _ (bytesI s) (Nat.le_refl _) (bytesI_ok s))
  rw [bytesI_length] at HL
  have HT := Lib.hid hT
  have HA := Lib.hid (fun w => all_any w s (by omega))
  clear hT
  generalize rawChars (bytesI s) = l at *
  go_enter Tryd.func10, Tryd.ntmps10
  go_wp2_with fail
  have HF0 := Lib.hid (show IsI w.heap.size w.heap.size [] (w.alloc (.cells #[.pointer none, .slice none 0 0] 34)) from Lib.fresh_isBuilder 34 5 w)
  have HBW0 := Lib.hid ((Below.refl w.heap.size w).alloc (Nat.le_refl _) (.cells #[.pointer none, .slice none 0 0] 34))
  generalize w.alloc (.cells #[.pointer none, .slice none 0 0] 34) = w0 at *
  refine (wbyte_I w.heap.size w.heap.size _ 34 _ HF0.out (by decide) HBW0.out.size).mono ?_
  rintro e w1 ⟨rfl, hF⟩
  have HF := Lib.hid hF.1
  have HBW := Lib.hid (HBW0.out.trans hF.2.1)
  clear hF HF0 HBW0
  go_wp2_with fail
  refine (HA.out _).mono ?_
  rintro e w2 ⟨a, c, rfl, hc, hsl, hty, hb2⟩
  have HI : UpRel (fun _ => quoteW) [34] w l a 0 w2 := ⟨HF.out.keep hb2, LsT.of hsl hty, HBW.out.trans (hb2.mono HBW.out.size)⟩
  clear hb2 hsl hty HA HF HBW
  have HN := Lib.hid (show l.length = l.length from rfl)
  have HLL := Lib.hid (show l.length ≤ 100000 by have := HL.out; omega)
  generalize hn : l.length = n at hc HN HL HLL
  have HNN := Lib.hid hn
  have hn5 : n ≤ 100000 := HLL.out
  clear HN hn
  go_wp2_with fail
  go_loopw [10] (fun i wr => ∃ k : Nat, i = .int .i64 k ∧ k ≤ n ∧ UpRel (fun _ => quoteW) [34] w l a k wr) (fun i _ => n - (intOf i).toNat)
  case atStart => exact ⟨0, rfl, Nat.zero_le _, HI⟩
  case round =>
    clear HI
    obtain ⟨k, rfl, hk, hr⟩ := hrel
    by_cases hkn : k < n
    · have HU := Lib.hid hr
      have hne : l ≠ [] := by intro e; have := HNN.out; rw [e] at this; simp at this; omega
      obtain ⟨g, off, cs, fr, rfl, _, hcell⟩ := hr.ls hne
      have hck := hcell k (by have := HNN.out; omega)
      have HRC := Lib.hid (show rightC (l.getD k 0) = true from HR.out _ (by
        have := HNN.out
        rw [List.getD_eq_getElem?_getD, List.getElem?_eq_getElem (by omega)]
        exact List.getElem_mem _))
      obtain ⟨c1, hc1⟩ : ∃ c1, Hid (l.getD k 0 = c1) := ⟨_, rfl⟩
      rw [hc1.out] at hck HRC
      have HLEN := Lib.hid (show (upto (fun _ => quoteW) l k).length ≤ 10 * k from upto_length (fun i hi => quoteW_length (HR.out _ (by
        rw [List.getD_eq_getElem?_getD, List.getElem?_eq_getElem hi]
        exact List.getElem_mem _))) k (by have := HNN.out; omega))
      have HBS := Lib.hid hr.below.size
      have HTT := Lib.hid (HT.out.kept hB hr.below)
      have HLB := Lib.hid (show ([34] ++ upto (fun _ => quoteW) l k).length ≤ 2000000 by have := HLEN.out; simp; omega)
      clear hr hcell hne
      by_cases h0 : c1 = 0
      · subst h0
        go_wp2_with fail
        refine (put_any w.heap.size w.heap.size _ 65533 _ HU.out.bl (by decide) (by have := HLB.out; omega) HBS.out).mono ?_
        rintro e w3 ⟨rfl, hW⟩
        have HX := Lib.hid (HU.out.next hW (by
          rw [hc1.out]
          rw [quoteW, if_pos rfl]))
        clear hW HU
        go_wp2_with fail
        refine ⟨⟨k + 1, by go_num, by omega, HX.out⟩, ?_⟩
        simp only [intOf]
        omega
      · have h0b : (c1 == 0) = false := by simp [h0]
        have HN0 := Lib.hid h0
        clear h0
        by_cases hcl : controlC c1 = true
        · have HCL := Lib.hid hcl
          clear hcl
          go_wp2_with fail
          refine (control_at _ _ true HCL.out).mono ?_
          rintro e w3 ⟨rfl, rfl⟩
          go_wp2_with fail
          refine (escape_I w.heap.size w.heap.size _ _ _ HU.out.bl HRC.out (by have := HLB.out; omega) HBS.out hB HTT.out).mono ?_
          rintro e w3 ⟨rfl, hW⟩
          have HX := Lib.hid (HU.out.next hW (by
            rw [hc1.out]
            rw [quoteW, if_neg HN0.out, if_pos HCL.out]))
          clear hW HU
          go_wp2_with fail
          refine ⟨⟨k + 1, by go_num, by omega, HX.out⟩, ?_⟩
          simp only [intOf]
          omega
        · have HCL := Lib.hid (show controlC c1 = false by simpa using hcl)
          clear hcl
          by_cases h34 : c1 = 34
          · subst h34
            go_wp2_with fail
            refine (control_at _ _ false HCL.out).mono ?_
            rintro e w3 ⟨rfl, rfl⟩
            go_wp2_with fail
            refine (wbyte_I w.heap.size w.heap.size _ 92 _ HU.out.bl (by have := HLB.out; omega) HBS.out).mono ?_
            rintro e w3 ⟨rfl, hW0⟩
            have HW0 := Lib.hid hW0
            clear hW0
            go_wp2_with fail
            refine (put_any w.heap.size w.heap.size _ _ _ HW0.out.1 HRC.out (by have := HLB.out; rw [List.length_append]; simp only [List.length_cons, List.length_nil]; omega) (Nat.le_trans HBS.out HW0.out.2.1.size)).mono ?_
            rintro e w4 ⟨rfl, hW1⟩
            have hW := HW0.out.trans hW1
            rw [List.append_assoc] at hW
            clear hW1
            have HX := Lib.hid (HU.out.next hW (by
              rw [hc1.out]
              rw [quoteW, if_neg (by decide), if_neg (by rw [HCL.out]; simp), if_pos (.inl rfl)]
              rfl))
            clear hW HU
            go_wp2_with fail
            refine ⟨⟨k + 1, by go_num, by omega, HX.out⟩, ?_⟩
            simp only [intOf]
            omega
          · have h34b : (c1 == 34) = false := by simp [h34]
            have H34 := Lib.hid h34
            clear h34
            by_cases h92 : c1 = 92
            · subst h92
              go_wp2_with fail
              refine (control_at _ _ false HCL.out).mono ?_
              rintro e w3 ⟨rfl, rfl⟩
              go_wp2_with fail
              refine (wbyte_I w.heap.size w.heap.size _ 92 _ HU.out.bl (by have := HLB.out; omega) HBS.out).mono ?_
              rintro e w3 ⟨rfl, hW0⟩
              have HW0 := Lib.hid hW0
              clear hW0
              go_wp2_with fail
              refine (put_any w.heap.size w.heap.size _ _ _ HW0.out.1 HRC.out (by have := HLB.out; rw [List.length_append]; simp only [List.length_cons, List.length_nil]; omega) (Nat.le_trans HBS.out HW0.out.2.1.size)).mono ?_
              rintro e w4 ⟨rfl, hW1⟩
              have hW := HW0.out.trans hW1
              rw [List.append_assoc] at hW
              clear hW1
              have HX := Lib.hid (HU.out.next hW (by
                rw [hc1.out]
                rw [quoteW, if_neg (by decide), if_neg (by rw [HCL.out]; simp), if_pos (.inr rfl)]
                rfl))
              clear hW HU
              go_wp2_with fail
              refine ⟨⟨k + 1, by go_num, by omega, HX.out⟩, ?_⟩
              simp only [intOf]
              omega
            · have h92b : (c1 == 92) = false := by simp [h92]
              have H92 := Lib.hid h92
              clear h92
              go_wp2_with fail
              refine (control_at _ _ false HCL.out).mono ?_
              rintro e w3 ⟨rfl, rfl⟩
              go_wp2_with fail
              refine (put_any w.heap.size w.heap.size _ _ _ HU.out.bl HRC.out (by have := HLB.out; omega) HBS.out).mono ?_
              rintro e w3 ⟨rfl, hW⟩
              have HX := Lib.hid (HU.out.next hW (by
                rw [hc1.out]
                rw [quoteW, if_neg HN0.out, if_neg (by rw [HCL.out]; simp), if_neg (by rintro (h | h); exact H34.out h; exact H92.out h)]))
              clear hW HU
              go_wp2_with fail
              refine ⟨⟨k + 1, by go_num, by omega, HX.out⟩, ?_⟩
              simp only [intOf]
              omega
    · have hkn' : k = n := by omega
      subst hkn'
      have HU := Lib.hid hr
      have HBS := Lib.hid hr.below.size
      have HLEN := Lib.hid (show (upto (fun _ => quoteW) l k).length ≤ 10 * k from upto_length (fun i hi => quoteW_length (HR.out _ (by
        rw [List.getD_eq_getElem?_getD, List.getElem?_eq_getElem hi]
        exact List.getElem_mem _))) k (by have := HNN.out; omega))
      have HLB := Lib.hid (show ([34] ++ upto (fun _ => quoteW) l k).length ≤ 2000000 by have := HLEN.out; simp; omega)
      clear hr
      go_wp2_with fail
      refine (wbyte_I w.heap.size w.heap.size _ 34 _ HU.out.bl (by have := HLB.out; omega) HBS.out).mono ?_
      rintro e w3 ⟨rfl, hW0⟩
      have HW0 := Lib.hid hW0
      clear hW0
      go_wp2_with fail
      refine (fin_I w.heap.size w.heap.size _ _ HW0.out.1 (BytesOK.of fun z hz => by
        simp only [List.mem_append, List.mem_cons, List.not_mem_nil, or_false] at hz
        rcases hz with (rfl | hz) | rfl
        · decide
        · exact (upto_bytes (fun i hi => quoteW_bytes (HR.out _ (by
            rw [List.getD_eq_getElem?_getD, List.getElem?_eq_getElem hi]
            exact List.getElem_mem _))) k (by have := HNN.out; omega)).mem hz
        · decide) (Nat.le_trans HBS.out HW0.out.2.1.size)).mono ?_
      rintro e w4 ⟨rfl, hb4⟩
      have HB3 := Lib.hid (HU.out.below.trans (HW0.out.2.1.trans hb4))
      have HQ := Lib.hid (show quoteF l = [34] ++ upto (fun _ => quoteW) l k ++ [34] by rw [quoteF, HNN.out]; rfl)
      clear hb4
      go_wp2_with fail
      go_ret
      exact ⟨by rw [HQ.out]; rfl, HB3.out⟩
end Go.Proofs.YtpdcnjlmnilipaaDoor
