/- The walk of chars.Ident. Conditions: math/bits' table lies in memory. -/
import Derived.Test.YtpdcnjlmnilipaaDoorAv2n
set_option linter.unusedVariables false
set_option linter.unusedSimpArgs false
namespace Go.Proofs.YtpdcnjlmnilipaaDoor
open Go.RowKit
theorem escape_I (B b : Nat) (l : List Int) (c : Int) (w : World) (h : IsI B b l w) (hc : rightC c = true) (hlen : l.length ≤ 100000000) (hBw : B ≤ w.heap.size) (hB : 3 < B) (hT : TabT w) :
    Calls Tryd.prog 22 #[.pointer (some ⟨b, 0, none⟩), .int .i64 c] w fun e w' => e = .returned (.tuple #[]) ∧ Wr B b w (l ++ escC c) w' := by
  have hr := rightC_true.1 hc
  have := escape_any B b l c.toNat w h (by omega) hlen hBw hB hT
  rw [show ((c.toNat : Nat) : Int) = c by omega] at this
  exact this
theorem fin_I (B b : Nat) (l : List Int) (w : World) (h : IsI B b l w) (hl : BytesOK l) (hBw : B ≤ w.heap.size) :
    Calls Tryd.prog 25 #[.pointer (some ⟨b, 0, none⟩)] w fun e w' => e = .returned (.string (strOfNums l)) ∧ Below B w w' := by
  refine Tryd.Builder_String_any B b (l.map fun n => UInt8.ofNat n.toNat) w ?_ hBw
  have h2 := h
  unfold IsI IsB at h2
  rw [← strCells_nums hl] at h2
  exact h2
theorem upto_bytes {W : Nat → Int → List Int} {l : List Int} (h : ∀ i, i < l.length → BytesOK (W i (l.getD i 0))) : ∀ i, i ≤ l.length → BytesOK (upto W l i)
  | 0, _ => BytesOK.of (by simp [upto])
  | i + 1, hi => BytesOK.of fun z hz => by
    simp only [upto, List.mem_append] at hz
    rcases hz with hz | hz
    · exact (upto_bytes h i (by omega)).mem hz
    · exact (h i (by omega)).mem hz
theorem put_bytes {c : Int} (h : rightC c = true) : BytesOK (rPut c) := by
  have := rightC_true.1 h
  exact rPut_bytes (by omega) (by omega)
theorem escC_bytes (c : Int) : BytesOK (escC c) := BytesOK.of fun z hz => by
  simp only [escC, List.cons_append, List.mem_cons, List.mem_append, List.not_mem_nil, or_false] at hz
  rcases hz with rfl | hz | rfl
  · decide
  · exact (hexI_bytes _).mem hz
  · decide
theorem cons_bytes {z : Int} {l : List Int} (hz : 0 ≤ z ∧ z < 256) (h : BytesOK l) : BytesOK (z :: l) := BytesOK.of fun y hy => by
  rcases List.mem_cons.1 hy with rfl | hy
  · exact hz
  · exact h.mem hy
theorem identW_bytes {n i : Nat} {f c : Int} (h : rightC c = true) : BytesOK (identW n f i c) := by
  unfold identW
  repeat' split
  · exact put_bytes (by decide)
  · exact escC_bytes c
  · exact put_bytes h
  · exact cons_bytes (by decide) (put_bytes h)
theorem quoteW_bytes {c : Int} (h : rightC c = true) : BytesOK (quoteW c) := by
  unfold quoteW
  repeat' split
  · exact put_bytes (by decide)
  · exact escC_bytes c
  · exact cons_bytes (by decide) (put_bytes h)
  · exact put_bytes h
set_option maxHeartbeats 4000000 in
set_option maxRecDepth 100000 in
theorem ident_any (w : World) (s : ByteArray) (hs : s.size ≤ 100000) (hB : 3 < w.heap.size) (hT : TabT w) :
    Calls Tryd.prog 8 #[.string s] w (RetV w (.string (strOfNums (identF (rawChars (bytesI s)))))) := by
  have HL := Lib.hid (raw_length _ (bytesI s) (Nat.le_refl _))
  have HR := Lib.hid (raw_right _ (bytesI s) (Nat.le_refl _) (bytesI_ok s))
  rw [bytesI_length] at HL
  have HT := Lib.hid hT
  have HA := Lib.hid (fun w => all_any w s (by omega))
  clear hT
  generalize rawChars (bytesI s) = l at *
  go_enter Tryd.func8, Tryd.ntmps8
  go_wp2_with fail
  have HF := Lib.hid (show IsI w.heap.size w.heap.size [] (w.alloc (.cells #[.pointer none, .slice none 0 0] 34)) from Lib.fresh_isBuilder 34 5 w)
  have HBW := Lib.hid ((Below.refl w.heap.size w).alloc (Nat.le_refl _) (.cells #[.pointer none, .slice none 0 0] 34))
  generalize w.alloc (.cells #[.pointer none, .slice none 0 0] 34) = w1 at *
  refine (HA.out _).mono ?_
  rintro e w2 ⟨a, c, rfl, hc, hsl, hty, hb2⟩
  have HI : UpRel (identW l.length (l.getD 0 0)) [] w l a 0 w2 := ⟨HF.out.keep hb2, LsT.of hsl hty, HBW.out.trans (hb2.mono HBW.out.size)⟩
  clear hb2 hsl hty HA HF HBW
  have HN := Lib.hid (show l.length = l.length from rfl)
  have HLL := Lib.hid (show l.length ≤ 100000 by have := HL.out; omega)
  generalize hn : l.length = n at HI hc HN HL HLL
  generalize hf : l.getD 0 0 = f at HI
  have HNN := Lib.hid hn
  have HFF := Lib.hid hf
  have hn5 : n ≤ 100000 := HLL.out
  clear hf HN hn
  go_wp2_with fail
  go_loopw [11] (fun i wr => ∃ k : Nat, i = .int .i64 k ∧ k ≤ n ∧ UpRel (identW n f) [] w l a k wr) (fun i _ => n - (intOf i).toNat)
  case atStart => exact ⟨0, rfl, Nat.zero_le _, HI⟩
  case round =>
    clear HI
    obtain ⟨k, rfl, hk, hr⟩ := hrel
    by_cases hkn : k < n
    · have HU := Lib.hid hr
      have hne : l ≠ [] := by intro e; have := HNN.out; rw [e] at this; simp at this; omega
      obtain ⟨g, off, cs, fr, rfl, _, hcell⟩ := hr.ls hne
      have hc0 := hcell 0 (by have := HNN.out; omega)
      have hck := hcell k (by have := HNN.out; omega)
      rw [HFF.out, Nat.add_zero] at hc0
      have HRC := Lib.hid (show rightC (l.getD k 0) = true from HR.out _ (by
        have := HNN.out
        rw [List.getD_eq_getElem?_getD, List.getElem?_eq_getElem (by omega)]
        exact List.getElem_mem _))
      obtain ⟨c1, hc1⟩ : ∃ c1, Hid (l.getD k 0 = c1) := ⟨_, rfl⟩
      rw [hc1.out] at hck HRC
      have HLEN := Lib.hid (show (upto (identW n f) l k).length ≤ 10 * k from upto_length (fun i hi => identW_length (HR.out _ (by
        rw [List.getD_eq_getElem?_getD, List.getElem?_eq_getElem hi]
        exact List.getElem_mem _))) k (by have := HNN.out; omega))
      have HBS := Lib.hid hr.below.size
      have HTT := Lib.hid (HT.out.kept hB hr.below)
      have hwr : wr.heap.size = wr.heap.size := rfl
      have HLB := Lib.hid (show ([] ++ upto (identW n f) l k).length ≤ 2000000 by have := HLEN.out; simp; omega)
      have HRNG := Lib.hid (show 0 ≤ c1 ∧ c1 ≤ 1114111 from ⟨(rightC_true.1 HRC.out).1, (rightC_true.1 HRC.out).2.1⟩)
      clear hr hcell hne hwr
      by_cases h0 : c1 = 0
      · subst h0
        go_wp2_with fail
        refine (put_any w.heap.size w.heap.size _ 65533 _ HU.out.bl (by decide) (by have := HLB.out; omega) HBS.out).mono ?_
        rintro e w3 ⟨rfl, hW⟩
        have HX := Lib.hid (HU.out.next hW (by
          rw [hc1.out]
          rw [identW, if_pos rfl]))
        clear hW HU
        go_wp2_with fail
        refine ⟨⟨k + 1, by go_num, by omega, HX.out⟩, ?_⟩
        simp only [intOf]
        omega
      · have h0b : (c1 == 0) = false := by simp [h0]
        have HN0 := Lib.hid h0
        clear h0
        by_cases hcl : controlC c1 = true
        · have HCL := Lib.hid hcl
          clear hcl
          go_wp2_with fail
          refine (control_at _ _ true HCL.out).mono ?_
          rintro e w3 ⟨rfl, rfl⟩
          go_wp2_with fail
          refine (escape_I w.heap.size w.heap.size _ _ _ HU.out.bl HRC.out (by have := HLB.out; omega) HBS.out hB HTT.out).mono ?_
          rintro e w3 ⟨rfl, hW⟩
          have HX := Lib.hid (HU.out.next hW (by
            rw [hc1.out]
            rw [identW, if_neg HN0.out, if_pos (.inl HCL.out)]))
          clear hW HU
          go_wp2_with fail
          refine ⟨⟨k + 1, by go_num, by omega, HX.out⟩, ?_⟩
          simp only [intOf]
          omega
        · have HCL := Lib.hid (show controlC c1 = false by simpa using hcl)
          clear hcl
          by_cases hm : c1 = 65279
          · subst hm
            go_wp2_with fail
            refine (control_at _ _ false HCL.out).mono ?_
            rintro e w3 ⟨rfl, rfl⟩
            go_wp2_with fail
            refine (escape_I w.heap.size w.heap.size _ _ _ HU.out.bl HRC.out (by have := HLB.out; omega) HBS.out hB HTT.out).mono ?_
            rintro e w3 ⟨rfl, hW⟩
            have HX := Lib.hid (HU.out.next hW (by
              rw [hc1.out]
              rw [identW, if_neg (by decide), if_pos (.inr (.inl rfl))]))
            clear hW HU
            go_wp2_with fail
            refine ⟨⟨k + 1, by go_num, by omega, HX.out⟩, ?_⟩
            simp only [intOf]
            omega
          · have hmb : (c1 == 65279) = false := by simp [hm]
            have HM := Lib.hid hm
            clear hm
            by_cases hd : digitC c1 = true
            · have HD := Lib.hid hd
              clear hd
              by_cases hk0 : k = 0
              · subst hk0
                obtain rfl : c1 = f := by rw [← hc1.out, ← HFF.out]
                clear hck
                go_wp2_with fail
                refine (control_at _ _ false HCL.out).mono ?_
                rintro e w3 ⟨rfl, rfl⟩
                go_wp2_with fail
                refine (digit_at _ _ true HD.out).mono ?_
                rintro e w3 ⟨rfl, rfl⟩
                go_wp2_with fail
                refine (escape_I w.heap.size w.heap.size _ _ _ HU.out.bl HRC.out (by have := HLB.out; omega) HBS.out hB HTT.out).mono ?_
                rintro e w3 ⟨rfl, hW⟩
                have HX := Lib.hid (HU.out.next hW (by
                  rw [hc1.out]
                  rw [identW, if_neg HN0.out, if_pos (.inr (.inr ⟨HD.out, .inl rfl⟩))]))
                clear hW HU
                go_wp2_with fail
                refine ⟨⟨0 + 1, by go_num, by omega, HX.out⟩, ?_⟩
                simp only [intOf]
                omega
              · by_cases hk1 : k = 1
                · subst hk1
                  by_cases hf45 : f = 45
                  · subst hf45
                    go_wp2_with fail
                    refine (control_at _ _ false HCL.out).mono ?_
                    rintro e w3 ⟨rfl, rfl⟩
                    go_wp2_with fail
                    refine (digit_at _ _ true HD.out).mono ?_
                    rintro e w3 ⟨rfl, rfl⟩
                    go_wp2_with fail
                    refine (escape_I w.heap.size w.heap.size _ _ _ HU.out.bl HRC.out (by have := HLB.out; omega) HBS.out hB HTT.out).mono ?_
                    rintro e w3 ⟨rfl, hW⟩
                    have HX := Lib.hid (HU.out.next hW (by
                      rw [hc1.out]
                      rw [identW, if_neg HN0.out, if_pos (.inr (.inr ⟨HD.out, .inr ⟨rfl, rfl⟩⟩))]))
                    clear hW HU
                    go_wp2_with fail
                    refine ⟨⟨1 + 1, by go_num, by omega, HX.out⟩, ?_⟩
                    simp only [intOf]
                    omega
                  · have hf45b : (f == 45) = false := by simp [hf45]
                    have HF45 := Lib.hid hf45
                    clear hf45
                    have HNM := Lib.hid (show nameC c1 = true by rw [nameC, HD.out]; simp)
                    have h45 := Lib.hid (show ¬ c1 = 45 by rintro rfl; have := HD.out; revert this; decide)
                    have h45b : (c1 == 45) = false := by simp [h45.out]
                    go_wp2_with fail
                    refine (control_at _ _ false HCL.out).mono ?_
                    rintro e w3 ⟨rfl, rfl⟩
                    go_wp2_with fail
                    refine (digit_at _ _ true HD.out).mono ?_
                    rintro e w3 ⟨rfl, rfl⟩
                    go_wp2_with fail
                    refine (name_at _ _ true HRNG.out HNM.out).mono ?_
                    rintro e w3 ⟨rfl, rfl⟩
                    go_wp2_with fail
                    refine (put_any w.heap.size w.heap.size _ _ _ HU.out.bl HRC.out (by have := HLB.out; omega) HBS.out).mono ?_
                    rintro e w3 ⟨rfl, hW⟩
                    have HX := Lib.hid (HU.out.next hW (by
                      rw [hc1.out]
                      rw [identW, if_neg HN0.out, if_neg (by rw [HCL.out]; simp [HM.out, HF45.out]), if_pos ⟨HNM.out, fun h => h45.out h.1⟩]))
                    clear hW HU
                    go_wp2_with fail
                    refine ⟨⟨1 + 1, by go_num, by omega, HX.out⟩, ?_⟩
                    simp only [intOf]
                    omega
                · have hk0b : ((k : Int) == 0) = false := by simp; omega
                  have hk1b : ((k : Int) == 1) = false := by simp; omega
                  have HK := Lib.hid hk0
                  have HK1 := Lib.hid hk1
                  clear hk0 hk1
                  have HNM := Lib.hid (show nameC c1 = true by rw [nameC, HD.out]; simp)
                  have h45 := Lib.hid (show ¬ c1 = 45 by rintro rfl; have := HD.out; revert this; decide)
                  have h45b : (c1 == 45) = false := by simp [h45.out]
                  go_wp2_with fail
                  refine (control_at _ _ false HCL.out).mono ?_
                  rintro e w3 ⟨rfl, rfl⟩
                  go_wp2_with fail
                  refine (digit_at _ _ true HD.out).mono ?_
                  rintro e w3 ⟨rfl, rfl⟩
                  go_wp2_with fail
                  refine (name_at _ _ true HRNG.out HNM.out).mono ?_
                  rintro e w3 ⟨rfl, rfl⟩
                  go_wp2_with fail
                  refine (put_any w.heap.size w.heap.size _ _ _ HU.out.bl HRC.out (by have := HLB.out; omega) HBS.out).mono ?_
                  rintro e w3 ⟨rfl, hW⟩
                  have HX := Lib.hid (HU.out.next hW (by
                    rw [hc1.out]
                    rw [identW, if_neg HN0.out, if_neg (by rw [HCL.out]; simp [HM.out, HK.out, HK1.out]), if_pos ⟨HNM.out, fun h => h45.out h.1⟩]))
                  clear hW HU
                  go_wp2_with fail
                  refine ⟨⟨k + 1, by go_num, by omega, HX.out⟩, ?_⟩
                  simp only [intOf]
                  omega
            · have HD := Lib.hid (show digitC c1 = false by simpa using hd)
              clear hd
              by_cases hnm : nameC c1 = true
              · have HNM := Lib.hid hnm
                clear hnm
                by_cases h45 : c1 = 45
                · subst h45
                  by_cases hn1 : n = 1
                  · have hn1b : ((n : Int) == 1) = true := by simp; omega
                    have HN1 := Lib.hid hn1
                    clear hn1
                    go_wp2_with fail
                    refine (control_at _ _ false HCL.out).mono ?_
                    rintro e w3 ⟨rfl, rfl⟩
                    go_wp2_with fail
                    refine (digit_at _ _ false HD.out).mono ?_
                    rintro e w3 ⟨rfl, rfl⟩
                    go_wp2_with fail
                    refine (name_at _ _ true HRNG.out HNM.out).mono ?_
                    rintro e w3 ⟨rfl, rfl⟩
                    go_wp2_with fail
                    refine (wbyte_I w.heap.size w.heap.size _ 92 _ HU.out.bl (by have := HLB.out; omega) HBS.out).mono ?_
                    rintro e w3 ⟨rfl, hW0⟩
                    have HW0 := Lib.hid hW0
                    clear hW0
                    go_wp2_with fail
                    refine (put_any w.heap.size w.heap.size _ _ _ HW0.out.1 HRC.out (by have := HLB.out; rw [List.length_append]; simp only [List.length_cons, List.length_nil]; omega) (Nat.le_trans HBS.out HW0.out.2.1.size)).mono ?_
                    rintro e w4 ⟨rfl, hW1⟩
                    have hW := HW0.out.trans hW1
                    rw [List.append_assoc] at hW
                    clear hW1
                    have HX := Lib.hid (HU.out.next hW (by
                      rw [hc1.out]
                      rw [identW, if_neg (by decide), if_neg (by rw [HCL.out, HD.out]; simp), if_neg (by rw [HN1.out]; simp)]
                      rfl))
                    clear hW HU
                    go_wp2_with fail
                    refine ⟨⟨k + 1, by go_num, by omega, HX.out⟩, ?_⟩
                    simp only [intOf]
                    omega
                  · have hn1b : ((n : Int) == 1) = false := by simp; omega
                    have HN1 := Lib.hid hn1
                    clear hn1
                    go_wp2_with fail
                    refine (control_at _ _ false HCL.out).mono ?_
                    rintro e w3 ⟨rfl, rfl⟩
                    go_wp2_with fail
                    refine (digit_at _ _ false HD.out).mono ?_
                    rintro e w3 ⟨rfl, rfl⟩
                    go_wp2_with fail
                    refine (name_at _ _ true HRNG.out HNM.out).mono ?_
                    rintro e w3 ⟨rfl, rfl⟩
                    go_wp2_with fail
                    refine (put_any w.heap.size w.heap.size _ 45 _ HU.out.bl HRC.out (by have := HLB.out; omega) HBS.out).mono ?_
                    rintro e w3 ⟨rfl, hW⟩
                    have HX := Lib.hid (HU.out.next hW (by
                      rw [hc1.out]
                      rw [identW, if_neg (by decide), if_neg (by rw [HCL.out, HD.out]; simp), if_pos ⟨HNM.out, fun h => HN1.out h.2⟩]))
                    clear hW HU
                    go_wp2_with fail
                    refine ⟨⟨k + 1, by go_num, by omega, HX.out⟩, ?_⟩
                    simp only [intOf]
                    omega
                · have h45b : (c1 == 45) = false := by simp [h45]
                  have H45 := Lib.hid h45
                  clear h45
                  go_wp2_with fail
                  refine (control_at _ _ false HCL.out).mono ?_
                  rintro e w3 ⟨rfl, rfl⟩
                  go_wp2_with fail
                  refine (digit_at _ _ false HD.out).mono ?_
                  rintro e w3 ⟨rfl, rfl⟩
                  go_wp2_with fail
                  refine (name_at _ _ true HRNG.out HNM.out).mono ?_
                  rintro e w3 ⟨rfl, rfl⟩
                  go_wp2_with fail
                  refine (put_any w.heap.size w.heap.size _ _ _ HU.out.bl HRC.out (by have := HLB.out; omega) HBS.out).mono ?_
                  rintro e w3 ⟨rfl, hW⟩
                  have HX := Lib.hid (HU.out.next hW (by
                    rw [hc1.out]
                    rw [identW, if_neg HN0.out, if_neg (by rw [HCL.out, HD.out]; simp [HM.out]), if_pos ⟨HNM.out, fun h => H45.out h.1⟩]))
                  clear hW HU
                  go_wp2_with fail
                  refine ⟨⟨k + 1, by go_num, by omega, HX.out⟩, ?_⟩
                  simp only [intOf]
                  omega
              · have HNM := Lib.hid (show nameC c1 = false by simpa using hnm)
                clear hnm
                go_wp2_with fail
                refine (control_at _ _ false HCL.out).mono ?_
                rintro e w3 ⟨rfl, rfl⟩
                go_wp2_with fail
                refine (digit_at _ _ false HD.out).mono ?_
                rintro e w3 ⟨rfl, rfl⟩
                go_wp2_with fail
                refine (name_at _ _ false HRNG.out HNM.out).mono ?_
                rintro e w3 ⟨rfl, rfl⟩
                go_wp2_with fail
                refine (wbyte_I w.heap.size w.heap.size _ 92 _ HU.out.bl (by have := HLB.out; omega) HBS.out).mono ?_
                rintro e w3 ⟨rfl, hW0⟩
                have HW0 := Lib.hid hW0
                clear hW0
                go_wp2_with fail
                refine (put_any w.heap.size w.heap.size _ _ _ HW0.out.1 HRC.out (by have := HLB.out; rw [List.length_append]; simp only [List.length_cons, List.length_nil]; omega) (Nat.le_trans HBS.out HW0.out.2.1.size)).mono ?_
                rintro e w4 ⟨rfl, hW1⟩
                have hW := HW0.out.trans hW1
                rw [List.append_assoc] at hW
                clear hW1
                have HX := Lib.hid (HU.out.next hW (by
                  rw [hc1.out]
                  rw [identW, if_neg HN0.out, if_neg (by rw [HCL.out, HD.out]; simp [HM.out]), if_neg (by rw [HNM.out]; simp)]
                  rfl))
                clear hW HU
                go_wp2_with fail
                refine ⟨⟨k + 1, by go_num, by omega, HX.out⟩, ?_⟩
                simp only [intOf]
                omega
    · have hkn' : k = n := by omega
      subst hkn'
      have HU := Lib.hid hr
      have HBS := Lib.hid hr.below.size
      clear hr
      go_wp2_with fail
      refine (fin_I w.heap.size w.heap.size _ _ HU.out.bl (by
        rw [List.nil_append]
        exact upto_bytes (fun i hi => identW_bytes (HR.out _ (by
          rw [List.getD_eq_getElem?_getD, List.getElem?_eq_getElem hi]
          exact List.getElem_mem _))) k (by have := HNN.out; omega)) HBS.out).mono ?_
      rintro e w3 ⟨rfl, hb3⟩
      have HB3 := Lib.hid (HU.out.below.trans hb3)
      have HQ := Lib.hid (show identF l = [] ++ upto (identW k f) l k by rw [identF, HFF.out, HNN.out]; rfl)
      clear hb3
      go_wp2_with fail
      go_ret
      exact ⟨by rw [HQ.out]; rfl, HB3.out⟩
end Go.Proofs.YtpdcnjlmnilipaaDoor
