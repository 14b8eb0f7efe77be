/- The evaluator, in one text: over any program; no conditions but those that each law names. -/
import Derived.Test.YtaghfmgeccapbaaGreatDoorAvsc
import Derived.Test.YtaghfmgeccapbaaGreatDoorAvsa
import Derived.Test.YtaghfmgeccapbaaGreatDoorAvsb
set_option linter.unusedSimpArgs false
set_option linter.unusedVariables false
set_option linter.unusedSectionVars false
set_option maxRecDepth 100000
namespace Go.Av
open Go.Proofs Go.Proofs.YtaghfmgeccapbaaGreatDoor
variable [Rk] {chk : List D → Bool}
def IV (zs : List Int) (n : Nat) (st : St) : Prop := ∃ rs : List Int, st.slot 0 = .list (rs.map (D.int .u8)) ∧ Hd (BytesOK rs) ∧ Hd (rs.length ≤ n) ∧ Hd (validB rs = validB zs) ∧ st.slot 2 = .bool false ∧ st.room 2 = []
theorem map_drop (rs : List Int) (k : Nat) : (rs.map (D.int .u8)).drop k = (rs.drop k).map (D.int .u8) := List.map_drop.symm
theorem BytesOK.get {rs : List Int} (h : BytesOK rs) {i : Nat} (hi : i < rs.length) : ∃ x : Int, rs.getD i 0 = x ∧ 0 ≤ x ∧ x < 256 ∧ (rs.map (D.int .u8)).getD i .bad = .int .u8 x :=
  ⟨_, rfl, (h i hi).1, (h i hi).2, map_getD rs i hi⟩
theorem wi1 : IntKind.i64.wrap 1 = 1 := rfl
theorem wi2 : IntKind.i64.wrap 2 = 2 := rfl
theorem wi3 : IntKind.i64.wrap 3 = 3 := rfl
theorem wi4 : IntKind.i64.wrap 4 = 4 := rfl
set_option maxHeartbeats 16000000 in
theorem valid_L (zs : List Int) (hz : BytesOK zs) (hl : zs.length < 1000000000) : callL Tryz.prog (ext11b chk) 85 [.list (zs.map (D.int .u8))] [] = some (.bool (validB zs), [.no], []) := by
  have hlN : (zs.map (D.int .u8)).length = zs.length := by simp
  have hta : (zs.map (D.int .u8)).take zs.length = zs.map (D.int .u8) := by rw [← hlN, List.take_length]
  have hll : (zs.length : Int) ≤ zs.length := Int.le_refl _
  have hz' := Hd.mk hz
  clear hz
  refine cK 188 2 Tryz.func85 ?_
  refine Gu ?_
  refine loopH (IV zs zs.length) (fun st => slotL st 0) ?_ ?_
  · refine ⟨zs, ?_, hz', Nat.le_refl _, rfl, ?_, ?_⟩
    all_goals simp only [*, AVB, ↓reduceIte, Nat.reduceEqDiff, Nat.reduceLT, Nat.reduceLeDiff, reduceCtorEq, Nat.reduceBEq, String.reduceBEq, Nat.reduceAdd, Nat.reduceSub, Nat.reduceMul, Int.reduceLE, Int.reduceLT, Int.reduceToNat, Int.reduceBEq, Int.reduceBNe, List.zipWith, ty124, ty126, ty127, fap0, fap1, dp126, ia124, ia127, sl81m, cv53, cv512, cv5129, cv12912, zr126, szU8, takeM, and_w, or_w, and_8, ib_add, ib_sub, ib_eql, ib_neq, ib_lss, ib_leq, ib_gtr, ib_geq, shl8, shl16, shl24, shl32, shl40, shl48, shl56, gl2, gl3]
  · rintro st K ⟨rs, h0, hok, hle, hv, h2, hr2⟩ hn hx hr
    clear hlN hta hll hz'
    have lN : (rs.map (D.int .u8)).length = rs.length := List.length_map ..
    by_cases hpos : 0 < rs.length
    · have p0 : (0 : Int) < rs.length := by omega
      have HP := Hd.mk hpos
      have ok0 : BytesOK rs := hok
      have v0 : validB rs = validB zs := hv
      obtain ⟨x0, e0, m0, n0, g0⟩ := BytesOK.get ok0 hpos
      by_cases hx0 : x0 < 128
      · have hb1 : (1 : Int) ≤ rs.length := by omega
        have hd1 := map_drop rs 1
        obtain ⟨r1, er1⟩ : ∃ r1, rs.drop 1 = r1 := ⟨_, rfl⟩
        have ok1 : BytesOK r1 := by rw [← er1]; exact ok0.drop 1
        have v1 : validB r1 = validB zs := by rw [← er1, v1_ok (by omega) (by rw [e0]; exact hx0), v0]
        have b1 : r1.length + 1 = rs.length := by rw [← er1, List.length_drop]; omega
        have l1N : (r1.map (D.int .u8)).length = r1.length := List.length_map ..
        rw [er1] at hd1
        by_cases q8 : (8 : Int) < r1.length
        · have hc1 := word_L (chk := chk) r1 ok1 (by omega)
          cases t1 : (bits .and .u64 (wordL r1 : Nat) 9259542123273814144 == 0) with
          | false =>
            have OKF := Hd.mk ok1; have VF := Hd.mk v1; have BF := Hd.mk (show r1.length ≤ rs.length by omega); have BL := Hd.mk (show r1.length < rs.length by omega)
            clear er1 ok1 v1 b1 ok0 v0 hpos e0 hok hv
            refine Gu ?_
            refine hn _ ⟨r1, ?_, OKF, ?_, VF, ?_, ?_⟩ ?_
            ·exact L
            · exact Nat.le_trans (show (r1).length ≤ rs.length from BF) (show rs.length ≤ zs.length from hle)
            ·exact L
            ·exact L
            · have : (r1).length < rs.length := BL
              simp only [slotL, *, AVB, ↓reduceIte, Nat.reduceEqDiff, Nat.reduceLT, Nat.reduceLeDiff, reduceCtorEq, Nat.reduceBEq, String.reduceBEq, Nat.reduceAdd, Nat.reduceSub, Nat.reduceMul, Int.reduceLE, Int.reduceLT, Int.reduceToNat, Int.reduceBEq, Int.reduceBNe, List.zipWith, ty124, ty126, ty127, fap0, fap1, dp126, ia124, ia127, sl81m, cv53, cv512, cv5129, cv12912, zr126, szU8, takeM, and_w, or_w, and_8, ib_add, ib_sub, ib_eql, ib_neq, ib_lss, ib_leq, ib_gtr, ib_geq, shl8, shl16, shl24, shl32, shl40, shl48, shl56, gl2, gl3]
              first | done | omega
          | true =>
            have hb8 : (8 : Int) ≤ r1.length := by omega
            have hd8 := map_drop r1 8
            obtain ⟨r2, er2⟩ : ∃ r2, r1.drop 8 = r2 := ⟨_, rfl⟩
            have ok2 : BytesOK r2 := by rw [← er2]; exact ok1.drop 8
            have v2 : validB r2 = validB zs := by rw [← er2, validB_skip 8 r1 (by omega) (low1 ok1 (by omega) t1), v1]
            have b2 : r2.length + 8 = r1.length := by rw [← er2, List.length_drop]; omega
            have l2N : (r2.map (D.int .u8)).length = r2.length := List.length_map ..
            rw [er2] at hd8
            by_cases q16 : (16 : Int) < r2.length
            · have hb28 : (8 : Int) ≤ r2.length := by omega
              have hd28 := map_drop r2 8
              have hc2 := word_L (chk := chk) r2 ok2 (by omega)
              have hc2b := word_L (chk := chk) (r2.drop 8) (ok2.drop 8) (by rw [List.length_drop]; omega)
              cases t2 : (bits .and .u64 (bits .or .u64 (wordL r2 : Nat) (wordL (r2.drop 8) : Nat)) 9259542123273814144 == 0) with
              | false =>
                have OKF := Hd.mk ok2; have VF := Hd.mk v2; have BF := Hd.mk (show r2.length ≤ rs.length by omega); have BL := Hd.mk (show r2.length < rs.length by omega)
                clear er1 er2 ok1 ok2 v1 v2 b1 b2 ok0 v0 hpos e0 hok hv
                refine Qu ?_
                refine hn _ ⟨r2, ?_, OKF, ?_, VF, ?_, ?_⟩ ?_
                ·exact L
                · exact Nat.le_trans (show (r2).length ≤ rs.length from BF) (show rs.length ≤ zs.length from hle)
                ·exact L
                ·exact L
                · have : (r2).length < rs.length := BL
                  simp only [slotL, *, AVB, ↓reduceIte, Nat.reduceEqDiff, Nat.reduceLT, Nat.reduceLeDiff, reduceCtorEq, Nat.reduceBEq, String.reduceBEq, Nat.reduceAdd, Nat.reduceSub, Nat.reduceMul, Int.reduceLE, Int.reduceLT, Int.reduceToNat, Int.reduceBEq, Int.reduceBNe, List.zipWith, ty124, ty126, ty127, fap0, fap1, dp126, ia124, ia127, sl81m, cv53, cv512, cv5129, cv12912, zr126, szU8, takeM, and_w, or_w, and_8, ib_add, ib_sub, ib_eql, ib_neq, ib_lss, ib_leq, ib_gtr, ib_geq, shl8, shl16, shl24, shl32, shl40, shl48, shl56, gl2, gl3]
                  first | done | omega
              | true =>
                have hb16 : (16 : Int) ≤ r2.length := by omega
                have hd16 := map_drop r2 16
                obtain ⟨r3, er3⟩ : ∃ r3, r2.drop 16 = r3 := ⟨_, rfl⟩
                have ok3 : BytesOK r3 := by rw [← er3]; exact ok2.drop 16
                have v3 : validB r3 = validB zs := by rw [← er3, validB_skip 16 r2 (by omega) (low2 ok2 (by omega) t2), v2]
                have b3 : r3.length + 16 = r2.length := by rw [← er3, List.length_drop]; omega
                rw [er3] at hd16
                have OK3 := Hd.mk ok3; have V3 := Hd.mk v3; have B3 := Hd.mk (show r3.length < rs.length by omega)
                clear er1 er2 er3 ok1 ok2 ok3 v1 v2 v3 b1 b2 b3 ok0 v0 hpos e0 hok hv
                refine Qu ?_
                clear hd1 hd8 hd28 hd16 hc1 hc2 hc2b t1 t2 q8 q16 hb1 hb8 hb28 hb16 l1N l2N
                refine loopH (IV zs r3.length) (fun st => slotL st 0) ?_ ?_
                · refine ⟨r3, ?_, OK3, Nat.le_refl _, V3, ?_, ?_⟩
                  all_goals simp only [*, AVB, ↓reduceIte, Nat.reduceEqDiff, Nat.reduceLT, Nat.reduceLeDiff, reduceCtorEq, Nat.reduceBEq, String.reduceBEq, Nat.reduceAdd, Nat.reduceSub, Nat.reduceMul, Int.reduceLE, Int.reduceLT, Int.reduceToNat, Int.reduceBEq, Int.reduceBNe, List.zipWith, ty124, ty126, ty127, fap0, fap1, dp126, ia124, ia127, sl81m, cv53, cv512, cv5129, cv12912, zr126, szU8, takeM, and_w, or_w, and_8, ib_add, ib_sub, ib_eql, ib_neq, ib_lss, ib_leq, ib_gtr, ib_geq, shl8, shl16, shl24, shl32, shl40, shl48, shl56, gl2, gl3]
                · rintro st' K' ⟨ps, h0', OKF, BP, VF, h2', hr2'⟩ hn' hx' hr'
                  clear h2 hr2
                  have lPN : (ps.map (D.int .u8)).length = ps.length := List.length_map ..
                  have BF : Hd (ps.length ≤ rs.length) := by
                    have h1 : ps.length ≤ r3.length := BP
                    have h2 : r3.length < rs.length := B3
                    exact Nat.le_trans h1 (Nat.le_of_lt h2)
                  have BL : Hd (ps.length < rs.length) := by
                    have h1 : ps.length ≤ r3.length := BP
                    have h2 : r3.length < rs.length := B3
                    exact Nat.lt_of_le_of_lt h1 h2
                  by_cases q32 : (32 : Int) < ps.length
                  · have okp : BytesOK ps := OKF
                    have vp : validB ps = validB zs := VF
                    have k1 : (8 : Int) ≤ ps.length := by omega
                    have k2 : (16 : Int) ≤ ps.length := by omega
                    have k3 : (24 : Int) ≤ ps.length := by omega
                    have k4 : (32 : Int) ≤ ps.length := by omega
                    have hd8 := map_drop ps 8
                    have hd16 := map_drop ps 16
                    have hd24 := map_drop ps 24
                    have hd32 := map_drop ps 32
                    have c0 := word_L (chk := chk) ps okp (by omega)
                    have c1 := word_L (chk := chk) (ps.drop 8) (okp.drop 8) (by rw [List.length_drop]; omega)
                    have c2 := word_L (chk := chk) (ps.drop 16) (okp.drop 16) (by rw [List.length_drop]; omega)
                    have c3 := word_L (chk := chk) (ps.drop 24) (okp.drop 24) (by rw [List.length_drop]; omega)
                    cases t4 : (bits .and .u64 (bits .or .u64 (bits .or .u64 (wordL ps : Nat) (wordL (ps.drop 8) : Nat)) (bits .or .u64 (wordL (ps.drop 16) : Nat) (wordL (ps.drop 24) : Nat))) 9259542123273814144 == 0) with
                    | false =>
                      clear okp vp
                      refine Qu ?_
                      refine hx' _ _ ?_
                      refine Gu ?_
                      refine hn _ ⟨ps, ?_, OKF, ?_, VF, ?_, ?_⟩ ?_
                      ·exact L
                      · exact Nat.le_trans (show (ps).length ≤ rs.length from BF) (show rs.length ≤ zs.length from hle)
                      ·exact L
                      ·exact L
                      · have : (ps).length < rs.length := BL
                        simp only [slotL, *, AVB, ↓reduceIte, Nat.reduceEqDiff, Nat.reduceLT, Nat.reduceLeDiff, reduceCtorEq, Nat.reduceBEq, String.reduceBEq, Nat.reduceAdd, Nat.reduceSub, Nat.reduceMul, Int.reduceLE, Int.reduceLT, Int.reduceToNat, Int.reduceBEq, Int.reduceBNe, List.zipWith, ty124, ty126, ty127, fap0, fap1, dp126, ia124, ia127, sl81m, cv53, cv512, cv5129, cv12912, zr126, szU8, takeM, and_w, or_w, and_8, ib_add, ib_sub, ib_eql, ib_neq, ib_lss, ib_leq, ib_gtr, ib_geq, shl8, shl16, shl24, shl32, shl40, shl48, shl56, gl2, gl3]
                        first | done | omega
                    | true =>
                      have N1 := Hd.mk (show BytesOK (ps.drop 32) from okp.drop 32)
                      have N2 := Hd.mk (show (ps.drop 32).length ≤ r3.length by have h1 : ps.length ≤ r3.length := BP; rw [List.length_drop]; omega)
                      have N3 := Hd.mk (show validB (ps.drop 32) = validB zs by rw [validB_skip 32 ps (by omega) (low4 okp (by omega) t4), vp])
                      have N4 := Hd.mk (show (ps.drop 32).length < ps.length by rw [List.length_drop]; omega)
                      have N5 : ((ps.drop 32).map (D.int .u8)).length = (ps.drop 32).length := List.length_map ..
                      clear okp vp
                      refine Qu ?_
                      refine hn' _ ⟨ps.drop 32, L, N1, N2, N3, L, L⟩ ?_
                      · have : (ps.drop 32).length < ps.length := N4
                        simp only [slotL, *, AVB, ↓reduceIte, Nat.reduceEqDiff, Nat.reduceLT, Nat.reduceLeDiff, reduceCtorEq, Nat.reduceBEq, String.reduceBEq, Nat.reduceAdd, Nat.reduceSub, Nat.reduceMul, Int.reduceLE, Int.reduceLT, Int.reduceToNat, Int.reduceBEq, Int.reduceBNe, List.zipWith, ty124, ty126, ty127, fap0, fap1, dp126, ia124, ia127, sl81m, cv53, cv512, cv5129, cv12912, zr126, szU8, takeM, and_w, or_w, and_8, ib_add, ib_sub, ib_eql, ib_neq, ib_lss, ib_leq, ib_gtr, ib_geq, shl8, shl16, shl24, shl32, shl40, shl48, shl56, gl2, gl3]
                  · refine Qu ?_
                    refine hx' _ _ ?_
                    refine Gu ?_
                    refine hn _ ⟨ps, ?_, OKF, ?_, VF, ?_, ?_⟩ ?_
                    ·exact L
                    · exact Nat.le_trans (show (ps).length ≤ rs.length from BF) (show rs.length ≤ zs.length from hle)
                    ·exact L
                    ·exact L
                    · have : (ps).length < rs.length := BL
                      simp only [slotL, *, AVB, ↓reduceIte, Nat.reduceEqDiff, Nat.reduceLT, Nat.reduceLeDiff, reduceCtorEq, Nat.reduceBEq, String.reduceBEq, Nat.reduceAdd, Nat.reduceSub, Nat.reduceMul, Int.reduceLE, Int.reduceLT, Int.reduceToNat, Int.reduceBEq, Int.reduceBNe, List.zipWith, ty124, ty126, ty127, fap0, fap1, dp126, ia124, ia127, sl81m, cv53, cv512, cv5129, cv12912, zr126, szU8, takeM, and_w, or_w, and_8, ib_add, ib_sub, ib_eql, ib_neq, ib_lss, ib_leq, ib_gtr, ib_geq, shl8, shl16, shl24, shl32, shl40, shl48, shl56, gl2, gl3]
                      first | done | omega
            · have OKF := Hd.mk ok2; have VF := Hd.mk v2; have BF := Hd.mk (show r2.length ≤ rs.length by omega); have BL := Hd.mk (show r2.length < rs.length by omega)
              clear er1 er2 ok1 ok2 v1 v2 b1 b2 ok0 v0 hpos e0 hok hv
              refine Qu ?_
              refine hn _ ⟨r2, ?_, OKF, ?_, VF, ?_, ?_⟩ ?_
              ·exact L
              · exact Nat.le_trans (show (r2).length ≤ rs.length from BF) (show rs.length ≤ zs.length from hle)
              ·exact L
              ·exact L
              · have : (r2).length < rs.length := BL
                simp only [slotL, *, AVB, ↓reduceIte, Nat.reduceEqDiff, Nat.reduceLT, Nat.reduceLeDiff, reduceCtorEq, Nat.reduceBEq, String.reduceBEq, Nat.reduceAdd, Nat.reduceSub, Nat.reduceMul, Int.reduceLE, Int.reduceLT, Int.reduceToNat, Int.reduceBEq, Int.reduceBNe, List.zipWith, ty124, ty126, ty127, fap0, fap1, dp126, ia124, ia127, sl81m, cv53, cv512, cv5129, cv12912, zr126, szU8, takeM, and_w, or_w, and_8, ib_add, ib_sub, ib_eql, ib_neq, ib_lss, ib_leq, ib_gtr, ib_geq, shl8, shl16, shl24, shl32, shl40, shl48, shl56, gl2, gl3]
                first | done | omega
        · have OKF := Hd.mk ok1; have VF := Hd.mk v1; have BF := Hd.mk (show r1.length ≤ rs.length by omega); have BL := Hd.mk (show r1.length < rs.length by omega)
          clear er1 ok1 v1 b1 ok0 v0 hpos e0 hok hv
          refine Gu ?_
          refine hn _ ⟨r1, ?_, OKF, ?_, VF, ?_, ?_⟩ ?_
          ·exact L
          · exact Nat.le_trans (show (r1).length ≤ rs.length from BF) (show rs.length ≤ zs.length from hle)
          ·exact L
          ·exact L
          · have : (r1).length < rs.length := BL
            simp only [slotL, *, AVB, ↓reduceIte, Nat.reduceEqDiff, Nat.reduceLT, Nat.reduceLeDiff, reduceCtorEq, Nat.reduceBEq, String.reduceBEq, Nat.reduceAdd, Nat.reduceSub, Nat.reduceMul, Int.reduceLE, Int.reduceLT, Int.reduceToNat, Int.reduceBEq, Int.reduceBNe, List.zipWith, ty124, ty126, ty127, fap0, fap1, dp126, ia124, ia127, sl81m, cv53, cv512, cv5129, cv12912, zr126, szU8, takeM, and_w, or_w, and_8, ib_add, ib_sub, ib_eql, ib_neq, ib_lss, ib_leq, ib_gtr, ib_geq, shl8, shl16, shl24, shl32, shl40, shl48, shl56, gl2, gl3]
            first | done | omega
      · obtain ⟨F, q, lo, hi, s, hf, hand, hshr, hq, hacc, hcase⟩ := cls x0 (by omega) n0
        have hq0 : (q : Int) < 16 := by omega
        have W1 := wi1; have W2' := wi2; have W3 := wi3; have W4 := wi4
        have hin : 0 ≤ x0 ∧ x0 < 256 := ⟨m0, n0⟩
        rcases hcase with ⟨rfl, c⟩ | ⟨rfl, c1, c2, rfl, rfl⟩ | ⟨rfl, c1, c2, el, eh⟩ | ⟨rfl, c1, c2, el, eh⟩
        · have T : validB zs = false := by rw [← v0]; exact v0_bad hpos (by rw [e0]; omega) (by rw [e0]; exact c)
          clear ok0 v0 hpos e0 hok hv c hin
          refine Gu ?_
          exact hr _ Wu
        · by_cases hl2 : rs.length < 2
          · have ll : (rs.length : Int) < 2 := by omega
            have T : validB zs = false := by rw [← v0]; exact v2_bad hpos (by rw [e0]; omega) (by rw [e0]; omega) (.inl hl2)
            clear ok0 v0 hpos e0 hok hv c1 c2 hin hl2
            refine Qu ?_
            exact hr _ Wu
          · have ll : ¬ (rs.length : Int) < 2 := by omega
            have i1 : (1 : Int) < rs.length := by omega
            obtain ⟨x1, e1, m1, n1, g1⟩ := BytesOK.get ok0 (show 1 < rs.length by omega)
            by_cases a1 : x1 < 128
            · have T : validB zs = false := by rw [← v0]; exact v2_bad hpos (by rw [e0]; omega) (by rw [e0]; omega) (.inr (by rw [e1]; unfold C1; omega))
              clear ok0 v0 hpos e0 e1 hok hv c1 c2 hin hl2
              refine Qu ?_
              exact hr _ Wu
            · have ua1 := Hd.mk a1
              by_cases a2 : 191 < x1
              · have T : validB zs = false := by rw [← v0]; exact v2_bad hpos (by rw [e0]; omega) (by rw [e0]; omega) (.inr (by rw [e1]; unfold C1; omega))
                clear ok0 v0 hpos e0 e1 hok hv c1 c2 hin hl2
                refine Qu ?_
                exact hr _ Wu
              · have ua2 := Hd.mk a2
                have hb : (2 : Int) ≤ rs.length := by omega
                have hd := map_drop rs 2
                have OKF := Hd.mk (show BytesOK (rs.drop 2) from ok0.drop 2)
                have VF := Hd.mk (show validB (rs.drop 2) = validB zs by rw [v2_ok (by omega) (by rw [e0, e1]; unfold W2; omega), v0])
                have BF := Hd.mk (show (rs.drop 2).length ≤ rs.length by rw [List.length_drop]; omega)
                have BL := Hd.mk (show (rs.drop 2).length < rs.length by rw [List.length_drop]; omega)
                have lD : ((rs.drop 2).map (D.int .u8)).length = (rs.drop 2).length := List.length_map ..
                clear ok0 v0 hpos e0 e1 hok hv c1 c2 hin hl2
                refine Qu ?_
                refine hn _ ⟨rs.drop 2, ?_, OKF, ?_, VF, ?_, ?_⟩ ?_
                ·exact L
                · exact Nat.le_trans (show (rs.drop 2).length ≤ rs.length from BF) (show rs.length ≤ zs.length from hle)
                ·exact L
                ·exact L
                · have : (rs.drop 2).length < rs.length := BL
                  simp only [slotL, *, AVB, ↓reduceIte, Nat.reduceEqDiff, Nat.reduceLT, Nat.reduceLeDiff, reduceCtorEq, Nat.reduceBEq, String.reduceBEq, Nat.reduceAdd, Nat.reduceSub, Nat.reduceMul, Int.reduceLE, Int.reduceLT, Int.reduceToNat, Int.reduceBEq, Int.reduceBNe, List.zipWith, ty124, ty126, ty127, fap0, fap1, dp126, ia124, ia127, sl81m, cv53, cv512, cv5129, cv12912, zr126, szU8, takeM, and_w, or_w, and_8, ib_add, ib_sub, ib_eql, ib_neq, ib_lss, ib_leq, ib_gtr, ib_geq, shl8, shl16, shl24, shl32, shl40, shl48, shl56, gl2, gl3]
                  first | done | omega
        · by_cases hl3 : rs.length < 3
          · have ll : (rs.length : Int) < 3 := by omega
            have T : validB zs = false := by rw [← v0]; exact v3_bad hpos (by rw [e0]; omega) (by rw [e0]; omega) (.inl hl3)
            clear ok0 v0 hpos e0 hok hv c1 c2 hin hl3 el eh
            refine Qu ?_
            exact hr _ Wu
          · have ll : ¬ (rs.length : Int) < 3 := by omega
            have i1 : (1 : Int) < rs.length := by omega
            obtain ⟨x1, e1, m1, n1, g1⟩ := BytesOK.get ok0 (show 1 < rs.length by omega)
            have i2 : (2 : Int) < rs.length := by omega
            obtain ⟨x2, e2, m2, n2, g2⟩ := BytesOK.get ok0 (show 2 < rs.length by omega)
            by_cases a1 : x1 < lo
            · have T : validB zs = false := by rw [← v0]; exact v3_bad hpos (by rw [e0]; omega) (by rw [e0]; omega) (.inr (.inl (by rw [e0, e1, ← el]; exact a1)))
              clear ok0 v0 hpos e0 e1 e2 hok hv c1 c2 hin hl3 el eh
              refine Qu ?_
              exact hr _ Wu
            · have ua1 := Hd.mk a1
              by_cases a2 : hi < x1
              · have T : validB zs = false := by rw [← v0]; exact v3_bad hpos (by rw [e0]; omega) (by rw [e0]; omega) (.inr (.inr (.inl (by rw [e0, e1, ← eh]; exact a2))))
                clear ok0 v0 hpos e0 e1 e2 hok hv c1 c2 hin hl3 el eh
                refine Qu ?_
                exact hr _ Wu
              · have ua2 := Hd.mk a2
                by_cases a3 : x2 < 128
                · have T : validB zs = false := by rw [← v0]; exact v3_bad hpos (by rw [e0]; omega) (by rw [e0]; omega) (.inr (.inr (.inr (by rw [e2]; unfold C1; omega))))
                  clear ok0 v0 hpos e0 e1 e2 hok hv c1 c2 hin hl3 el eh
                  refine Qu ?_
                  exact hr _ Wu
                · have ua3 := Hd.mk a3
                  by_cases a4 : 191 < x2
                  · have T : validB zs = false := by rw [← v0]; exact v3_bad hpos (by rw [e0]; omega) (by rw [e0]; omega) (.inr (.inr (.inr (by rw [e2]; unfold C1; omega))))
                    clear ok0 v0 hpos e0 e1 e2 hok hv c1 c2 hin hl3 el eh
                    refine Qu ?_
                    exact hr _ Wu
                  · have ua4 := Hd.mk a4
                    have hb : (3 : Int) ≤ rs.length := by omega
                    have hd := map_drop rs 3
                    have OKF := Hd.mk (show BytesOK (rs.drop 3) from ok0.drop 3)
                    have VF := Hd.mk (show validB (rs.drop 3) = validB zs by rw [v3_ok (by omega) (by rw [e0]; omega) (by rw [e0]; omega) (by rw [e0, e1, ← el]; omega) (by rw [e0, e1, ← eh]; omega) (by rw [e2]; unfold C1; omega), v0])
                    have BF := Hd.mk (show (rs.drop 3).length ≤ rs.length by rw [List.length_drop]; omega)
                    have BL := Hd.mk (show (rs.drop 3).length < rs.length by rw [List.length_drop]; omega)
                    have lD : ((rs.drop 3).map (D.int .u8)).length = (rs.drop 3).length := List.length_map ..
                    clear ok0 v0 hpos e0 e1 e2 hok hv c1 c2 hin hl3 el eh
                    refine Qu ?_
                    refine hn _ ⟨rs.drop 3, ?_, OKF, ?_, VF, ?_, ?_⟩ ?_
                    ·exact L
                    · exact Nat.le_trans (show (rs.drop 3).length ≤ rs.length from BF) (show rs.length ≤ zs.length from hle)
                    ·exact L
                    ·exact L
                    · have : (rs.drop 3).length < rs.length := BL
                      simp only [slotL, *, AVB, ↓reduceIte, Nat.reduceEqDiff, Nat.reduceLT, Nat.reduceLeDiff, reduceCtorEq, Nat.reduceBEq, String.reduceBEq, Nat.reduceAdd, Nat.reduceSub, Nat.reduceMul, Int.reduceLE, Int.reduceLT, Int.reduceToNat, Int.reduceBEq, Int.reduceBNe, List.zipWith, ty124, ty126, ty127, fap0, fap1, dp126, ia124, ia127, sl81m, cv53, cv512, cv5129, cv12912, zr126, szU8, takeM, and_w, or_w, and_8, ib_add, ib_sub, ib_eql, ib_neq, ib_lss, ib_leq, ib_gtr, ib_geq, shl8, shl16, shl24, shl32, shl40, shl48, shl56, gl2, gl3]
                      first | done | omega
        · by_cases hl4 : rs.length < 4
          · have ll : (rs.length : Int) < 4 := by omega
            have T : validB zs = false := by rw [← v0]; exact v4_bad hpos (by rw [e0]; omega) (by rw [e0]; omega) (.inl hl4)
            clear ok0 v0 hpos e0 hok hv c1 c2 hin hl4 el eh
            refine Qu ?_
            exact hr _ Wu
          · have ll : ¬ (rs.length : Int) < 4 := by omega
            have i1 : (1 : Int) < rs.length := by omega
            obtain ⟨x1, e1, m1, n1, g1⟩ := BytesOK.get ok0 (show 1 < rs.length by omega)
            have i2 : (2 : Int) < rs.length := by omega
            obtain ⟨x2, e2, m2, n2, g2⟩ := BytesOK.get ok0 (show 2 < rs.length by omega)
            have i3 : (3 : Int) < rs.length := by omega
            obtain ⟨x3, e3, m3, n3, g3⟩ := BytesOK.get ok0 (show 3 < rs.length by omega)
            by_cases a1 : x1 < lo
            · have T : validB zs = false := by rw [← v0]; exact v4_bad hpos (by rw [e0]; omega) (by rw [e0]; omega) (.inr (.inl (by rw [e0, e1, ← el]; exact a1)))
              clear ok0 v0 hpos e0 e1 e2 e3 hok hv c1 c2 hin hl4 el eh
              refine Qu ?_
              exact hr _ Wu
            · have ua1 := Hd.mk a1
              by_cases a2 : hi < x1
              · have T : validB zs = false := by rw [← v0]; exact v4_bad hpos (by rw [e0]; omega) (by rw [e0]; omega) (.inr (.inr (.inl (by rw [e0, e1, ← eh]; exact a2))))
                clear ok0 v0 hpos e0 e1 e2 e3 hok hv c1 c2 hin hl4 el eh
                refine Qu ?_
                exact hr _ Wu
              · have ua2 := Hd.mk a2
                by_cases a3 : x2 < 128
                · have T : validB zs = false := by rw [← v0]; exact v4_bad hpos (by rw [e0]; omega) (by rw [e0]; omega) (.inr (.inr (.inr (.inl (by rw [e2]; unfold C1; omega)))))
                  clear ok0 v0 hpos e0 e1 e2 e3 hok hv c1 c2 hin hl4 el eh
                  refine Qu ?_
                  exact hr _ Wu
                · have ua3 := Hd.mk a3
                  by_cases a4 : 191 < x2
                  · have T : validB zs = false := by rw [← v0]; exact v4_bad hpos (by rw [e0]; omega) (by rw [e0]; omega) (.inr (.inr (.inr (.inl (by rw [e2]; unfold C1; omega)))))
                    clear ok0 v0 hpos e0 e1 e2 e3 hok hv c1 c2 hin hl4 el eh
                    refine Qu ?_
                    exact hr _ Wu
                  · have ua4 := Hd.mk a4
                    by_cases a5 : x3 < 128
                    · have T : validB zs = false := by rw [← v0]; exact v4_bad hpos (by rw [e0]; omega) (by rw [e0]; omega) (.inr (.inr (.inr (.inr (by rw [e3]; unfold C1; omega)))))
                      clear ok0 v0 hpos e0 e1 e2 e3 hok hv c1 c2 hin hl4 el eh
                      refine Qu ?_
                      exact hr _ Wu
                    · have ua5 := Hd.mk a5
                      by_cases a6 : 191 < x3
                      · have T : validB zs = false := by rw [← v0]; exact v4_bad hpos (by rw [e0]; omega) (by rw [e0]; omega) (.inr (.inr (.inr (.inr (by rw [e3]; unfold C1; omega)))))
                        clear ok0 v0 hpos e0 e1 e2 e3 hok hv c1 c2 hin hl4 el eh
                        refine Qu ?_
                        exact hr _ Wu
                      · have ua6 := Hd.mk a6
                        have hb : (4 : Int) ≤ rs.length := by omega
                        have hd := map_drop rs 4
                        have OKF := Hd.mk (show BytesOK (rs.drop 4) from ok0.drop 4)
                        have VF := Hd.mk (show validB (rs.drop 4) = validB zs by rw [v4_ok (by omega) (by rw [e0]; omega) (by rw [e0]; omega) (by rw [e0, e1, ← el]; omega) (by rw [e0, e1, ← eh]; omega) (by rw [e2]; unfold C1; omega) (by rw [e3]; unfold C1; omega), v0])
                        have BF := Hd.mk (show (rs.drop 4).length ≤ rs.length by rw [List.length_drop]; omega)
                        have BL := Hd.mk (show (rs.drop 4).length < rs.length by rw [List.length_drop]; omega)
                        have lD : ((rs.drop 4).map (D.int .u8)).length = (rs.drop 4).length := List.length_map ..
                        clear ok0 v0 hpos e0 e1 e2 e3 hok hv c1 c2 hin hl4 el eh
                        refine Qu ?_
                        refine hn _ ⟨rs.drop 4, ?_, OKF, ?_, VF, ?_, ?_⟩ ?_
                        ·exact L
                        · exact Nat.le_trans (show (rs.drop 4).length ≤ rs.length from BF) (show rs.length ≤ zs.length from hle)
                        ·exact L
                        ·exact L
                        · have : (rs.drop 4).length < rs.length := BL
                          simp only [slotL, *, AVB, ↓reduceIte, Nat.reduceEqDiff, Nat.reduceLT, Nat.reduceLeDiff, reduceCtorEq, Nat.reduceBEq, String.reduceBEq, Nat.reduceAdd, Nat.reduceSub, Nat.reduceMul, Int.reduceLE, Int.reduceLT, Int.reduceToNat, Int.reduceBEq, Int.reduceBNe, List.zipWith, ty124, ty126, ty127, fap0, fap1, dp126, ia124, ia127, sl81m, cv53, cv512, cv5129, cv12912, zr126, szU8, takeM, and_w, or_w, and_8, ib_add, ib_sub, ib_eql, ib_neq, ib_lss, ib_leq, ib_gtr, ib_geq, shl8, shl16, shl24, shl32, shl40, shl48, shl56, gl2, gl3]
                          first | done | omega
    · have hg : ¬ (0 : Int) < rs.length := by omega
      have hv' : validB zs = true := by
        have h1 : validB rs = validB zs := hv
        rw [← h1, List.length_eq_zero_iff.1 (by omega : rs.length = 0)]
        rfl
      clear hpos hle hok hv
      refine Gu ?_
      exact hx _ _ Wu
end Go.Av
namespace Go.Av
open Go.Proofs Go.Proofs.YtaghfmgeccapbaaGreatDoor
variable [Rk] {chk : List D → Bool}
set_option maxHeartbeats 4000000 in
theorem right_L (zs : List Int) (hz : BytesOK zs) (hl : zs.length < 1000000000) : callL Tryz.prog (ext11b chk) 75 [.list (zs.map (D.int .u8))] [] = some (.bool (noNul zs && validB zs), [.no], []) := by
  have hV := valid_L (chk := chk) zs hz hl
  have lN : (zs.map (D.int .u8)).length = zs.length := List.length_map ..
  have hz' := Hd.mk hz
  clear hz
  refine cK 16 2 Tryz.func75 ?_
  refine Gu ?_
  refine loopH (fun st => ∃ i : Nat, i ≤ zs.length ∧ st.slot 7 = .int .i64 i ∧ st.slot 6 = .int .i64 zs.length ∧ st.slot 5 = .list (zs.map (D.int .u8)) ∧ st.slot 0 = .list (zs.map (D.int .u8)) ∧ st.slot 2 = .bool false ∧ st.room 2 = [] ∧ Hd (noNul (zs.drop i) = noNul zs)) (fun st => zs.length - slotI st 7) ?_ ?_
  · exact ⟨0, Nat.zero_le _, Iu, Iu, Iu, Iu, Iu, Iu, rfl⟩
  · rintro st K ⟨i, hi, h7, h6, h5, h0, h2, hr2, hnn⟩ hn hx hr
    by_cases hlt : i < zs.length
    · have ok0 : BytesOK zs := hz'
      obtain ⟨x, e0, m0, n0, g0⟩ := BytesOK.get ok0 hlt
      have hlt1 : (i : Int) < zs.length := by omega
      have hw1 : IntKind.i64.wrap ((i : Int) + 1) = ((i + 1 : Nat) : Int) := by rw [wrap64 _ (by omega) (by omega)]; omega
      have hdr : zs.drop i = x :: zs.drop (i + 1) := by
        rw [List.drop_eq_getElem_cons hlt]
        congr 1
        rw [← e0]
        simp [List.getD, List.getElem?_eq_getElem hlt]
      have hnn' : noNul (zs.drop i) = noNul zs := hnn
      rw [hdr, noNul_cons] at hnn'
      clear ok0 e0 hdr hnn
      by_cases hx0 : x = 0
      · have T : noNul zs = false := by rw [← hnn', hx0]; rfl
        clear hnn' m0 n0
        subst hx0
        refine Gu ?_
        exact hr _ Wu
      · have hx1 : (x == 0) = false := by simpa using hx0
        have T := Hd.mk (show noNul (zs.drop (i + 1)) = noNul zs by rw [← hnn', hx1]; rfl)
        clear hnn' m0 n0 hx0
        refine Gu ?_
        exact hn _ ⟨i + 1, hlt, L, L, L, L, L, L, T⟩ Zu
    · have hge : ¬ (i : Int) < zs.length := by omega
      have T : noNul zs = true := by
        have h1 : noNul (zs.drop i) = noNul zs := hnn
        rw [← h1, List.drop_eq_nil_of_le (by omega)]
        rfl
      clear hnn
      refine Gu ?_
      exact hx _ _ Wu
end Go.Av
namespace Go.Av
open Go.Proofs
variable [Rk] {chk : List D → Bool}
def atG (a : At) : Bool := decide ((200 : Int) < a.nm.length) || (decide ((200 : Int) < a.sp.length) || decide ((200 : Int) < a.vl.length))
def ndG0 (n : Nd) : Bool := decide ((20 : Int) < n.at_.length) || (decide ((20 : Int) < n.st.length) || (decide ((200 : Int) < n.nm.length) || (decide ((200 : Int) < n.sp.length) || decide ((200 : Int) < n.tx.length))))
def ndG (n : Nd) : Bool := ndG0 n || n.at_.any atG
def greatF (ns : List Nd) (most : Nat) : Bool := decide ((most : Int) < ns.length) || ns.any ndG
theorem any_drop {α : Type} {xs : List α} {i : Nat} {x : α} (f : α → Bool) (hx : xs[i]? = some x) : (xs.drop i).any f = (f x || (xs.drop (i + 1)).any f) := by
  have h1 : i < xs.length := (List.getElem?_eq_some_iff.1 hx).1
  have e1 : xs[i] = x := (List.getElem?_eq_some_iff.1 hx).2
  rw [List.drop_eq_getElem_cons h1, e1, List.any_cons]
theorem any_end {α : Type} {xs : List α} {i : Nat} (f : α → Bool) (h : xs.length ≤ i) : (xs.drop i).any f = false := by
  rw [List.drop_eq_nil_of_le h]
  rfl
set_option maxHeartbeats 16000000 in
theorem great_L (ns : List Nd) (most : Nat) (hm : most ≤ 1000) : callL Tryz.prog (ext11b chk) 17 [.list (ns.map Nd.d), .int .i64 most] [] = some (.bool (greatF ns most), [.no], []) := by
  have lN := lenM ns Nd.d
  unfold greatF
  refine cK 85 4 Tryz.func17 ?_
  by_cases hg : (most : Int) < ns.length
  · rw [decide_eq_true hg, Bool.true_or]
    clear hm
    exact W
  · rw [decide_eq_false hg, Bool.false_or]
    have hl : ns.length ≤ 1000 := by omega
    have HL := Hd.mk hl
    clear hl hm
    obtain ⟨R, hR⟩ : ∃ R, Hd (R = ns.any ndG) := ⟨_, rfl⟩
    rw [← (show R = ns.any ndG from hR)]
    refine G ?_
    clear hg
    refine loopH (fun st => ∃ i : Nat, i ≤ ns.length ∧ st.slot 5 = .int .i64 i ∧ st.slot 0 = .list (ns.map Nd.d) ∧ st.slot 4 = .bool false ∧ st.room 4 = [] ∧ Hd (R = (ns.drop i).any ndG)) (fun st => ns.length - slotI st 5) ?_ ?_
    · exact ⟨0, Nat.zero_le _, I, I, I, I, hR⟩
    · rintro st K ⟨i, hi, g5, g0, g4, gr, hO⟩ hn hx hr
      have hl : ns.length ≤ 1000 := HL
      by_cases h : i < ns.length
      · have g9 : (i : Int) < ns.length := by omega
        have hw := wrapS i (by omega)
        obtain ⟨x, hx1⟩ := some_at h
        have hO' : R = (ns.drop i).any ndG := hO
        rw [any_drop ndG hx1] at hO'
        have ha := getD_map (f := Nd.d) hx1
        obtain ⟨p, k, sp, nm, a, s, tx⟩ := x
        have ha2 : (ns.map Nd.d).getD i .bad = .agg [.int .i64 p, .int .i64 k, .str sp, .str nm, .list (a.map At.d), .list (s.map .str), .str tx] := ha
        clear ha hx1
        have lA := lenM a At.d
        have lS := lenM s D.str
        generalize s.map D.str = S at *
        simp only [ndG, ndG0] at hO'
        have HI := Hd.mk h
        clear hl h hO hx
        by_cases c1 : (20 : Int) < a.length
        · rw [decide_eq_true c1] at hO'
          simp only [Bool.true_or, Bool.or_true, Bool.false_or] at hO'
          subst hO'
          clear hn hR HI
          refine G ?_
          exact hr _ W
        · rw [decide_eq_false c1] at hO'
          by_cases c2 : (20 : Int) < s.length
          · rw [decide_eq_true c2] at hO'
            simp only [Bool.true_or, Bool.or_true, Bool.false_or] at hO'
            subst hO'
            clear hn hR HI
            refine G ?_
            exact hr _ W
          · rw [decide_eq_false c2] at hO'
            by_cases c3 : (200 : Int) < nm.length
            · rw [decide_eq_true c3] at hO'
              simp only [Bool.true_or, Bool.or_true, Bool.false_or] at hO'
              subst hO'
              clear hn hR HI
              refine G ?_
              exact hr _ W
            · rw [decide_eq_false c3] at hO'
              by_cases c4 : (200 : Int) < sp.length
              · rw [decide_eq_true c4] at hO'
                simp only [Bool.true_or, Bool.or_true, Bool.false_or] at hO'
                subst hO'
                clear hn hR HI
                refine G ?_
                exact hr _ W
              · rw [decide_eq_false c4] at hO'
                by_cases c5 : (200 : Int) < tx.length
                · rw [decide_eq_true c5] at hO'
                  simp only [Bool.true_or, Bool.or_true, Bool.false_or] at hO'
                  subst hO'
                  clear hn hR HI
                  refine G ?_
                  exact hr _ W
                · rw [decide_eq_false c5] at hO'
                  simp only [Bool.false_or] at hO'
                  have HO := Hd.mk hO'
                  have HA := Hd.mk c1
                  clear hO'
                  refine G ?_
                  clear c1 c2 c3 c4 c5 ha2 g9
                  refine loopH (fun st' => ∃ j g : Nat, j ≤ a.length ∧ st'.slot 7 = .int .i64 j ∧ st'.slot 5 = .int .i64 i ∧ st'.slot 0 = .list (ns.map Nd.d) ∧ st'.slot 4 = .bool false ∧ st'.room 4 = [] ∧ st'.slot 6 = .ptr 6 g 0 ∧ st'.box 6 = some ⟨g, [.int .i64 p, .int .i64 k, .str sp, .str nm, .list (a.map At.d), .list S, .str tx], [.no, .no, .no, .no, .no, .no, .no]⟩ ∧ Hd (R = ((a.drop j).any atG || (ns.drop (i + 1)).any ndG))) (fun st' => a.length - slotI st' 7) ?_ ?_
                  · exact ⟨0, st.ctr 6, Nat.zero_le _, I, I, I, I, I, I, I, HO⟩
                  · rintro st' K' ⟨j, g, hj, e7, e5, e0, e4, er, e6, eb, hO2⟩ hn2 hx2 hr2
                    have hla : ¬ (20 : Int) < a.length := HA
                    have G5 := Hd.mk g5
                    clear g5 g0 g4 gr
                    by_cases h2 : j < a.length
                    · have g9 : (j : Int) < a.length := by omega
                      have hw2 := wrapS j (by omega)
                      obtain ⟨y, hy1⟩ := some_at h2
                      have hO3 : R = ((a.drop j).any atG || (ns.drop (i + 1)).any ndG) := hO2
                      rw [any_drop atG hy1] at hO3
                      have hb := getD_map (f := At.d) hy1
                      obtain ⟨a1, a2, a3⟩ := y
                      have hb2 : (a.map At.d).getD j .bad = .agg [.str a1, .str a2, .str a3] := hb
                      clear hb hy1 hla hO2 HO
                      simp only [atG] at hO3
                      by_cases d1 : (200 : Int) < a2.length
                      · rw [decide_eq_true d1] at hO3
                        simp only [Bool.true_or, Bool.or_true, Bool.false_or] at hO3
                        subst hO3
                        clear hn2 hx2 hR hn
                        refine G ?_
                        refine hr2 _ ?_
                        exact hr _ W
                      · rw [decide_eq_false d1] at hO3
                        by_cases d2 : (200 : Int) < a1.length
                        · rw [decide_eq_true d2] at hO3
                          simp only [Bool.true_or, Bool.or_true, Bool.false_or] at hO3
                          subst hO3
                          clear hn2 hx2 hR hn
                          refine G ?_
                          refine hr2 _ ?_
                          exact hr _ W
                        · rw [decide_eq_false d2] at hO3
                          by_cases d3 : (200 : Int) < a3.length
                          · rw [decide_eq_true d3] at hO3
                            simp only [Bool.true_or, Bool.or_true, Bool.false_or] at hO3
                            subst hO3
                            clear hn2 hx2 hR hn
                            refine G ?_
                            refine hr2 _ ?_
                            exact hr _ W
                          · rw [decide_eq_false d3] at hO3
                            simp only [Bool.false_or] at hO3
                            have HO4 := Hd.mk hO3
                            clear hO3 hr2 hx2 hn hr
                            refine G ?_
                            exact hn2 _ ⟨j + 1, g, h2, L, L, L, L, L, L, L, HO4⟩ Z
                    · have g9 : ¬ (j : Int) < a.length := by omega
                      have hO3 : R = ((a.drop j).any atG || (ns.drop (i + 1)).any ndG) := hO2
                      rw [any_end atG (by omega), Bool.false_or] at hO3
                      have HO4 := Hd.mk hO3
                      clear hO3 hO2 hr2 hn2 hr hla
                      refine G ?_
                      refine hx2 _ _ ?_
                      refine G ?_
                      have hi2 : i < ns.length := HI
                      refine hn _ ⟨i + 1, hi2, L, L, L, L, HO4⟩ ?_
                      · have g5 : st.slot 5 = .int .i64 i := G5
                        simp only [slotI, *, AVB, ↓reduceIte, Nat.reduceEqDiff, Nat.reduceLT, Nat.reduceLeDiff, reduceCtorEq, Nat.reduceBEq, String.reduceBEq, Nat.reduceAdd, Nat.reduceSub, Nat.reduceMul, Int.reduceLE, Int.reduceLT, Int.reduceToNat, Int.reduceBEq, Int.reduceBNe, List.zipWith, dIntBin]
                        omega
      · have g9 : ¬ (i : Int) < ns.length := by omega
        have hO' : R = (ns.drop i).any ndG := hO
        rw [any_end ndG (by omega)] at hO'
        subst hO'
        clear hO hn hr hl hR
        refine G ?_
        exact hx _ _ W
end Go.Av
namespace Go.Av
open Go.Proofs
variable [Rk]
theorem callL_ext {P : Program} [Gs] {ext : Call} {f : FuncId} {args : List D} {pbs : List Bx} {r : D × List Room × List Bx} (h : ext f args pbs = some r) : callL P ext f args pbs = some r :=
  aev_callL (N := 1) (by simp only [aev, h])
variable {chk : List D → Bool}
theorem nodes_ok {ns : List Nd} (h : Small ns) : nodesOk (ns.map Nd.d) = true := by
  unfold nodesOk
  simp only [Bool.and_eq_true, List.all_eq_true, decide_eq_true_eq, List.length_map]
  refine ⟨fun e he => ?_, h.1⟩
  obtain ⟨n, hn, rfl⟩ := List.mem_map.1 he
  have h2 := h.2 n hn
  show ((n.at_.map At.d).all (fun e => (dcells e).length == 3) && (n.st.map D.str).all (fun e => (dcells e).length == 1) && decide ((n.at_.map At.d).length ≤ 1000000) && decide ((n.st.map D.str).length ≤ 1000000)) = true
  simp only [Bool.and_eq_true, List.all_eq_true, decide_eq_true_eq, List.length_map]
  refine ⟨⟨⟨?_, ?_⟩, h2.1⟩, h2.2⟩ <;> intro e he <;> obtain ⟨x, _, rfl⟩ := List.mem_map.1 he <;> rfl
end Go.Av
namespace Go.Av
open Go.Proofs
variable [Rk] {chk : List D → Bool}
open Go.Proofs.YtaghfmgeccapbaaGreatDoor
def bytesI (s : List UInt8) : List Int := s.map fun b => (b.toNat : Int)
def goodB (s : List UInt8) : Bool := rGood (bytesI s)
theorem bytesI_ok (s : List UInt8) : BytesOK (bytesI s) := by
  intro i hi
  have hi' : i < s.length := by simpa [bytesI] using hi
  have : (bytesI s).getD i 0 = (s[i].toNat : Int) := by simp [bytesI, List.getD, hi']
  rw [this]
  have := s[i].toNat_lt
  omega
theorem bytesI_len (s : List UInt8) : (bytesI s).length = s.length := by simp [bytesI]
theorem bytesI_d (s : List UInt8) : (s.map fun b => D.int .u8 (b.toNat : Int)) = (bytesI s).map (D.int .u8) := by simp [bytesI]
theorem byI_of : ∀ (zs : List Int), BytesOK zs → byI (zs.map (D.int .u8)) = some zs
  | [], _ => rfl
  | z :: r, h => by
    have h0 := h 0 (by simp)
    have hr : BytesOK r := fun i hi => by have := h (i + 1) (by simpa using hi); simpa using this
    simp only [List.getD_cons_zero] at h0
    show (if 0 ≤ z ∧ z < 256 then (byI (r.map (D.int .u8))).map (z :: ·) else none) = _
    rw [if_pos h0, byI_of r hr]
    rfl
theorem good_L (s : List UInt8) (hl : s.length ≤ 140737488355328) : callL Tryz.prog (ext11b chk) 50 [.list (s.map fun b => .int .u8 b.toNat)] [] = some (.bool (goodB s), [], []) := by
  refine callL_ext (ext_in ?_)
  rw [bytesI_d]
  show (match byI ((bytesI s).map (D.int .u8)) with | some zs => if zs.length ≤ 140737488355328 then some (D.bool (rGood zs), ([] : List Room), ([] : List Bx)) else none | none => none) = _
  rw [byI_of _ (bytesI_ok s)]
  show (if (bytesI s).length ≤ 140737488355328 then some (D.bool (rGood (bytesI s)), ([] : List Room), ([] : List Bx)) else none) = _
  rw [if_pos (by rw [bytesI_len]; exact hl)]
  rfl
theorem right81_L (s : List UInt8) (hl : s.length ≤ 1000000) : callL Tryz.prog (ext11b chk) 75 [.list (s.map fun b => .int .u8 b.toNat)] [] = some (.bool (goodB s), [.no], []) := by
  have h := right_L (chk := chk) (bytesI s) (bytesI_ok s) (by rw [bytesI_len]; omega)
  rw [← good_valid (bytesI s).length _ (Nat.le_refl _) (bytesI_ok s)] at h
  rw [bytesI_d]
  exact h
theorem dright_L (s : List UInt8) (hl : s.length ≤ 1000000) : callL Tryz.prog (ext11b chk) 56 [.str s] [] = some (.bool (goodB s), [.no], []) := by
  have h := right81_L (chk := chk) s hl
  clear hl
  generalize goodB s = R at *
  exact cW 6 2 Tryz.func56
theorem rright_L (s : List UInt8) (hl : s.length ≤ 140737488355328) : callL Tryz.prog (ext11b chk) 31 [.str s] [] = some (.bool (goodB s), [.no], []) := by
  have h := good_L (chk := chk) s hl
  clear hl
  generalize goodB s = R at *
  exact cW 6 2 Tryz.func31
def idxN {α : Type} (f : α → Bool) : Nat → List α → Int
  | _, [] => -1
  | k, a :: r => if f a = true then (k : Int) else idxN f (k + 1) r
theorem idxN_at {α : Type} {xs : List α} {i : Nat} {x : α} (f : α → Bool) (hx : xs[i]? = some x) : idxN f i (xs.drop i) = if f x = true then (i : Int) else idxN f (i + 1) (xs.drop (i + 1)) := by
  have h1 : i < xs.length := (List.getElem?_eq_some_iff.1 hx).1
  have e1 : xs[i] = x := (List.getElem?_eq_some_iff.1 hx).2
  rw [List.drop_eq_getElem_cons h1, e1, idxN]
theorem idxN_end {α : Type} {xs : List α} {i : Nat} (f : α → Bool) (h : xs.length ≤ i) : idxN f i (xs.drop i) = -1 := by
  rw [List.drop_eq_nil_of_le h]
  rfl
theorem idxN_ge {α : Type} (f : α → Bool) : ∀ (xs : List α) (k : Nat), decide (idxN f k xs ≥ 0) = xs.any f
  | [], _ => rfl
  | a :: r, k => by
    rw [idxN, List.any_cons]
    cases h : f a with
    | true => simp
    | false => simpa using idxN_ge f r (k + 1)
def sameN (sp nm : List UInt8) (a : At) : Bool := a.sp == sp && a.nm == nm
theorem attr1_L (a : At) (sp nm : List UInt8) : callL Tryz.prog (ext11b chk) 87 [.agg [.str a.sp, .str a.nm, .str a.vl], .fix (.agg [.str sp]) 0, .fix (.agg [.str nm]) 0] [] = some (.bool (sameN sp nm a), [.no], []) := by
  unfold sameN
  obtain ⟨a1, a2, a3⟩ := a
  simp only []
  cases h1 : (a1 == sp) with
  | false =>
    exact cW 15 4 Tryz.func87
  | true =>
    cases h2 : (a2 == nm) with
    | false =>
      exact cW 15 4 Tryz.func87
    | true =>
      exact cW 15 4 Tryz.func87
set_option maxHeartbeats 4000000 in
theorem idxf_L (l : List At) (sp nm : List UInt8) (hl : l.length ≤ 1000000) : callL Tryz.prog (ext11b chk) 86 [.list (l.map At.d), .func (.func 87) [] [.fix (.agg [.str sp]) 0, .fix (.agg [.str nm]) 0]] [] = some (.int .i64 (idxN (sameN sp nm) 0 l), [.no], []) := by
  have lN := lenM l At.d
  refine cK 19 4 Tryz.func86 ?_
  have HL := Hd.mk hl
  clear hl
  obtain ⟨R, hR⟩ : ∃ R, Hd (R = idxN (sameN sp nm) 0 l) := ⟨_, rfl⟩
  rw [← (show R = idxN (sameN sp nm) 0 l from hR)]
  refine G ?_
  refine loopH (fun st => ∃ i : Nat, i ≤ l.length ∧ st.slot 8 = .int .i64 i ∧ st.slot 7 = .int .i64 l.length ∧ st.slot 0 = .list (l.map At.d) ∧ st.slot 1 = .func (.func 87) [] [.fix (.agg [.str sp]) 0, .fix (.agg [.str nm]) 0] ∧ st.slot 4 = .int .i64 0 ∧ st.room 4 = [] ∧ Hd (R = idxN (sameN sp nm) i (l.drop i))) (fun st => l.length - slotI st 8) ?_ ?_
  · exact ⟨0, Nat.zero_le _, I, I, I, I, I, I, hR⟩
  · rintro st K ⟨i, hi, g0, g1, g2, g3, g4, g5, hO⟩ hn hx hr
    have hl : l.length ≤ 1000000 := HL
    have hO' : R = idxN (sameN sp nm) i (l.drop i) := hO
    by_cases h : i < l.length
    · have g9 : (i : Int) < l.length := by omega
      have hw := wrapS i (by omega)
      obtain ⟨x, hx1⟩ := some_at h
      rw [idxN_at _ hx1] at hO'
      have ha := getD_map (f := At.d) hx1
      obtain ⟨a1, a2, a3⟩ := x
      have ha2 : (l.map At.d).getD i .bad = .agg [.str a1, .str a2, .str a3] := ha
      clear ha
      have hc : callL Tryz.prog (ext11b chk) 87 [.agg [.str a1, .str a2, .str a3], .fix (.agg [.str sp]) 0, .fix (.agg [.str nm]) 0] [] = some (.bool (sameN sp nm ⟨a1, a2, a3⟩), [.no], []) := attr1_L ⟨a1, a2, a3⟩ sp nm
      cases he : sameN sp nm ⟨a1, a2, a3⟩ with
      | true =>
        rw [he] at hO' hc
        rw [if_pos rfl] at hO'
        subst hO'
        clear hO hn hx hl hx1 hR
        refine G ?_
        exact hr _ W
      | false =>
        rw [he] at hO' hc
        rw [if_neg (by decide)] at hO'
        have HO := Hd.mk hO'
        clear hO hO' hx hr hl hx1
        refine G ?_
        exact hn _ ⟨i + 1, h, L, L, L, L, L, L, HO⟩ Z
    · have g9 : ¬ (i : Int) < l.length := by omega
      rw [idxN_end _ (by omega)] at hO'
      subst hO'
      clear hO hn hr hl hR
      refine G ?_
      exact hx _ _ W
theorem attr_L (l : List At) (sp nm : List UInt8) (hl : l.length ≤ 1000000) : callL Tryz.prog (ext11b chk) 76 [.list (l.map At.d), .str sp, .str nm] [] = some (.int .i64 (idxN (sameN sp nm) 0 l), [.no], []) := by
  have h := idxf_L (chk := chk) l sp nm hl
  clear hl
  generalize idxN (sameN sp nm) 0 l = R at *
  generalize l.map At.d = L at *
  refine cK 10 6 Tryz.func76 ?_
  repeat' (first|simp only [*, upd, AVB, ↓reduceIte, Nat.reduceEqDiff, Nat.reduceLT, reduceCtorEq, Nat.reduceBEq, Nat.reduceAdd])
set_option maxHeartbeats 4000000 in
theorem index_L (l : List (List UInt8)) (v : List UInt8) (hl : l.length ≤ 1000000) : callL Tryz.prog (ext11b chk) 88 [.list (l.map D.str), .str v] [] = some (.int .i64 (idxN (v == ·) 0 l), [.no], []) := by
  have lN := lenM l D.str
  refine cK 19 4 Tryz.func88 ?_
  have HL := Hd.mk hl
  clear hl
  obtain ⟨R, hR⟩ : ∃ R, Hd (R = idxN (v == ·) 0 l) := ⟨_, rfl⟩
  rw [← (show R = idxN (v == ·) 0 l from hR)]
  refine G ?_
  refine loopH (fun st => ∃ i : Nat, i ≤ l.length ∧ st.slot 8 = .int .i64 i ∧ st.slot 7 = .int .i64 l.length ∧ st.slot 0 = .list (l.map D.str) ∧ st.slot 1 = .str v ∧ st.slot 4 = .int .i64 0 ∧ st.room 4 = [] ∧ Hd (R = idxN (v == ·) i (l.drop i))) (fun st => l.length - slotI st 8) ?_ ?_
  · exact ⟨0, Nat.zero_le _, I, I, I, I, I, I, hR⟩
  · rintro st K ⟨i, hi, g0, g1, g2, g3, g4, g5, hO⟩ hn hx hr
    have hl : l.length ≤ 1000000 := HL
    have hO' : R = idxN (v == ·) i (l.drop i) := hO
    by_cases h : i < l.length
    · have g9 : (i : Int) < l.length := by omega
      have hw := wrapS i (by omega)
      obtain ⟨x, hx1⟩ := some_at h
      rw [idxN_at _ hx1] at hO'
      have ha := getD_map (f := D.str) hx1
      cases he : (v == x) with
      | true =>
        rw [he] at hO'
        rw [if_pos rfl] at hO'
        subst hO'
        clear hO hn hx hl hx1 hR
        refine G ?_
        exact hr _ W
      | false =>
        rw [he] at hO'
        rw [if_neg (by decide)] at hO'
        have HO := Hd.mk hO'
        clear hO hO' hx hr hl hx1
        refine G ?_
        exact hn _ ⟨i + 1, h, L, L, L, L, L, L, HO⟩ Z
    · have g9 : ¬ (i : Int) < l.length := by omega
      rw [idxN_end _ (by omega)] at hO'
      subst hO'
      clear hO hn hr hl hR
      refine G ?_
      exact hx _ _ W
theorem any_contains (l : List (List UInt8)) (v : List UInt8) : l.any (v == ·) = l.contains v := by
  induction l with
  | nil => rfl
  | cons a r ih => rw [List.any_cons, ih, List.contains_cons]
theorem contains_L (l : List (List UInt8)) (v : List UInt8) (hl : l.length ≤ 1000000) : callL Tryz.prog (ext11b chk) 78 [.list (l.map D.str), .str v] [] = some (.bool (l.contains v), [.no], []) := by
  have h := index_L (chk := chk) l v hl
  rw [← any_contains, ← idxN_ge (v == ·) l 0]
  clear hl
  generalize idxN (v == ·) 0 l = R at *
  generalize l.map D.str = L at *
  exact cW 9 4 Tryz.func78
theorem dstate_L (s : List UInt8) : callL Tryz.prog (ext11b chk) 77 [.str s] [] = some (.bool (stS.contains s), [.no], []) := by
  have h : callL Tryz.prog (ext11b chk) 78 [.list stD, .str s] [] = some (.bool (stS.contains s), [.no], []) := contains_L (chk := chk) stS s (by decide)
  generalize stS.contains s = R at *
  exact cW 6 2 Tryz.func77
theorem any_contains2 (l : List (List UInt8)) (v : List UInt8) : l.any (· == v) = l.contains v := by
  rw [← any_contains]
  congr 1
  funext x
  rw [Bool.eq_iff_iff, beq_iff_eq, beq_iff_eq]
  exact eq_comm
set_option maxHeartbeats 4000000 in
theorem has_L (l : List (List UInt8)) (v : List UInt8) (hl : l.length ≤ 140737488355328) : callL Tryz.prog (ext11b chk) 33 [.list (l.map D.str), .str v] [] = some (.bool (l.contains v), [.no], []) := by
  have lN := lenM l D.str
  rw [← any_contains2]
  refine cK 18 4 Tryz.func33 ?_
  have HL := Hd.mk hl
  clear hl
  obtain ⟨R, hR⟩ : ∃ R, Hd (R = l.any (· == v)) := ⟨_, rfl⟩
  rw [← (show R = l.any (· == v) from hR)]
  refine G ?_
  refine loopH (fun st => ∃ i : Nat, i ≤ l.length ∧ st.slot 5 = .int .i64 i ∧ st.slot 0 = .list (l.map D.str) ∧ st.slot 1 = .str v ∧ st.slot 4 = .bool false ∧ st.room 4 = [] ∧ Hd (R = (l.drop i).any (· == v))) (fun st => l.length - slotI st 5) ?_ ?_
  · exact ⟨0, Nat.zero_le _, I, I, I, I, I, hR⟩
  · rintro st K ⟨i, hi, g0, g1, g2, g3, g4, hO⟩ hn hx hr
    have hl : l.length ≤ 140737488355328 := HL
    have hO' : R = (l.drop i).any (· == v) := hO
    by_cases h : i < l.length
    · have g9 : (i : Int) < l.length := by omega
      have hw := wrapS i (by omega)
      obtain ⟨x, hx1⟩ := some_at h
      rw [any_drop _ hx1] at hO'
      have ha := getD_map (f := D.str) hx1
      cases he : (x == v) with
      | true =>
        rw [he, Bool.true_or] at hO'
        subst hO'
        clear hO hn hx hl hx1 hR
        refine G ?_
        exact hr _ W
      | false =>
        rw [he, Bool.false_or] at hO'
        have HO := Hd.mk hO'
        clear hO hO' hx hr hl hx1
        refine G ?_
        exact hn _ ⟨i + 1, h, L, L, L, L, L, HO⟩ Z
    · have g9 : ¬ (i : Int) < l.length := by omega
      rw [any_end _ (by omega)] at hO'
      subst hO'
      clear hO hn hr hl hR
      refine G ?_
      exact hx _ _ W
def stL : List D := stS.map .str
theorem bs24s : dbuildSlice Tryz.prog 24 10 [(0, .str [104, 111, 118, 101, 114]), (1, .str [97, 99, 116, 105, 118, 101]), (2, .str [102, 111, 99, 117, 115]), (3, .str [102, 111, 99, 117, 115, 45, 118, 105, 115, 105, 98, 108, 101]), (4, .str [118, 105, 115, 105, 116, 101, 100]), (5, .str [108, 105, 110, 107]), (6, .str [99, 104, 101, 99, 107, 101, 100]), (7, .str [100, 105, 115, 97, 98, 108, 101, 100]), (8, .str [101, 110, 97, 98, 108, 101, 100]), (9, .str [116, 97, 114, 103, 101, 116])] = some (.list stL) := by kernel_rfl
theorem rstate_L (s : List UInt8) : callL Tryz.prog (ext11b chk) 32 [.str s] [] = some (.bool (stS.contains s), [.no], []) := by
  have h : callL Tryz.prog (ext11b chk) 33 [.list stL, .str s] [] = some (.bool (stS.contains s), [.no], []) := has_L (chk := chk) stS s (by decide)
  generalize stS.contains s = R at *
  refine cK 6 2 Tryz.func32 ?_
  repeat' (first|simp only [*, bs24s, AVB, ↓reduceIte, Nat.reduceEqDiff, Nat.reduceLT, reduceCtorEq, Nat.reduceBEq])
end Go.Av
namespace Go.Av
open Go.Proofs
variable [Rk] {chk : List D → Bool}
theorem szA (l : List At) : szOk 3 (l.map At.d) = true := by cases l <;> rfl
theorem szS (l : List (List UInt8)) : szOk 1 (l.map D.str) = true := by cases l <;> rfl
theorem szN (l : List Nd) : szOk 7 (l.map Nd.d) = true := by cases l <;> rfl
def atOk (a : At) : Bool := !(a.nm == []) && (goodB a.sp && (goodB a.nm && goodB a.vl))
def attrsG : List At → List At → Bool
  | _, [] => true
  | p, a :: r => (atOk a && !(p.any (sameN a.sp a.nm))) && attrsG (p ++ [a]) r
def attrsB (l : List At) : Bool := attrsG [] l
def statesG : List (List UInt8) → List (List UInt8) → Bool
  | _, [] => true
  | p, s :: r => (stS.contains s && !(p.contains s)) && statesG (p ++ [s]) r
def statesB (l : List (List UInt8)) : Bool := statesG [] l
theorem attrsG_at {xs : List At} {i : Nat} {x : At} (hx : xs[i]? = some x) : attrsG (xs.take i) (xs.drop i) = ((atOk x && !((xs.take i).any (sameN x.sp x.nm))) && attrsG (xs.take (i + 1)) (xs.drop (i + 1))) := by
  have h1 : i < xs.length := (List.getElem?_eq_some_iff.1 hx).1
  have e1 : xs[i] = x := (List.getElem?_eq_some_iff.1 hx).2
  rw [List.drop_eq_getElem_cons h1, e1, attrsG, List.take_succ_eq_append_getElem h1, e1]
theorem statesG_at {xs : List (List UInt8)} {i : Nat} {x : List UInt8} (hx : xs[i]? = some x) : statesG (xs.take i) (xs.drop i) = ((stS.contains x && !((xs.take i).contains x)) && statesG (xs.take (i + 1)) (xs.drop (i + 1))) := by
  have h1 : i < xs.length := (List.getElem?_eq_some_iff.1 hx).1
  have e1 : xs[i] = x := (List.getElem?_eq_some_iff.1 hx).2
  rw [List.drop_eq_getElem_cons h1, e1, statesG, List.take_succ_eq_append_getElem h1, e1]
theorem attrsG_end {xs : List At} {i : Nat} (h : xs.length ≤ i) : attrsG (xs.take i) (xs.drop i) = true := by
  rw [List.drop_eq_nil_of_le h]
  rfl
theorem statesG_end {xs : List (List UInt8)} {i : Nat} (h : xs.length ≤ i) : statesG (xs.take i) (xs.drop i) = true := by
  rw [List.drop_eq_nil_of_le h]
  rfl
def BigA (a : At) : Prop := a.sp.length ≤ 140737488355328 ∧ a.nm.length ≤ 140737488355328 ∧ a.vl.length ≤ 140737488355328
def SmallA (a : At) : Prop := a.sp.length ≤ 1000000 ∧ a.nm.length ≤ 1000000 ∧ a.vl.length ≤ 1000000
set_option maxHeartbeats 16000000 in
theorem attrs_L (l : List At) (hl : l.length ≤ 1000000) (hS : ∀ a ∈ l, SmallA a) : callL Tryz.prog (ext11b chk) 57 [.list (l.map At.d)] [] = some (.bool (attrsB l), [.no], []) := by
  have lN := lenM l At.d
  refine cK 45 2 Tryz.func57 ?_
  have HL := Hd.mk hl
  have HS := Hd.mk hS
  clear hl hS
  obtain ⟨R, hR⟩ : ∃ R, Hd (R = attrsG (l.take 0) (l.drop 0)) := ⟨_, rfl⟩
  rw [show attrsB l = R from (show R = attrsG (l.take 0) (l.drop 0) from hR).symm]
  refine G ?_
  refine loopH (fun st => ∃ i : Nat, i ≤ l.length ∧ st.slot 7 = .int .i64 i ∧ st.slot 5 = .list (l.map At.d) ∧ st.slot 6 = .int .i64 l.length ∧ st.slot 0 = .list (l.map At.d) ∧ st.slot 2 = .bool false ∧ st.room 2 = [] ∧ Hd (R = attrsG (l.take i) (l.drop i))) (fun st => l.length - slotI st 7) ?_ ?_
  · exact ⟨0, Nat.zero_le _, I, I, I, I, I, I, hR⟩
  · rintro st K ⟨i, hi, g0, g1, g2, g3, g4, g5, hO⟩ hn hx hr
    have hl : l.length ≤ 1000000 := HL
    have hO' : R = attrsG (l.take i) (l.drop i) := hO
    by_cases h : i < l.length
    · have g9 : (i : Int) < l.length := by omega
      have hw := wrapS i (by omega)
      obtain ⟨x, hx1⟩ := some_at h
      rw [attrsG_at hx1] at hO'
      have ha := getD_map (f := At.d) hx1
      have hS : ∀ a ∈ l, SmallA a := HS
      obtain ⟨s1, s2, s3⟩ : SmallA x := hS x (List.mem_of_getElem? hx1)
      obtain ⟨a1, a2, a3⟩ := x
      have ha2 : (l.map At.d).getD i .bad = .agg [.str a1, .str a2, .str a3] := ha
      clear ha
      have q1 := dright_L (chk := chk) a1 s1
      have q2 := dright_L (chk := chk) a2 s2
      have q3 := dright_L (chk := chk) a3 s3
      have q4 : callL Tryz.prog (ext11b chk) 76 [.list ((l.map At.d).take i), .str a1, .str a2] [] = some (.int .i64 (idxN (sameN a1 a2) 0 (l.take i)), [.no], []) := by
        rw [← List.map_take]
        exact attr_L (l.take i) a1 a2 (by rw [List.length_take]; omega)
      have q5 := idxN_ge (sameN a1 a2) (l.take i) 0
      have sz := szA l
      have gle : (i : Int) ≤ l.length := by omega
      simp only [atOk] at hO'
      generalize idxN (sameN a1 a2) 0 (l.take i) = X at *
      generalize (l.take i).any (sameN a1 a2) = e5 at *
      generalize goodB a1 = e1 at *
      generalize goodB a2 = e2 at *
      generalize goodB a3 = e3 at *
      clear s1 s2 s3
      cases h0 : (a2 == []) with
      | true =>
        rw [h0] at hO'
        simp only [Bool.not_true, Bool.false_and] at hO'
        subst hO'
        clear hO hn hx hl hx1 hR q5 sz
        repeat' (first|simp only [*, AVB, ↓reduceIte, Nat.reduceEqDiff, Nat.reduceLT, Nat.reduceLeDiff, Nat.reduceBEq, Nat.reduceAdd, dIntBin]|refine drW_intro (by kernel_rfl) ?_)
        exact hr _ W
      | false =>
        rw [h0] at hO'
        cases e1 with
        | false =>
          simp only [Bool.not_false, Bool.false_and, Bool.true_and] at hO'
          subst hO'
          clear hO hn hx hl hx1 hR q5 sz
          repeat' (first|simp only [*, AVB, ↓reduceIte, Nat.reduceEqDiff, Nat.reduceLT, Nat.reduceLeDiff, Nat.reduceBEq, Nat.reduceAdd, dIntBin]|refine drW_intro (by kernel_rfl) ?_)
          exact hr _ W
        | true =>
          cases e2 with
          | false =>
            simp only [Bool.not_false, Bool.false_and, Bool.true_and] at hO'
            subst hO'
            clear hO hn hx hl hx1 hR q5 sz
            repeat' (first|simp only [*, AVB, ↓reduceIte, Nat.reduceEqDiff, Nat.reduceLT, Nat.reduceLeDiff, Nat.reduceBEq, Nat.reduceAdd, dIntBin]|refine drW_intro (by kernel_rfl) ?_)
            exact hr _ W
          | true =>
            cases e3 with
            | false =>
              simp only [Bool.not_false, Bool.false_and, Bool.true_and] at hO'
              subst hO'
              clear hO hn hx hl hx1 hR q5 sz
              repeat' (first|simp only [*, AVB, ↓reduceIte, Nat.reduceEqDiff, Nat.reduceLT, Nat.reduceLeDiff, Nat.reduceBEq, Nat.reduceAdd, dIntBin]|refine drW_intro (by kernel_rfl) ?_)
              exact hr _ W
            | true =>
              cases e5 with
              | true =>
                simp only [Bool.not_false, Bool.not_true, Bool.false_and, Bool.true_and] at hO'
                have q6 : (0 : Int) ≤ X := by simpa using q5
                subst hO'
                clear hO hn hx hl hx1 hR q5
                repeat' (first|simp only [*, AVB, ↓reduceIte, Nat.reduceEqDiff, Nat.reduceLT, Nat.reduceLeDiff, reduceCtorEq, Nat.reduceBEq, Nat.reduceAdd, dIntBin]|refine drW_intro (by kernel_rfl) ?_)
                exact hr _ W
              | false =>
                simp only [Bool.not_false, Bool.true_and] at hO'
                have q6 : ¬ (0 : Int) ≤ X := by simpa using q5
                have HO := Hd.mk hO'
                clear hO hO' hx hr hl hx1 q5
                repeat' (first|simp only [*, AVB, ↓reduceIte, Nat.reduceEqDiff, Nat.reduceLT, Nat.reduceLeDiff, reduceCtorEq, Nat.reduceBEq, Nat.reduceAdd, dIntBin]|refine drW_intro (by kernel_rfl) ?_)
                exact hn _ ⟨i + 1, h, L, L, L, L, L, L, HO⟩ Z
    · have g9 : ¬ (i : Int) < l.length := by omega
      rw [attrsG_end (by omega)] at hO'
      subst hO'
      clear hO hn hr hl hR
      refine G ?_
      exact hx _ _ W
set_option maxHeartbeats 16000000 in
theorem states_L (l : List (List UInt8)) (hl : l.length ≤ 1000000) : callL Tryz.prog (ext11b chk) 58 [.list (l.map D.str)] [] = some (.bool (statesB l), [.no], []) := by
  have lN := lenM l D.str
  refine cK 23 2 Tryz.func58 ?_
  have HL := Hd.mk hl
  clear hl
  obtain ⟨R, hR⟩ : ∃ R, Hd (R = statesG (l.take 0) (l.drop 0)) := ⟨_, rfl⟩
  rw [show statesB l = R from (show R = statesG (l.take 0) (l.drop 0) from hR).symm]
  refine G ?_
  refine loopH (fun st => ∃ i : Nat, i ≤ l.length ∧ st.slot 7 = .int .i64 i ∧ st.slot 5 = .list (l.map D.str) ∧ st.slot 6 = .int .i64 l.length ∧ st.slot 0 = .list (l.map D.str) ∧ st.slot 2 = .bool false ∧ st.room 2 = [] ∧ Hd (R = statesG (l.take i) (l.drop i))) (fun st => l.length - slotI st 7) ?_ ?_
  · exact ⟨0, Nat.zero_le _, I, I, I, I, I, I, hR⟩
  · rintro st K ⟨i, hi, g0, g1, g2, g3, g4, g5, hO⟩ hn hx hr
    have hl : l.length ≤ 1000000 := HL
    have hO' : R = statesG (l.take i) (l.drop i) := hO
    by_cases h : i < l.length
    · have g9 : (i : Int) < l.length := by omega
      have hw := wrapS i (by omega)
      obtain ⟨x, hx1⟩ := some_at h
      rw [statesG_at hx1] at hO'
      have ha := getD_map (f := D.str) hx1
      have q1 := dstate_L (chk := chk) x
      have q4 : callL Tryz.prog (ext11b chk) 78 [.list ((l.map D.str).take i), .str x] [] = some (.bool ((l.take i).contains x), [.no], []) := by
        rw [← List.map_take]
        exact contains_L (l.take i) x (by rw [List.length_take]; omega)
      have sz := szS l
      have gle : (i : Int) ≤ l.length := by omega
      generalize (l.take i).contains x = e5 at *
      generalize stS.contains x = e1 at *
      cases e1 with
      | false =>
        simp only [Bool.false_and] at hO'
        subst hO'
        clear hO hn hx hl hx1 hR sz
        refine G ?_
        exact hr _ W
      | true =>
        cases e5 with
        | true =>
          simp only [Bool.not_true, Bool.false_and, Bool.true_and] at hO'
          subst hO'
          clear hO hn hx hl hx1 hR
          refine G ?_
          exact hr _ W
        | false =>
          simp only [Bool.not_false, Bool.true_and] at hO'
          have HO := Hd.mk hO'
          clear hO hO' hx hr hl hx1
          refine G ?_
          exact hn _ ⟨i + 1, h, L, L, L, L, L, L, HO⟩ Z
    · have g9 : ¬ (i : Int) < l.length := by omega
      rw [statesG_end (by omega)] at hO'
      subst hO'
      clear hO hn hr hl hR
      refine G ?_
      exact hx _ _ W
end Go.Av
namespace Go.Av
open Go.Proofs
variable [Rk] {chk : List D → Bool}
def kindAt (ahead : List Nd) (p : Int) : Int := match ahead[p.toNat]? with | some n => n.k | none => 0
def parOk (ahead : List Nd) (p : Int) : Bool := !(decide (p < -1)) && (!(decide ((ahead.length : Int) ≤ p)) && !(decide (0 ≤ p) && (kindAt ahead p != 1)))
def txtF (n : Nd) : Bool := n.sp == [] && (n.nm == [] && (((n.at_.length : Int) == 0) && (((n.st.length : Int) == 0) && goodB n.tx)))
def elmF (n : Nd) : Bool := n.tx == [] && (!(n.nm == []) && (goodB n.nm && (goodB n.sp && (attrsB n.at_ && statesB n.st))))
def bodyF (n : Nd) : Bool := if n.k = 1 then elmF n else if n.k = 2 then (if n.p < 0 then false else txtF n) else if n.k = 3 then txtF n else false
def nodeF (ahead : List Nd) (n : Nd) : Bool := parOk ahead n.p && bodyF n
def BigN (n : Nd) : Prop := n.at_.length ≤ 140737488355328 ∧ n.st.length ≤ 140737488355328 ∧ n.nm.length ≤ 140737488355328 ∧ n.sp.length ≤ 140737488355328 ∧ n.tx.length ≤ 140737488355328 ∧ ∀ a ∈ n.at_, BigA a
def SmallN (n : Nd) : Prop := n.at_.length ≤ 1000000 ∧ n.st.length ≤ 1000000 ∧ n.nm.length ≤ 1000000 ∧ n.sp.length ≤ 1000000 ∧ n.tx.length ≤ 1000000 ∧ ∀ a ∈ n.at_, SmallA a
theorem kind_at {ahead : List Nd} {p : Int} (h0 : 0 ≤ p) (h1 : p < ahead.length) : ∃ p' k' sp nm la ls tx, (ahead.map Nd.d).getD p.toNat .bad = .agg [.int .i64 p', .int .i64 k', .str sp, .str nm, .list la, .list ls, .str tx] ∧ kindAt ahead p = k' := by
  obtain ⟨x, hx⟩ := some_at (show p.toNat < ahead.length by omega)
  refine ⟨x.p, x.k, x.sp, x.nm, x.at_.map At.d, x.st.map .str, x.tx, getD_map (f := Nd.d) hx, ?_⟩
  unfold kindAt
  rw [hx]
set_option maxHeartbeats 16000000 in
theorem body_L (ahead : List Nd) (n : Nd) (hn : SmallN n) (h : parOk ahead n.p = true) : callL Tryz.prog (ext11b chk) 38 [.list (ahead.map Nd.d), n.d] [] = some (.bool (bodyF n), [.no], []) := by
  obtain ⟨p, k, sp, nm, la, ls, tx⟩ := n
  obtain ⟨s1, s2, s3, s4, s5, s6⟩ := hn
  have q1 := dright_L (chk := chk) nm s3
  have q2 := dright_L (chk := chk) sp s4
  have q3 := dright_L (chk := chk) tx s5
  have q4 := attrs_L (chk := chk) la s1 s6
  have q5 := states_L (chk := chk) ls s2
  have lN := lenM ahead Nd.d
  have lA := lenM la At.d
  have lS := lenM ls D.str
  clear s1 s2 s3 s4 s5 s6
  unfold parOk at h
  simp only [Bool.and_eq_true, Bool.not_eq_eq_eq_not, Bool.not_true, decide_eq_false_iff_not] at h
  obtain ⟨h1, h2, h3⟩ := h
  simp only [bodyF, elmF, txtF, Nd.d]
  generalize goodB nm = e1 at *
  generalize goodB sp = e2 at *
  generalize goodB tx = e3 at *
  generalize attrsB la = e4 at *
  generalize statesB ls = e5 at *
  generalize la.map At.d = LA at *
  generalize ls.map D.str = LS at *
  by_cases h0 : 0 ≤ p
  · obtain ⟨p', k', sp', nm', la', ls', tx', ha, hk⟩ := kind_at (ahead := ahead) h0 (by omega)
    rw [hk] at h3
    have h5 : ¬ p < 0 := by omega
    have h4 : (k' != 1) = false := by simpa [h0] using h3
    clear h3 hk
    generalize ahead.map Nd.d = AH at *
    have gp : p < AH.length := by omega
    have h2' : ¬ (AH.length : Int) ≤ p := by omega
    clear lN h2
    by_cases k1 : k = 1
    · subst k1
      cases c1 : (tx == []) with
      | false =>
        exact cW 93 4 Tryz.func38
      | true =>
        cases c2 : (nm == []) with
        | true =>
          exact cW 93 4 Tryz.func38
        | false =>
          cases e1 with
          | false =>
            exact cW 93 4 Tryz.func38
          | true =>
            cases e2 with
            | false =>
              exact cW 93 4 Tryz.func38
            | true =>
              cases e4 with
              | false =>
                exact cW 93 4 Tryz.func38
              | true =>
                exact cW 93 4 Tryz.func38
    · by_cases k2 : k = 2
      · subst k2
        cases c1 : (sp == []) with
        | false =>
          exact cW 93 4 Tryz.func38
        | true =>
          cases c2 : (nm == []) with
          | false =>
            exact cW 93 4 Tryz.func38
          | true =>
            cases c3 : ((la.length : Int) == 0) with
            | false =>
              exact cW 93 4 Tryz.func38
            | true =>
              cases c4 : ((ls.length : Int) == 0) with
              | false =>
                exact cW 93 4 Tryz.func38
              | true =>
                exact cW 93 4 Tryz.func38
      · by_cases k3 : k = 3
        · subst k3
          cases c1 : (sp == []) with
          | false =>
            exact cW 93 4 Tryz.func38
          | true =>
            cases c2 : (nm == []) with
            | false =>
              exact cW 93 4 Tryz.func38
            | true =>
              cases c3 : ((la.length : Int) == 0) with
              | false =>
                exact cW 93 4 Tryz.func38
              | true =>
                cases c4 : ((ls.length : Int) == 0) with
                | false =>
                  exact cW 93 4 Tryz.func38
                | true =>
                  exact cW 93 4 Tryz.func38
        · have b1 : (k == 1) = false := by simpa using k1
          have b2 : (k == 2) = false := by simpa using k2
          have b3 : (k == 3) = false := by simpa using k3
          exact cW 93 4 Tryz.func38
  · have h5 : p < 0 := by omega
    clear h3
    generalize ahead.map Nd.d = AH at *
    have h2' : ¬ (AH.length : Int) ≤ p := by omega
    clear lN h2
    by_cases k1 : k = 1
    · subst k1
      cases c1 : (tx == []) with
      | false =>
        exact cW 93 4 Tryz.func38
      | true =>
        cases c2 : (nm == []) with
        | true =>
          exact cW 93 4 Tryz.func38
        | false =>
          cases e1 with
          | false =>
            exact cW 93 4 Tryz.func38
          | true =>
            cases e2 with
            | false =>
              exact cW 93 4 Tryz.func38
            | true =>
              cases e4 with
              | false =>
                exact cW 93 4 Tryz.func38
              | true =>
                exact cW 93 4 Tryz.func38
    · by_cases k2 : k = 2
      · subst k2
        exact cW 93 4 Tryz.func38
      · by_cases k3 : k = 3
        · subst k3
          cases c1 : (sp == []) with
          | false =>
            exact cW 93 4 Tryz.func38
          | true =>
            cases c2 : (nm == []) with
            | false =>
              exact cW 93 4 Tryz.func38
            | true =>
              cases c3 : ((la.length : Int) == 0) with
              | false =>
                exact cW 93 4 Tryz.func38
              | true =>
                cases c4 : ((ls.length : Int) == 0) with
                | false =>
                  exact cW 93 4 Tryz.func38
                | true =>
                  exact cW 93 4 Tryz.func38
        · have b1 : (k == 1) = false := by simpa using k1
          have b2 : (k == 2) = false := by simpa using k2
          have b3 : (k == 3) = false := by simpa using k3
          exact cW 93 4 Tryz.func38
theorem par_L (ahead : List Nd) (n : Nd) (h : parOk ahead n.p = false) : callL Tryz.prog (ext11b chk) 38 [.list (ahead.map Nd.d), n.d] [] = some (.bool false, [.no], []) := by
  obtain ⟨p, k, sp, nm, la, ls, tx⟩ := n
  have lN := lenM ahead Nd.d
  unfold parOk at h
  simp only [Nd.d]
  simp only [] at h
  generalize la.map At.d = LA at *
  generalize ls.map D.str = LS at *
  by_cases h1 : p < -1
  · generalize ahead.map Nd.d = AH at *
    clear lN h
    exact cW 93 4 Tryz.func38
  · by_cases h2 : (ahead.length : Int) ≤ p
    · generalize ahead.map Nd.d = AH at *
      have h2' : (AH.length : Int) ≤ p := by omega
      clear lN h h2
      exact cW 93 4 Tryz.func38
    · by_cases h0 : 0 ≤ p
      · obtain ⟨p', k', sp', nm', la', ls', tx', ha, hk⟩ := kind_at (ahead := ahead) h0 (by omega)
        rw [hk] at h
        have h4 : (k' != 1) = true := by simpa [h0, h1, h2] using h
        generalize ahead.map Nd.d = AH at *
        have gp : p < AH.length := by omega
        have h2' : ¬ (AH.length : Int) ≤ p := by omega
        clear lN h2 h hk
        exact cW 93 4 Tryz.func38
      · simp [h0, h1, h2] at h
theorem node_L (ahead : List Nd) (n : Nd) (hn : SmallN n) : callL Tryz.prog (ext11b chk) 38 [.list (ahead.map Nd.d), n.d] [] = some (.bool (nodeF ahead n), [.no], []) := by
  unfold nodeF
  cases h : parOk ahead n.p with
  | true => rw [Bool.true_and]; exact body_L ahead n hn h
  | false => rw [Bool.false_and]; exact par_L ahead n h
end Go.Av
namespace Go.Av
open Go.Proofs
variable [Rk] {chk : List D → Bool}
theorem take_at {α : Type} {xs : List α} {i j : Nat} (h : j < i) : (xs.take i)[j]? = xs[j]? := by
  rw [List.getElem?_take, if_pos h]
theorem rpar_L (ahead : List Nd) (n : Nd) (h : parOk ahead n.p = false) : callL Tryz.prog (ext11b chk) 16 [.list (ahead.map Nd.d), n.d] [] = some (.bool false, [.no], []) := by
  obtain ⟨p, k, sp, nm, la, ls, tx⟩ := n
  have lN := lenM ahead Nd.d
  unfold parOk at h
  simp only [Nd.d]
  simp only [] at h
  generalize la.map At.d = LA at *
  generalize ls.map D.str = LS at *
  by_cases h1 : p < -1
  · generalize ahead.map Nd.d = AH at *
    clear lN h
    exact cW 185 4 Tryz.func16
  · by_cases h2 : (ahead.length : Int) ≤ p
    · generalize ahead.map Nd.d = AH at *
      have h2' : (AH.length : Int) ≤ p := by omega
      clear lN h h2
      exact cW 185 4 Tryz.func16
    · by_cases h0 : 0 ≤ p
      · obtain ⟨p', k', sp', nm', la', ls', tx', ha, hk⟩ := kind_at (ahead := ahead) h0 (by omega)
        rw [hk] at h
        have h4 : (k' != 1) = true := by simpa [h0, h1, h2] using h
        generalize ahead.map Nd.d = AH at *
        have gp : p < AH.length := by omega
        have h2' : ¬ (AH.length : Int) ≤ p := by omega
        clear lN h2 h hk
        exact cW 185 4 Tryz.func16
      · simp [h0, h1, h2] at h
set_option maxHeartbeats 64000000 in
theorem relm1_L (AH : List D) (p : Int) (sp nm : List UInt8) (la : List At) (ls : List (List UInt8)) (tx : List UInt8) (hn : BigN ⟨p, 1, sp, nm, la, ls, tx⟩) (h1 : ¬ p < -1) (h2' : ¬ (AH.length : Int) ≤ p) (h0 : 0 ≤ p) (gp : p < AH.length) (p' k' : Int) (sp' nm' : List UInt8) (la' ls' : List D) (tx' : List UInt8) (ha : AH.getD p.toNat .bad = .agg [.int .i64 p', .int .i64 k', .str sp', .str nm', .list la', .list ls', .str tx']) (h4 : (k' != 1) = false) :
    callL Tryz.prog (ext11b chk) 16 [.list AH, .agg [.int .i64 p, .int .i64 1, .str sp, .str nm, .list (la.map At.d), .list (ls.map D.str), .str tx]] [] = some (.bool (elmF ⟨p, 1, sp, nm, la, ls, tx⟩), [.no], []) := by
  obtain ⟨s1, s2, s3, s4, s5, s6⟩ := hn
  have q1 := rright_L (chk := chk) nm s3
  have q2 := rright_L (chk := chk) sp s4
  clear s3 s4 s5
  have lA := lenM la At.d
  have lS := lenM ls D.str
  simp only [elmF]
  have H1 := Hd.mk s1
  have H2 := Hd.mk s2
  have H6 := Hd.mk s6
  clear s1 s2 s6
  cases c1 : (tx == []) with
  | false =>
    generalize la.map At.d = LA at *
    generalize ls.map D.str = LS at *
    generalize goodB nm = e1 at *
    generalize goodB sp = e2 at *
    exact cW 185 4 Tryz.func16
  | true =>
    have htx : tx = [] := by simpa using c1
    subst htx
    clear c1
    cases c2 : (nm == []) with
    | true =>
      generalize la.map At.d = LA at *
      generalize ls.map D.str = LS at *
      generalize goodB nm = e1 at *
      generalize goodB sp = e2 at *
      exact cW 185 4 Tryz.func16
    | false =>
      cases c3 : goodB nm with
      | false =>
        rw [c3] at q1
        generalize la.map At.d = LA at *
        generalize ls.map D.str = LS at *
        exact cW 185 4 Tryz.func16
      | true =>
        cases c4 : goodB sp with
        | false =>
          rw [c3] at q1
          rw [c4] at q2
          generalize la.map At.d = LA at *
          generalize ls.map D.str = LS at *
          exact cW 185 4 Tryz.func16
        | true =>
          rw [c3] at q1
          rw [c4] at q2
          clear c3 c4
          obtain ⟨R, hR⟩ : ∃ R, Hd (R = (attrsG (la.take 0) (la.drop 0) && statesB ls)) := ⟨_, rfl⟩
          rw [show (true && (!false && (true && (true && (attrsB la && statesB ls))))) = R from (show R = (attrsG (la.take 0) (la.drop 0) && statesB ls) from hR).symm]
          have b22 : ((1 : Int) == 2) = false := rfl
          have b33 : ((1 : Int) == 3) = false := rfl
          have b11 : ((1 : Int) != 1) = false := rfl
          refine cK 185 4 Tryz.func16 ?_
          refine G ?_
          clear c2 q1 q2 h1 h2' h0 gp ha h4
          refine loopH (fun st => ∃ i : Nat, i ≤ la.length ∧ st.slot 5 = .int .i64 i ∧ st.slot 0 = .list AH ∧ st.slot 3 = .ptr 3 1 0 ∧ st.box 3 = some ⟨1, [.int .i64 p, .int .i64 1, .str sp, .str nm, .list (la.map At.d), .list (ls.map D.str), .str []], [.no, .no, .no, .no, .no, .no, .no]⟩ ∧ st.slot 4 = .bool false ∧ st.room 4 = [] ∧ Hd (R = (attrsG (la.take i) (la.drop i) && statesB ls))) (fun st => la.length - slotI st 5) ?_ ?_
          · exact ⟨0, Nat.zero_le _, I, I, I, I, I, I, hR⟩
          · rintro st K ⟨i, hi, g5, g0, g3, gb, g4, gr, hO⟩ hn hx hr
            have hl : la.length ≤ 140737488355328 := H1
            have hO' : R = (attrsG (la.take i) (la.drop i) && statesB ls) := hO
            clear hO
            by_cases h : i < la.length
            · have g9 : (i : Int) < la.length := by omega
              have hw := wrapS i (by omega)
              obtain ⟨x, hx1⟩ := some_at h
              obtain ⟨s1, s2, s3⟩ : BigA x := (show ∀ a ∈ la, BigA a from H6) x (List.mem_of_getElem? hx1)
              rw [attrsG_at hx1] at hO'
              have ha := getD_map (f := At.d) hx1
              obtain ⟨a1, a2, a3⟩ := x
              have ha2 : (la.map At.d).getD i .bad = .agg [.str a1, .str a2, .str a3] := ha
              clear ha hx1
              have r1 := rright_L (chk := chk) a1 s1
              have r2 := rright_L (chk := chk) a2 s2
              have r3 := rright_L (chk := chk) a3 s3
              simp only [atOk] at hO'
              generalize hrest : (attrsG (la.take (i + 1)) (la.drop (i + 1)) && statesB ls) = rest at *
              rw [Bool.and_assoc, hrest] at hO'
              have HREST := Hd.mk hrest
              clear hrest s1 s2 s3
              cases f0 : (a2 == []) with
              | true =>
                rw [f0] at hO'
                simp only [Bool.not_true, Bool.false_and] at hO'
                subst hO'
                generalize goodB a1 = e1 at *
                generalize goodB a2 = e2 at *
                generalize goodB a3 = e3 at *
                clear hn hx hl hR HREST
                refine G ?_
                exact hr _ W
              | false =>
                rw [f0] at hO'
                cases e2 : goodB a2 with
                | false =>
                  rw [e2] at hO' r2
                  simp only [Bool.not_false, Bool.false_and, Bool.and_false] at hO'
                  subst hO'
                  generalize goodB a1 = e1 at *
                  generalize goodB a3 = e3 at *
                  clear hn hx hl hR HREST
                  refine G ?_
                  exact hr _ W
                | true =>
                  cases e1 : goodB a1 with
                  | false =>
                    rw [e1] at hO' r1
                    rw [e2] at r2
                    simp only [Bool.not_false, Bool.false_and, Bool.and_false] at hO'
                    subst hO'
                    generalize goodB a3 = e3 at *
                    clear hn hx hl hR HREST
                    refine G ?_
                    exact hr _ W
                  | true =>
                    cases e3 : goodB a3 with
                    | false =>
                      rw [e3] at hO' r3
                      rw [e2] at r2
                      rw [e1] at r1
                      simp only [Bool.not_false, Bool.false_and, Bool.and_false] at hO'
                      subst hO'
                      clear hn hx hl hR HREST
                      refine G ?_
                      exact hr _ W
                    | true =>
                      rw [e1] at r1 hO'
                      rw [e2] at r2 hO'
                      rw [e3] at r3 hO'
                      simp only [Bool.not_false, Bool.true_and] at hO'
                      have HO : Hd (R = (!(((la.take i).drop 0).any (sameN a1 a2)) && rest)) := hO'
                      clear hO' hx e1 e2 e3
                      refine G ?_
                      clear r1 r2 r3 f0 ha2
                      have HI := Hd.mk h
                      have G5 := Hd.mk g5
                      clear h g9 hl
                      refine loopH (fun st' => ∃ j g : Nat, j ≤ i ∧ st'.slot 7 = .int .i64 j ∧ st'.slot 5 = .int .i64 i ∧ st'.slot 0 = .list AH ∧ st'.slot 3 = .ptr 3 1 0 ∧ st'.box 3 = some ⟨1, [.int .i64 p, .int .i64 1, .str sp, .str nm, .list (la.map At.d), .list (ls.map D.str), .str []], [.no, .no, .no, .no, .no, .no, .no]⟩ ∧ st'.slot 6 = .ptr 6 g 0 ∧ st'.box 6 = some ⟨g, [.str a1, .str a2, .str a3], [.no, .no, .no]⟩ ∧ st'.slot 4 = .bool false ∧ st'.room 4 = [] ∧ Hd (R = (!(((la.take i).drop j).any (sameN a1 a2)) && rest))) (fun st' => i - slotI st' 7) ?_ ?_
                      · exact ⟨0, st.ctr 6, Nat.zero_le _, I, I, I, I, I, I, I, I, I, HO⟩
                      · clear g5 g0 g3 gb g4 gr
                        rintro st' K' ⟨j, g, hj, j7, j5, j0, j3, jb3, j6, jb6, j4, jr, hO2⟩ hn2 hx2 hr2
                        have hi2 : i < la.length := HI
                        have hl : la.length ≤ 140737488355328 := H1
                        have hO3 : R = (!(((la.take i).drop j).any (sameN a1 a2)) && rest) := hO2
                        clear hO2
                        by_cases h : j < i
                        · have m9 : (j : Int) < i := by omega
                          have m8 : (j : Int) < la.length := by omega
                          have hw2 := wrapS j (by omega)
                          obtain ⟨y, hy1⟩ := some_at (show j < la.length by omega)
                          rw [any_drop (sameN a1 a2) (by rw [take_at h]; exact hy1)] at hO3
                          have hb := getD_map (f := At.d) hy1
                          obtain ⟨b1, b2, b3⟩ := y
                          have hb2 : (la.map At.d).getD j .bad = .agg [.str b1, .str b2, .str b3] := hb
                          clear hb hy1 hi2
                          simp only [sameN] at hO3
                          cases d2 : (b2 == a2) with
                          | false =>
                            rw [d2] at hO3
                            simp only [Bool.and_false, Bool.false_or] at hO3
                            have HO4 : Hd (R = (!(((la.take i).drop (j + 1)).any (sameN a1 a2)) && rest)) := hO3
                            clear hO3 hr2 hx2 hn hr hl
                            repeat' (first|simp only [*, AVB, ↓reduceIte, Nat.reduceEqDiff, Nat.reduceLT, Nat.reduceBEq, Nat.reduceAdd, dIntBin]|refine drW_intro (by kernel_rfl) ?_)
                            exact hn2 _ ⟨j + 1, g, h, L, L, L, L, L, L, L, L, L, HO4⟩ Z
                          | true =>
                            cases d1 : (b1 == a1) with
                            | false =>
                              rw [d1] at hO3
                              simp only [Bool.false_and, Bool.false_or] at hO3
                              have HO4 : Hd (R = (!(((la.take i).drop (j + 1)).any (sameN a1 a2)) && rest)) := hO3
                              clear hO3 hr2 hx2 hn hr hl
                              repeat' (first|simp only [*, AVB, ↓reduceIte, Nat.reduceEqDiff, Nat.reduceLT, Nat.reduceBEq, Nat.reduceAdd, dIntBin]|refine drW_intro (by kernel_rfl) ?_)
                              exact hn2 _ ⟨j + 1, g, h, L, L, L, L, L, L, L, L, L, HO4⟩ Z
                            | true =>
                              rw [d1, d2] at hO3
                              simp only [Bool.and_true, Bool.true_or, Bool.not_true, Bool.false_and] at hO3
                              subst hO3
                              clear hn2 hx2 hR hn hl HREST
                              repeat' (first|simp only [*, AVB, ↓reduceIte, Nat.reduceEqDiff, Nat.reduceLT, Nat.reduceBEq, Nat.reduceAdd, dIntBin]|refine drW_intro (by kernel_rfl) ?_)
                              refine hr2 _ ?_
                              exact hr _ W
                        · have m9 : ¬ (j : Int) < i := by omega
                          rw [any_end (sameN a1 a2) (by rw [List.length_take]; omega)] at hO3
                          simp only [Bool.not_false, Bool.true_and] at hO3
                          have HO4 : Hd (R = (attrsG (la.take (i + 1)) (la.drop (i + 1)) && statesB ls)) := by
                            have e : (attrsG (la.take (i + 1)) (la.drop (i + 1)) && statesB ls) = rest := HREST
                            rw [e]
                            exact hO3
                          clear hO3 hr2 hn2 hr hl
                          refine G ?_
                          refine hx2 _ _ ?_
                          refine G ?_
                          refine hn _ ⟨i + 1, hi2, L, L, L, L, L, L, HO4⟩ ?_
                          · have g5 : st.slot 5 = .int .i64 i := G5
                            simp only [slotI, *, AVB, ↓reduceIte]
                            omega
            · have g9 : ¬ (i : Int) < la.length := by omega
              rw [attrsG_end (by omega), Bool.true_and] at hO'
              have HO : Hd (R = statesG (ls.take 0) (ls.drop 0)) := hO'
              clear hO' hn hr hl hR
              refine G ?_
              refine hx _ _ ?_
              refine G ?_
              have HX := Hd.mk hx
              clear hx g9 h hi
              refine loopH (fun st' => ∃ j : Nat, j ≤ ls.length ∧ st'.slot 8 = .int .i64 j ∧ st'.slot 0 = .list AH ∧ st'.slot 3 = .ptr 3 1 0 ∧ st'.box 3 = some ⟨1, [.int .i64 p, .int .i64 1, .str sp, .str nm, .list (la.map At.d), .list (ls.map D.str), .str []], [.no, .no, .no, .no, .no, .no, .no]⟩ ∧ st'.slot 4 = .bool false ∧ st'.room 4 = [] ∧ Hd (R = statesG (ls.take j) (ls.drop j))) (fun st' => ls.length - slotI st' 8) ?_ ?_
              · exact ⟨0, Nat.zero_le _, I, I, I, I, I, I, HO⟩
              · clear g5 g0 g3 gb g4 gr
                rintro st' K' ⟨j, hj, g8, g0, g3, gb, g4, gr, hO2⟩ hn hx hr
                have hl2 : ls.length ≤ 140737488355328 := H2
                have hO3 : R = statesG (ls.take j) (ls.drop j) := hO2
                clear hO2
                by_cases h : j < ls.length
                · have g9 : (j : Int) < ls.length := by omega
                  have hw := wrapS j (by omega)
                  obtain ⟨x, hx1⟩ := some_at h
                  rw [statesG_at hx1] at hO3
                  have ha := getD_map (f := D.str) hx1
                  have u1 := rstate_L (chk := chk) x
                  have u2 : callL Tryz.prog (ext11b chk) 33 [.list ((ls.map D.str).take j), .str x] [] = some (.bool ((ls.take j).contains x), [.no], []) := by
                    rw [← List.map_take]
                    exact has_L (ls.take j) x (by rw [List.length_take]; omega)
                  have sz := szS ls
                  have gle : (j : Int) ≤ ls.length := by omega
                  generalize (ls.take j).contains x = e5 at *
                  generalize stS.contains x = e1 at *
                  cases e1 with
                  | false =>
                    simp only [Bool.false_and] at hO3
                    subst hO3
                    clear hn hx hl2 hx1 sz
                    repeat' (first|simp only [*, AVB, ↓reduceIte, Nat.reduceEqDiff, Nat.reduceLT, Nat.reduceBEq, dIntBin]|refine drW_intro (by kernel_rfl) ?_)
                    exact hr _ W
                  | true =>
                    cases e5 with
                    | true =>
                      simp only [Bool.not_true, Bool.false_and, Bool.true_and] at hO3
                      subst hO3
                      clear hn hx hl2 hx1
                      repeat' (first|simp only [*, AVB, ↓reduceIte, Nat.reduceEqDiff, Nat.reduceLT, Nat.reduceBEq, dIntBin]|refine drW_intro (by kernel_rfl) ?_)
                      exact hr _ W
                    | false =>
                      simp only [Bool.not_false, Bool.true_and] at hO3
                      have HO3 := Hd.mk hO3
                      clear hO3 hx hr hl2 hx1
                      repeat' (first|simp only [*, AVB, ↓reduceIte, Nat.reduceEqDiff, Nat.reduceLT, Nat.reduceBEq, dIntBin]|refine drW_intro (by kernel_rfl) ?_)
                      exact hn _ ⟨j + 1, h, L, L, L, L, L, L, HO3⟩ Z
                · have g9 : ¬ (j : Int) < ls.length := by omega
                  rw [statesG_end (by omega)] at hO3
                  subst hO3
                  clear hn hr hl2
                  refine G ?_
                  exact hx _ _ W
set_option maxHeartbeats 64000000 in
theorem relm2_L (AH : List D) (p : Int) (sp nm : List UInt8) (la : List At) (ls : List (List UInt8)) (tx : List UInt8) (hn : BigN ⟨p, 1, sp, nm, la, ls, tx⟩) (h1 : ¬ p < -1) (h2' : ¬ (AH.length : Int) ≤ p) (h0 : ¬ 0 ≤ p) :
    callL Tryz.prog (ext11b chk) 16 [.list AH, .agg [.int .i64 p, .int .i64 1, .str sp, .str nm, .list (la.map At.d), .list (ls.map D.str), .str tx]] [] = some (.bool (elmF ⟨p, 1, sp, nm, la, ls, tx⟩), [.no], []) := by
  obtain ⟨s1, s2, s3, s4, s5, s6⟩ := hn
  have q1 := rright_L (chk := chk) nm s3
  have q2 := rright_L (chk := chk) sp s4
  clear s3 s4 s5
  have lA := lenM la At.d
  have lS := lenM ls D.str
  simp only [elmF]
  have H1 := Hd.mk s1
  have H2 := Hd.mk s2
  have H6 := Hd.mk s6
  clear s1 s2 s6
  cases c1 : (tx == []) with
  | false =>
    generalize la.map At.d = LA at *
    generalize ls.map D.str = LS at *
    generalize goodB nm = e1 at *
    generalize goodB sp = e2 at *
    exact cW 185 4 Tryz.func16
  | true =>
    have htx : tx = [] := by simpa using c1
    subst htx
    clear c1
    cases c2 : (nm == []) with
    | true =>
      generalize la.map At.d = LA at *
      generalize ls.map D.str = LS at *
      generalize goodB nm = e1 at *
      generalize goodB sp = e2 at *
      exact cW 185 4 Tryz.func16
    | false =>
      cases c3 : goodB nm with
      | false =>
        rw [c3] at q1
        generalize la.map At.d = LA at *
        generalize ls.map D.str = LS at *
        exact cW 185 4 Tryz.func16
      | true =>
        cases c4 : goodB sp with
        | false =>
          rw [c3] at q1
          rw [c4] at q2
          generalize la.map At.d = LA at *
          generalize ls.map D.str = LS at *
          exact cW 185 4 Tryz.func16
        | true =>
          rw [c3] at q1
          rw [c4] at q2
          clear c3 c4
          obtain ⟨R, hR⟩ : ∃ R, Hd (R = (attrsG (la.take 0) (la.drop 0) && statesB ls)) := ⟨_, rfl⟩
          rw [show (true && (!false && (true && (true && (attrsB la && statesB ls))))) = R from (show R = (attrsG (la.take 0) (la.drop 0) && statesB ls) from hR).symm]
          have b22 : ((1 : Int) == 2) = false := rfl
          have b33 : ((1 : Int) == 3) = false := rfl
          have b11 : ((1 : Int) != 1) = false := rfl
          refine cK 185 4 Tryz.func16 ?_
          refine G ?_
          clear c2 q1 q2 h1 h2' h0
          refine loopH (fun st => ∃ i : Nat, i ≤ la.length ∧ st.slot 5 = .int .i64 i ∧ st.slot 0 = .list AH ∧ st.slot 3 = .ptr 3 1 0 ∧ st.box 3 = some ⟨1, [.int .i64 p, .int .i64 1, .str sp, .str nm, .list (la.map At.d), .list (ls.map D.str), .str []], [.no, .no, .no, .no, .no, .no, .no]⟩ ∧ st.slot 4 = .bool false ∧ st.room 4 = [] ∧ Hd (R = (attrsG (la.take i) (la.drop i) && statesB ls))) (fun st => la.length - slotI st 5) ?_ ?_
          · exact ⟨0, Nat.zero_le _, I, I, I, I, I, I, hR⟩
          · rintro st K ⟨i, hi, g5, g0, g3, gb, g4, gr, hO⟩ hn hx hr
            have hl : la.length ≤ 140737488355328 := H1
            have hO' : R = (attrsG (la.take i) (la.drop i) && statesB ls) := hO
            clear hO
            by_cases h : i < la.length
            · have g9 : (i : Int) < la.length := by omega
              have hw := wrapS i (by omega)
              obtain ⟨x, hx1⟩ := some_at h
              obtain ⟨s1, s2, s3⟩ : BigA x := (show ∀ a ∈ la, BigA a from H6) x (List.mem_of_getElem? hx1)
              rw [attrsG_at hx1] at hO'
              have ha := getD_map (f := At.d) hx1
              obtain ⟨a1, a2, a3⟩ := x
              have ha2 : (la.map At.d).getD i .bad = .agg [.str a1, .str a2, .str a3] := ha
              clear ha hx1
              have r1 := rright_L (chk := chk) a1 s1
              have r2 := rright_L (chk := chk) a2 s2
              have r3 := rright_L (chk := chk) a3 s3
              simp only [atOk] at hO'
              generalize hrest : (attrsG (la.take (i + 1)) (la.drop (i + 1)) && statesB ls) = rest at *
              rw [Bool.and_assoc, hrest] at hO'
              have HREST := Hd.mk hrest
              clear hrest s1 s2 s3
              cases f0 : (a2 == []) with
              | true =>
                rw [f0] at hO'
                simp only [Bool.not_true, Bool.false_and] at hO'
                subst hO'
                generalize goodB a1 = e1 at *
                generalize goodB a2 = e2 at *
                generalize goodB a3 = e3 at *
                clear hn hx hl hR HREST
                refine G ?_
                exact hr _ W
              | false =>
                rw [f0] at hO'
                cases e2 : goodB a2 with
                | false =>
                  rw [e2] at hO' r2
                  simp only [Bool.not_false, Bool.false_and, Bool.and_false] at hO'
                  subst hO'
                  generalize goodB a1 = e1 at *
                  generalize goodB a3 = e3 at *
                  clear hn hx hl hR HREST
                  refine G ?_
                  exact hr _ W
                | true =>
                  cases e1 : goodB a1 with
                  | false =>
                    rw [e1] at hO' r1
                    rw [e2] at r2
                    simp only [Bool.not_false, Bool.false_and, Bool.and_false] at hO'
                    subst hO'
                    generalize goodB a3 = e3 at *
                    clear hn hx hl hR HREST
                    refine G ?_
                    exact hr _ W
                  | true =>
                    cases e3 : goodB a3 with
                    | false =>
                      rw [e3] at hO' r3
                      rw [e2] at r2
                      rw [e1] at r1
                      simp only [Bool.not_false, Bool.false_and, Bool.and_false] at hO'
                      subst hO'
                      clear hn hx hl hR HREST
                      refine G ?_
                      exact hr _ W
                    | true =>
                      rw [e1] at r1 hO'
                      rw [e2] at r2 hO'
                      rw [e3] at r3 hO'
                      simp only [Bool.not_false, Bool.true_and] at hO'
                      have HO : Hd (R = (!(((la.take i).drop 0).any (sameN a1 a2)) && rest)) := hO'
                      clear hO' hx e1 e2 e3
                      refine G ?_
                      clear r1 r2 r3 f0 ha2
                      have HI := Hd.mk h
                      have G5 := Hd.mk g5
                      clear h g9 hl
                      refine loopH (fun st' => ∃ j g : Nat, j ≤ i ∧ st'.slot 7 = .int .i64 j ∧ st'.slot 5 = .int .i64 i ∧ st'.slot 0 = .list AH ∧ st'.slot 3 = .ptr 3 1 0 ∧ st'.box 3 = some ⟨1, [.int .i64 p, .int .i64 1, .str sp, .str nm, .list (la.map At.d), .list (ls.map D.str), .str []], [.no, .no, .no, .no, .no, .no, .no]⟩ ∧ st'.slot 6 = .ptr 6 g 0 ∧ st'.box 6 = some ⟨g, [.str a1, .str a2, .str a3], [.no, .no, .no]⟩ ∧ st'.slot 4 = .bool false ∧ st'.room 4 = [] ∧ Hd (R = (!(((la.take i).drop j).any (sameN a1 a2)) && rest))) (fun st' => i - slotI st' 7) ?_ ?_
                      · exact ⟨0, st.ctr 6, Nat.zero_le _, I, I, I, I, I, I, I, I, I, HO⟩
                      · clear g5 g0 g3 gb g4 gr
                        rintro st' K' ⟨j, g, hj, j7, j5, j0, j3, jb3, j6, jb6, j4, jr, hO2⟩ hn2 hx2 hr2
                        have hi2 : i < la.length := HI
                        have hl : la.length ≤ 140737488355328 := H1
                        have hO3 : R = (!(((la.take i).drop j).any (sameN a1 a2)) && rest) := hO2
                        clear hO2
                        by_cases h : j < i
                        · have m9 : (j : Int) < i := by omega
                          have m8 : (j : Int) < la.length := by omega
                          have hw2 := wrapS j (by omega)
                          obtain ⟨y, hy1⟩ := some_at (show j < la.length by omega)
                          rw [any_drop (sameN a1 a2) (by rw [take_at h]; exact hy1)] at hO3
                          have hb := getD_map (f := At.d) hy1
                          obtain ⟨b1, b2, b3⟩ := y
                          have hb2 : (la.map At.d).getD j .bad = .agg [.str b1, .str b2, .str b3] := hb
                          clear hb hy1 hi2
                          simp only [sameN] at hO3
                          cases d2 : (b2 == a2) with
                          | false =>
                            rw [d2] at hO3
                            simp only [Bool.and_false, Bool.false_or] at hO3
                            have HO4 : Hd (R = (!(((la.take i).drop (j + 1)).any (sameN a1 a2)) && rest)) := hO3
                            clear hO3 hr2 hx2 hn hr hl
                            repeat' (first|simp only [*, AVB, ↓reduceIte, Nat.reduceEqDiff, Nat.reduceLT, Nat.reduceBEq, Nat.reduceAdd, dIntBin]|refine drW_intro (by kernel_rfl) ?_)
                            exact hn2 _ ⟨j + 1, g, h, L, L, L, L, L, L, L, L, L, HO4⟩ Z
                          | true =>
                            cases d1 : (b1 == a1) with
                            | false =>
                              rw [d1] at hO3
                              simp only [Bool.false_and, Bool.false_or] at hO3
                              have HO4 : Hd (R = (!(((la.take i).drop (j + 1)).any (sameN a1 a2)) && rest)) := hO3
                              clear hO3 hr2 hx2 hn hr hl
                              repeat' (first|simp only [*, AVB, ↓reduceIte, Nat.reduceEqDiff, Nat.reduceLT, Nat.reduceBEq, Nat.reduceAdd, dIntBin]|refine drW_intro (by kernel_rfl) ?_)
                              exact hn2 _ ⟨j + 1, g, h, L, L, L, L, L, L, L, L, L, HO4⟩ Z
                            | true =>
                              rw [d1, d2] at hO3
                              simp only [Bool.and_true, Bool.true_or, Bool.not_true, Bool.false_and] at hO3
                              subst hO3
                              clear hn2 hx2 hR hn hl HREST
                              repeat' (first|simp only [*, AVB, ↓reduceIte, Nat.reduceEqDiff, Nat.reduceLT, Nat.reduceBEq, Nat.reduceAdd, dIntBin]|refine drW_intro (by kernel_rfl) ?_)
                              refine hr2 _ ?_
                              exact hr _ W
                        · have m9 : ¬ (j : Int) < i := by omega
                          rw [any_end (sameN a1 a2) (by rw [List.length_take]; omega)] at hO3
                          simp only [Bool.not_false, Bool.true_and] at hO3
                          have HO4 : Hd (R = (attrsG (la.take (i + 1)) (la.drop (i + 1)) && statesB ls)) := by
                            have e : (attrsG (la.take (i + 1)) (la.drop (i + 1)) && statesB ls) = rest := HREST
                            rw [e]
                            exact hO3
                          clear hO3 hr2 hn2 hr hl
                          refine G ?_
                          refine hx2 _ _ ?_
                          refine G ?_
                          refine hn _ ⟨i + 1, hi2, L, L, L, L, L, L, HO4⟩ ?_
                          · have g5 : st.slot 5 = .int .i64 i := G5
                            simp only [slotI, *, AVB, ↓reduceIte]
                            omega
            · have g9 : ¬ (i : Int) < la.length := by omega
              rw [attrsG_end (by omega), Bool.true_and] at hO'
              have HO : Hd (R = statesG (ls.take 0) (ls.drop 0)) := hO'
              clear hO' hn hr hl hR
              refine G ?_
              refine hx _ _ ?_
              refine G ?_
              have HX := Hd.mk hx
              clear hx g9 h hi
              refine loopH (fun st' => ∃ j : Nat, j ≤ ls.length ∧ st'.slot 8 = .int .i64 j ∧ st'.slot 0 = .list AH ∧ st'.slot 3 = .ptr 3 1 0 ∧ st'.box 3 = some ⟨1, [.int .i64 p, .int .i64 1, .str sp, .str nm, .list (la.map At.d), .list (ls.map D.str), .str []], [.no, .no, .no, .no, .no, .no, .no]⟩ ∧ st'.slot 4 = .bool false ∧ st'.room 4 = [] ∧ Hd (R = statesG (ls.take j) (ls.drop j))) (fun st' => ls.length - slotI st' 8) ?_ ?_
              · exact ⟨0, Nat.zero_le _, I, I, I, I, I, I, HO⟩
              · clear g5 g0 g3 gb g4 gr
                rintro st' K' ⟨j, hj, g8, g0, g3, gb, g4, gr, hO2⟩ hn hx hr
                have hl2 : ls.length ≤ 140737488355328 := H2
                have hO3 : R = statesG (ls.take j) (ls.drop j) := hO2
                clear hO2
                by_cases h : j < ls.length
                · have g9 : (j : Int) < ls.length := by omega
                  have hw := wrapS j (by omega)
                  obtain ⟨x, hx1⟩ := some_at h
                  rw [statesG_at hx1] at hO3
                  have ha := getD_map (f := D.str) hx1
                  have u1 := rstate_L (chk := chk) x
                  have u2 : callL Tryz.prog (ext11b chk) 33 [.list ((ls.map D.str).take j), .str x] [] = some (.bool ((ls.take j).contains x), [.no], []) := by
                    rw [← List.map_take]
                    exact has_L (ls.take j) x (by rw [List.length_take]; omega)
                  have sz := szS ls
                  have gle : (j : Int) ≤ ls.length := by omega
                  generalize (ls.take j).contains x = e5 at *
                  generalize stS.contains x = e1 at *
                  cases e1 with
                  | false =>
                    simp only [Bool.false_and] at hO3
                    subst hO3
                    clear hn hx hl2 hx1 sz
                    repeat' (first|simp only [*, AVB, ↓reduceIte, Nat.reduceEqDiff, Nat.reduceLT, Nat.reduceBEq, dIntBin]|refine drW_intro (by kernel_rfl) ?_)
                    exact hr _ W
                  | true =>
                    cases e5 with
                    | true =>
                      simp only [Bool.not_true, Bool.false_and, Bool.true_and] at hO3
                      subst hO3
                      clear hn hx hl2 hx1
                      repeat' (first|simp only [*, AVB, ↓reduceIte, Nat.reduceEqDiff, Nat.reduceLT, Nat.reduceBEq, dIntBin]|refine drW_intro (by kernel_rfl) ?_)
                      exact hr _ W
                    | false =>
                      simp only [Bool.not_false, Bool.true_and] at hO3
                      have HO3 := Hd.mk hO3
                      clear hO3 hx hr hl2 hx1
                      repeat' (first|simp only [*, AVB, ↓reduceIte, Nat.reduceEqDiff, Nat.reduceLT, Nat.reduceBEq, dIntBin]|refine drW_intro (by kernel_rfl) ?_)
                      exact hn _ ⟨j + 1, h, L, L, L, L, L, L, HO3⟩ Z
                · have g9 : ¬ (j : Int) < ls.length := by omega
                  rw [statesG_end (by omega)] at hO3
                  subst hO3
                  clear hn hr hl2
                  refine G ?_
                  exact hx _ _ W
set_option maxHeartbeats 16000000 in
theorem rbody_L (ahead : List Nd) (n : Nd) (hn : BigN n) (h : parOk ahead n.p = true) : callL Tryz.prog (ext11b chk) 16 [.list (ahead.map Nd.d), n.d] [] = some (.bool (bodyF n), [.no], []) := by
  obtain ⟨p, k, sp, nm, la, ls, tx⟩ := n
  have lN := lenM ahead Nd.d
  unfold parOk at h
  simp only [Bool.and_eq_true, Bool.not_eq_eq_eq_not, Bool.not_true, decide_eq_false_iff_not] at h
  obtain ⟨h1, h2, h3⟩ := h
  simp only [bodyF, txtF, Nd.d]
  by_cases h0 : 0 ≤ p
  · obtain ⟨p', k', sp', nm', la', ls', tx', ha, hk⟩ := kind_at (ahead := ahead) h0 (by omega)
    rw [hk] at h3
    have h5 : ¬ p < 0 := by omega
    have h4 : (k' != 1) = false := by simpa [h0] using h3
    clear h3 hk
    generalize ahead.map Nd.d = AH at *
    have gp : p < AH.length := by omega
    have h2' : ¬ (AH.length : Int) ≤ p := by omega
    clear lN h2
    by_cases k1 : k = 1
    · subst k1
      rw [if_pos rfl]
      exact relm1_L AH p sp nm la ls tx hn h1 h2' h0 gp p' k' sp' nm' la' ls' tx' ha h4
    · obtain ⟨s1, s2, s3, s4, s5, s6⟩ := hn
      have q3 := rright_L (chk := chk) tx s5
      have lA := lenM la At.d
      have lS := lenM ls D.str
      clear s1 s2 s3 s4 s5 s6
      generalize goodB tx = e3 at *
      generalize la.map At.d = LA at *
      generalize ls.map D.str = LS at *
      by_cases k2 : k = 2
      · subst k2
        cases c1 : (sp == []) with
        | false =>
          exact cW 185 4 Tryz.func16
        | true =>
          cases c2 : (nm == []) with
          | false =>
            exact cW 185 4 Tryz.func16
          | true =>
            cases c3 : ((la.length : Int) == 0) with
            | false =>
              exact cW 185 4 Tryz.func16
            | true =>
              cases c4 : ((ls.length : Int) == 0) with
              | false =>
                exact cW 185 4 Tryz.func16
              | true =>
                cases e3 with
                | false =>
                  exact cW 185 4 Tryz.func16
                | true =>
                  exact cW 185 4 Tryz.func16
      · by_cases k3 : k = 3
        · subst k3
          cases c1 : (sp == []) with
          | false =>
            exact cW 185 4 Tryz.func16
          | true =>
            cases c2 : (nm == []) with
            | false =>
              exact cW 185 4 Tryz.func16
            | true =>
              cases c3 : ((la.length : Int) == 0) with
              | false =>
                exact cW 185 4 Tryz.func16
              | true =>
                cases c4 : ((ls.length : Int) == 0) with
                | false =>
                  exact cW 185 4 Tryz.func16
                | true =>
                  cases e3 with
                  | false =>
                    exact cW 185 4 Tryz.func16
                  | true =>
                    exact cW 185 4 Tryz.func16
        · have b1 : (k != 1) = true := by simpa using k1
          have b2 : (k == 2) = false := by simpa using k2
          have b3 : (k == 3) = false := by simpa using k3
          exact cW 185 4 Tryz.func16
  · have h5 : p < 0 := by omega
    clear h3
    generalize ahead.map Nd.d = AH at *
    have h2' : ¬ (AH.length : Int) ≤ p := by omega
    clear lN h2
    by_cases k1 : k = 1
    · subst k1
      rw [if_pos rfl]
      exact relm2_L AH p sp nm la ls tx hn h1 h2' h0
    · obtain ⟨s1, s2, s3, s4, s5, s6⟩ := hn
      have q3 := rright_L (chk := chk) tx s5
      have lA := lenM la At.d
      have lS := lenM ls D.str
      clear s1 s2 s3 s4 s5 s6
      generalize goodB tx = e3 at *
      generalize la.map At.d = LA at *
      generalize ls.map D.str = LS at *
      by_cases k2 : k = 2
      · subst k2
        cases c1 : (sp == []) with
        | false =>
          exact cW 185 4 Tryz.func16
        | true =>
          cases c2 : (nm == []) with
          | false =>
            exact cW 185 4 Tryz.func16
          | true =>
            cases c3 : ((la.length : Int) == 0) with
            | false =>
              exact cW 185 4 Tryz.func16
            | true =>
              cases c4 : ((ls.length : Int) == 0) with
              | false =>
                exact cW 185 4 Tryz.func16
              | true =>
                cases e3 with
                | false =>
                  exact cW 185 4 Tryz.func16
                | true =>
                  exact cW 185 4 Tryz.func16
      · by_cases k3 : k = 3
        · subst k3
          cases c1 : (sp == []) with
          | false =>
            exact cW 185 4 Tryz.func16
          | true =>
            cases c2 : (nm == []) with
            | false =>
              exact cW 185 4 Tryz.func16
            | true =>
              cases c3 : ((la.length : Int) == 0) with
              | false =>
                exact cW 185 4 Tryz.func16
              | true =>
                cases c4 : ((ls.length : Int) == 0) with
                | false =>
                  exact cW 185 4 Tryz.func16
                | true =>
                  cases e3 with
                  | false =>
                    exact cW 185 4 Tryz.func16
                  | true =>
                    exact cW 185 4 Tryz.func16
        · have b1 : (k != 1) = true := by simpa using k1
          have b2 : (k == 2) = false := by simpa using k2
          have b3 : (k == 3) = false := by simpa using k3
          exact cW 185 4 Tryz.func16
theorem rnode_L2 (ahead : List Nd) (n : Nd) (hn : BigN n) : callL Tryz.prog (ext11b chk) 16 [.list (ahead.map Nd.d), n.d] [] = some (.bool (nodeF ahead n), [.no], []) := by
  unfold nodeF
  cases h : parOk ahead n.p with
  | true => rw [Bool.true_and]; exact rbody_L ahead n hn h
  | false => rw [Bool.false_and]; exact rpar_L ahead n h
end Go.Av
namespace Go.Av
open Go.Proofs
variable [Rk] {chk : List D → Bool}
def rootB (n : Nd) : Bool := n.k == 1 && decide (n.p < 0)
def chkG : List Nd → List Nd → Int → Int × Int
  | a, [], roots => if roots = 1 then (0, 0) else (15, a.length)
  | a, n :: r, roots => if nodeF a n = true then chkG (a ++ [n]) r (if rootB n = true then roots + 1 else roots) else (10, a.length)
def chkF (ns : List Nd) : Int × Int := chkG [] ns 0
theorem chkG_at {xs : List Nd} {i : Nat} {x : Nd} (roots : Int) (hx : xs[i]? = some x) : chkG (xs.take i) (xs.drop i) roots = if nodeF (xs.take i) x = true then chkG (xs.take (i + 1)) (xs.drop (i + 1)) (if rootB x = true then roots + 1 else roots) else (10, (i : Int)) := by
  have h1 : i < xs.length := (List.getElem?_eq_some_iff.1 hx).1
  have e1 : xs[i] = x := (List.getElem?_eq_some_iff.1 hx).2
  rw [List.drop_eq_getElem_cons h1, e1, chkG, List.take_succ_eq_append_getElem h1, e1, List.length_take, Nat.min_eq_left (by omega)]
theorem chkG_end {xs : List Nd} {i : Nat} (roots : Int) (h : xs.length = i) : chkG (xs.take i) (xs.drop i) roots = if roots = 1 then (0, 0) else (15, (i : Int)) := by
  subst h
  rw [List.drop_length, List.take_length, chkG]
def BigD (ns : List Nd) : Prop := ns.length ≤ 140737488355328 ∧ ∀ n ∈ ns, BigN n
def SmallD (ns : List Nd) : Prop := ns.length ≤ 10000 ∧ ∀ n ∈ ns, SmallN n
theorem SmallA.big {a : At} (h : SmallA a) : BigA a := ⟨Nat.le_trans h.1 (by decide), Nat.le_trans h.2.1 (by decide), Nat.le_trans h.2.2 (by decide)⟩
theorem SmallN.big {n : Nd} (h : SmallN n) : BigN n := ⟨Nat.le_trans h.1 (by decide), Nat.le_trans h.2.1 (by decide), Nat.le_trans h.2.2.1 (by decide), Nat.le_trans h.2.2.2.1 (by decide), Nat.le_trans h.2.2.2.2.1 (by decide), fun a ha => (h.2.2.2.2.2 a ha).big⟩
theorem SmallD.big {ns : List Nd} (h : SmallD ns) : BigD ns := ⟨Nat.le_trans h.1 (by decide), fun n hn => (h.2 n hn).big⟩
theorem SmallD.small {ns : List Nd} (h : SmallD ns) : Small ns := ⟨h.1, fun n hn => ⟨(h.2 n hn).1, (h.2 n hn).2.1⟩⟩
theorem great_smallD {ns : List Nd} {m : Nat} (h : greatF ns m = false) (hm : m ≤ 10000) : SmallD ns := by
  unfold greatF at h
  simp only [Bool.or_eq_false_iff, decide_eq_false_iff_not, List.any_eq_false] at h
  refine ⟨by omega, fun n hn => ?_⟩
  have h1 := h.2 n hn
  unfold ndG ndG0 at h1
  simp only [Bool.or_eq_true, decide_eq_true_eq, not_or, List.any_eq_true, not_exists, not_and] at h1
  refine ⟨by omega, by omega, by omega, by omega, by omega, fun a ha => ?_⟩
  have h2 := h1.2 a ha
  unfold atG at h2
  simp only [Bool.or_eq_true, decide_eq_true_eq, not_or] at h2
  exact ⟨by omega, by omega, by omega⟩
set_option maxHeartbeats 16000000 in
theorem rcheck_L (ns : List Nd) (hS : BigD ns) : callL Tryz.prog (ext11b chk) 5 [.list (ns.map Nd.d)] [] = some (.tuple [.int .i64 (chkF ns).1, .int .i64 (chkF ns).2], [.no, .no], []) := by
  have lN := lenM ns Nd.d
  have HL := Hd.mk hS.1
  have HS := Hd.mk hS
  clear hS
  obtain ⟨R1, R2, hR⟩ : ∃ R1 R2, Hd ((R1, R2) = chkG (ns.take 0) (ns.drop 0) 0) := ⟨_, _, rfl⟩
  have e : chkF ns = (R1, R2) := (show (R1, R2) = chkG (ns.take 0) (ns.drop 0) 0 from hR).symm
  rw [e]
  clear e
  refine callK (m := 42) (res := [2, 3]) (rs := [.tmp 2, .tmp 3]) rfl Tryz.func5 rfl rfl rfl rfl rfl ?_
  refine G ?_
  refine loopH (fun st => ∃ (i : Nat) (roots : Int), i ≤ ns.length ∧ (0 ≤ roots ∧ roots ≤ i) ∧ st.slot 5 = .int .i64 i ∧ st.room 5 = [] ∧ st.slot 4 = .int .i64 roots ∧ st.slot 0 = .list (ns.map Nd.d) ∧ st.slot 2 = .int .i64 0 ∧ st.room 2 = [] ∧ st.slot 3 = .int .i64 0 ∧ st.room 3 = [] ∧ Hd ((R1, R2) = chkG (ns.take i) (ns.drop i) roots)) (fun st => ns.length - slotI st 5) ?_ ?_
  · exact ⟨0, 0, Nat.zero_le _, ⟨by decide, by decide⟩, I, I, I, I, I, I, I, I, hR⟩
  · rintro st K ⟨i, roots, hi, hro, g5, r5, g4, g0, g2, r2, g3, r3, hO⟩ hn hx hr
    have hl : ns.length ≤ 140737488355328 := HL
    have hO' : (R1, R2) = chkG (ns.take i) (ns.drop i) roots := hO
    clear hO
    by_cases h : i < ns.length
    · have g9 : (i : Int) < ns.length := by omega
      have hw := wrapS i (by omega)
      have hwr : IntKind.i64.wrap (roots + 1) = roots + 1 := wrap64 _ (by omega) (by omega)
      obtain ⟨x, hx1⟩ := some_at h
      have hS : BigD ns := HS
      have hsx := hS.2 x (List.mem_of_getElem? hx1)
      rw [chkG_at roots hx1] at hO'
      have ha := getD_map (f := Nd.d) hx1
      have q1 : callL Tryz.prog (ext11b chk) 16 [.list ((ns.map Nd.d).take i), x.d] [] = some (.bool (nodeF (ns.take i) x), [.no], []) := by
        rw [← List.map_take]
        exact rnode_L2 (ns.take i) x hsx
      have sz := szN ns
      have gle : (i : Int) ≤ ns.length := by omega
      rw [ndat] at ha q1
      have hrt : rootB x = (x.k == 1 && decide (x.p < 0)) := rfl
      rw [hrt] at hO'
      generalize x.at_.map At.d = LA at *
      generalize x.st.map D.str = LS at *
      generalize nodeF (ns.take i) x = b at *
      generalize x.p = p at *
      generalize x.k = k at *
      generalize x.sp = sp at *
      generalize x.nm = nm at *
      generalize x.tx = tx at *
      clear hS hsx hrt hx1
      cases b with
      | false =>
        rw [if_neg (by decide)] at hO'
        simp only [Prod.mk.injEq] at hO'
        obtain ⟨o1, o2⟩ := hO'
        subst o1 o2
        clear hn hx hl hR
        repeat' (first|simp only [*, AVB, ↓reduceIte, Nat.reduceEqDiff, Nat.reduceLT, reduceCtorEq, Nat.reduceBEq, Nat.reduceAdd, dIntBin]|refine drW_intro (by kernel_rfl) ?_)
        exact hr _ W
      | true =>
        rw [if_pos rfl] at hO'
        by_cases c1 : p < 0
        · cases c2 : (k == 1) with
          | true =>
            rw [c2, decide_eq_true c1, Bool.true_and, if_pos rfl] at hO'
            have HO := Hd.mk hO'
            have HR := Hd.mk hro
            clear hO' hx hr hl hro
            repeat' (first|simp only [*, AVB, ↓reduceIte, Nat.reduceEqDiff, Nat.reduceLT, reduceCtorEq, Nat.reduceBEq, Nat.reduceAdd, dIntBin]|refine drW_intro (by kernel_rfl) ?_)
            have hro : 0 ≤ roots ∧ roots ≤ i := HR
            exact hn _ ⟨i + 1, roots + 1, h, ⟨by omega, by omega⟩, L, L, L, L, L, L, L, L, HO⟩ Z
          | false =>
            rw [c2, Bool.false_and, if_neg (by decide)] at hO'
            have HO := Hd.mk hO'
            have HR := Hd.mk hro
            clear hO' hx hr hl hro
            repeat' (first|simp only [*, AVB, ↓reduceIte, Nat.reduceEqDiff, Nat.reduceLT, reduceCtorEq, Nat.reduceBEq, Nat.reduceAdd, dIntBin]|refine drW_intro (by kernel_rfl) ?_)
            have hro : 0 ≤ roots ∧ roots ≤ i := HR
            exact hn _ ⟨i + 1, roots, h, ⟨by omega, by omega⟩, L, L, L, L, L, L, L, L, HO⟩ Z
        · rw [decide_eq_false c1, Bool.and_false, if_neg (by decide)] at hO'
          have HO := Hd.mk hO'
          have HR := Hd.mk hro
          clear hO' hx hr hl hro
          repeat' (first|simp only [*, AVB, ↓reduceIte, Nat.reduceEqDiff, Nat.reduceLT, reduceCtorEq, Nat.reduceBEq, Nat.reduceAdd, dIntBin]|refine drW_intro (by kernel_rfl) ?_)
          have hro : 0 ≤ roots ∧ roots ≤ i := HR
          exact hn _ ⟨i + 1, roots, h, ⟨by omega, by omega⟩, L, L, L, L, L, L, L, L, HO⟩ Z
    · have g9 : ¬ (i : Int) < ns.length := by omega
      have hie : i = ns.length := by omega
      rw [chkG_end roots hie.symm] at hO'
      by_cases c1 : roots = 1
      · rw [if_pos c1] at hO'
        simp only [Prod.mk.injEq] at hO'
        obtain ⟨o1, o2⟩ := hO'
        subst o1 o2 c1
        have b1 : ((1 : Int) != 1) = false := rfl
        clear hn hr hl hR hie
        refine G ?_
        exact hx _ _ W
      · rw [if_neg c1] at hO'
        simp only [Prod.mk.injEq] at hO'
        obtain ⟨o1, o2⟩ := hO'
        have b1 : (roots != 1) = true := by simpa using c1
        subst hie
        subst o1 o2
        clear hn hr hl hR c1
        refine G ?_
        exact hx _ _ W
def errD (r : Int × Int) : D := if r.1 = 0 then .con .nilIface else faultD r.1 r.2
theorem fail_L (k a : Int) : callL Tryz.prog (ext11b chk) 23 [.int .i64 k, .int .i64 a] [] = some (faultD k a, [], []) := callL_ext (ext_in rfl)
set_option maxHeartbeats 16000000 in
theorem check_L (ns : List Nd) (hS : SmallD ns) : callL Tryz.prog (ext11b chk) 22 [.list (ns.map Nd.d)] [] = some (errD (chkF ns), [.no], []) := by
  have lN := lenM ns Nd.d
  have HL := Hd.mk hS.1
  have HS := Hd.mk hS
  clear hS
  obtain ⟨R, hR⟩ : ∃ R, Hd (R = errD (chkG (ns.take 0) (ns.drop 0) 0)) := ⟨_, rfl⟩
  rw [show errD (chkF ns) = R from (show R = errD (chkG (ns.take 0) (ns.drop 0) 0) from hR).symm]
  have hpb : pureB R = true := by
    have e : R = errD (chkG (ns.take 0) (ns.drop 0) 0) := hR
    rw [e]
    unfold errD
    split <;> rfl
  refine cK 37 2 Tryz.func22 ?_
  refine G ?_
  refine loopH (fun st => ∃ (i : Nat) (roots : Int), i ≤ ns.length ∧ (0 ≤ roots ∧ roots ≤ i) ∧ st.slot 8 = .int .i64 i ∧ st.slot 3 = .int .i64 roots ∧ st.slot 0 = .list (ns.map Nd.d) ∧ st.slot 6 = .list (ns.map Nd.d) ∧ st.slot 7 = .int .i64 ns.length ∧ st.slot 2 = .con .nilIface ∧ st.room 2 = [] ∧ Hd (R = errD (chkG (ns.take i) (ns.drop i) roots))) (fun st => ns.length - slotI st 8) ?_ ?_
  · exact ⟨0, 0, Nat.zero_le _, ⟨by decide, by decide⟩, I, I, I, I, I, I, I, hR⟩
  · rintro st K ⟨i, roots, hi, hro, g8, g3, g0, g6, g7, g2, r2, hO⟩ hn hx hr
    have hl : ns.length ≤ 10000 := HL
    have hO' : R = errD (chkG (ns.take i) (ns.drop i) roots) := hO
    clear hO hpb
    by_cases h : i < ns.length
    · have g9 : (i : Int) < ns.length := by omega
      have hw := wrapS i (by omega)
      have hwr : IntKind.i64.wrap (roots + 1) = roots + 1 := wrap64 _ (by omega) (by omega)
      obtain ⟨x, hx1⟩ := some_at h
      have hS : SmallD ns := HS
      have hsx := hS.2 x (List.mem_of_getElem? hx1)
      rw [chkG_at roots hx1] at hO'
      have ha := getD_map (f := Nd.d) hx1
      have q1 : callL Tryz.prog (ext11b chk) 38 [.list ((ns.map Nd.d).take i), x.d] [] = some (.bool (nodeF (ns.take i) x), [.no], []) := by
        rw [← List.map_take]
        exact node_L (ns.take i) x hsx
      have sz := szN ns
      have gle : (i : Int) ≤ ns.length := by omega
      rw [ndat] at ha q1
      have hrt : rootB x = (x.k == 1 && decide (x.p < 0)) := rfl
      rw [hrt] at hO'
      generalize x.at_.map At.d = LA at *
      generalize x.st.map D.str = LS at *
      generalize nodeF (ns.take i) x = b at *
      generalize x.p = p at *
      generalize x.k = k at *
      generalize x.sp = sp at *
      generalize x.nm = nm at *
      generalize x.tx = tx at *
      clear hS hsx hrt hx1
      cases b with
      | false =>
        rw [if_neg (by decide)] at hO'
        have hO2 : R = faultD 10 i := hO'
        have hf := fail_L (chk := chk) 10 i
        unfold faultD at hO2 hf
        subst hO2
        clear hn hx hl hR hO'
        repeat' (first|simp only [*, AVB, ↓reduceIte, Nat.reduceEqDiff, Nat.reduceLT, Nat.reduceLeDiff, reduceCtorEq, Nat.reduceBEq, Nat.reduceAdd, dIntBin]|refine drW_intro (by kernel_rfl) ?_)
        exact hr _ W
      | true =>
        rw [if_pos rfl] at hO'
        by_cases c1 : p < 0
        · cases c2 : (k == 1) with
          | true =>
            rw [c2, decide_eq_true c1, Bool.true_and, if_pos rfl] at hO'
            have HO := Hd.mk hO'
            have HR := Hd.mk hro
            clear hO' hx hr hl hro
            repeat' (first|simp only [*, AVB, ↓reduceIte, Nat.reduceEqDiff, Nat.reduceLT, Nat.reduceLeDiff, reduceCtorEq, Nat.reduceBEq, Nat.reduceAdd, dIntBin]|refine drW_intro (by kernel_rfl) ?_)
            have hro : 0 ≤ roots ∧ roots ≤ i := HR
            exact hn _ ⟨i + 1, roots + 1, h, ⟨by omega, by omega⟩, L, L, L, L, L, L, L, HO⟩ Z
          | false =>
            rw [c2, Bool.false_and, if_neg (by decide)] at hO'
            have HO := Hd.mk hO'
            have HR := Hd.mk hro
            clear hO' hx hr hl hro
            repeat' (first|simp only [*, AVB, ↓reduceIte, Nat.reduceEqDiff, Nat.reduceLT, Nat.reduceLeDiff, reduceCtorEq, Nat.reduceBEq, Nat.reduceAdd, dIntBin]|refine drW_intro (by kernel_rfl) ?_)
            have hro : 0 ≤ roots ∧ roots ≤ i := HR
            exact hn _ ⟨i + 1, roots, h, ⟨by omega, by omega⟩, L, L, L, L, L, L, L, HO⟩ Z
        · rw [decide_eq_false c1, Bool.and_false, if_neg (by decide)] at hO'
          have HO := Hd.mk hO'
          have HR := Hd.mk hro
          clear hO' hx hr hl hro
          have hlt : i + 1 ≤ ns.length := h
          repeat' (first|simp only [*, AVB, ↓reduceIte, Nat.reduceEqDiff, Nat.reduceLT, Nat.reduceLeDiff, reduceCtorEq, Nat.reduceBEq, Nat.reduceAdd, dIntBin]|refine drW_intro (by kernel_rfl) ?_|refine gw_intro (fun h => ?_) (fun h => ?_) <;> try simp only [AVH] at h)
          all_goals (
            have hro : 0 ≤ roots ∧ roots ≤ i := HR
            refine hn _ ⟨i + 1, roots, hlt, ⟨by omega, by omega⟩, L, L, L, L, L, L, L, HO⟩ ?_
            · simp only [slotI, *, AVB, ↓reduceIte]
              omega)
    · have g9 : ¬ (i : Int) < ns.length := by omega
      have hie : i = ns.length := by omega
      rw [chkG_end roots hie.symm] at hO'
      by_cases c1 : roots = 1
      · rw [if_pos c1] at hO'
        have hO2 : R = .con .nilIface := hO'
        subst hO2 c1
        have b1 : ((1 : Int) != 1) = false := rfl
        clear hn hr hl hR hie hO'
        refine G ?_
        exact hx _ _ W
      · rw [if_neg c1] at hO'
        have hO2 : R = faultD 15 i := hO'
        have b1 : (roots != 1) = true := by simpa using c1
        subst hie
        have hf := fail_L (chk := chk) 15 ns.length
        unfold faultD at hO2 hf
        subst hO2
        clear hn hr hl hR c1 hO'
        refine G ?_
        exact hx _ _ W
end Go.Av
namespace Go.Av
open Go.Proofs
variable [Rk] {chk : List D → Bool}
theorem relem_L (ns : List Nd) (n : Int) : callL Tryz.prog (ext11b chk) 11 [.list (ns.map Nd.d), .int .i64 n] [] = some (.bool (elB ns n), [.no], []) := by
  have lN := lenM ns Nd.d
  unfold elB
  by_cases h0 : 0 ≤ n
  · by_cases h1 : n < ns.length
    · obtain ⟨x, hx⟩ := some_at (show n.toNat < ns.length by omega)
      have ha := getD_map (f := Nd.d) hx
      rw [ndat] at ha
      have hk : kAt ns n.toNat = x.k := by unfold kAt; rw [hx]
      rw [decide_eq_true h0, decide_eq_true h1, hk, Bool.true_and, Bool.true_and]
      generalize x.at_.map At.d = LA at *
      generalize x.st.map D.str = LS at *
      generalize x.p = p at *
      generalize x.k = k at *
      generalize x.sp = sp at *
      generalize x.nm = nm at *
      generalize x.tx = tx at *
      clear hx hk
      exact cW 21 4 Tryz.func11
    · rw [decide_eq_true h0, decide_eq_false h1, Bool.true_and, Bool.false_and]
      exact cW 21 4 Tryz.func11
  · rw [decide_eq_false h0, Bool.false_and]
    exact cW 21 4 Tryz.func11
end Go.Av
namespace Go.Av
open Go.Proofs
variable [Rk] {chk : List D → Bool}
def zeroN : Nd := ⟨0, 0, [], [], [], [], []⟩
def inB' (ns : List Nd) (n : Int) : Bool := decide (0 ≤ n) && decide (n < ns.length)
def nodeI (ns : List Nd) (n : Int) : Nd := if inB' ns n = true then ns.getD n.toNat zeroN else zeroN
def atsAt (ns : List Nd) (i : Nat) : List At := match ns[i]? with | some n => n.at_ | none => []
def stsAt (ns : List Nd) (i : Nat) : List (List UInt8) := match ns[i]? with | some n => n.st | none => []
def foundF : Option At → List UInt8 × Bool
  | some a => (a.vl, true)
  | none => ([], false)
def valI (ns : List Nd) (n : Int) (sp nm : List UInt8) : List UInt8 × Bool := if elB ns n = true then foundF ((atsAt ns n.toNat).find? (sameN sp nm)) else ([], false)
def staI (ns : List Nd) (n : Int) (nm : List UInt8) : Bool := elB ns n && (stsAt ns n.toNat).contains nm
theorem find_at {xs : List At} {i : Nat} {x : At} (f : At → Bool) (hx : xs[i]? = some x) : (xs.drop i).find? f = if f x = true then some x else (xs.drop (i + 1)).find? f := by
  have h1 : i < xs.length := (List.getElem?_eq_some_iff.1 hx).1
  have e1 : xs[i] = x := (List.getElem?_eq_some_iff.1 hx).2
  rw [List.drop_eq_getElem_cons h1, e1, List.find?_cons]
  cases f x <;> rfl
theorem find_end {xs : List At} {i : Nat} (f : At → Bool) (h : xs.length ≤ i) : (xs.drop i).find? f = none := by
  rw [List.drop_eq_nil_of_le h]
  rfl
set_option maxHeartbeats 8000000 in
theorem rval39_L (ns : List Nd) (n : Int) (sp nm : List UInt8) (hS : SmallD ns) : callL Tryz.prog (ext11b chk) 15 [.list (ns.map Nd.d), .int .i64 n, .str sp, .str nm] [] = some (.tuple [.str (valI ns n sp nm).1, .bool (valI ns n sp nm).2], [.no, .no], []) := by
  have hE := relem_L (chk := chk) ns n
  have lN := lenM ns Nd.d
  unfold valI
  cases he : elB ns n with
  | false =>
    rw [he] at hE
    rw [if_neg (by simp)]
    clear he hS
    exact callK (m := 46) (res := [8, 9]) (rs := [.tmp 8, .tmp 9]) rfl Tryz.func15 rfl rfl rfl rfl rfl W
  | true =>
    rw [he] at hE
    obtain ⟨i, rfl, hi, hk⟩ := elB_at (ns := ns) (n := n) he
    obtain ⟨x, hx⟩ := some_at hi
    have ha := getD_map (f := Nd.d) hx
    rw [ndat] at ha
    have g9 : (i : Int) < ns.length := by omega
    have tn : (i : Int).toNat = i := by omega
    have hat : atsAt ns i = x.at_ := by unfold atsAt; rw [hx]
    have hst : stsAt ns i = x.st := by unfold stsAt; rw [hx]
    have hsx := hS.2 x (List.mem_of_getElem? hx)
    rw [if_pos rfl, tn, hat]
    have HL := Hd.mk hsx.1
    have lA := lenM x.at_ At.d
    obtain ⟨R, hR⟩ : ∃ R, Hd (R = (x.at_.drop 0).find? (sameN sp nm)) := ⟨_, rfl⟩
    rw [show x.at_.find? (sameN sp nm) = R from (show R = (x.at_.drop 0).find? (sameN sp nm) from hR).symm]
    clear hS hsx hx hat hst hk hi
    generalize x.at_ = l at *
    generalize x.st.map D.str = LS at *
    refine callK (m := 46) (res := [8, 9]) (rs := [.tmp 8, .tmp 9]) rfl Tryz.func15 rfl rfl rfl rfl rfl ?_
    refine G ?_
    clear hE
    refine loopH (fun st => ∃ m : Nat, m ≤ l.length ∧ st.slot 10 = .int .i64 m ∧ st.slot 0 = .list (ns.map Nd.d) ∧ st.slot 1 = .int .i64 i ∧ st.slot 2 = .str sp ∧ st.slot 3 = .str nm ∧ st.slot 8 = .str [] ∧ st.room 8 = [] ∧ st.slot 9 = .bool false ∧ st.room 9 = [] ∧ Hd (R = (l.drop m).find? (sameN sp nm))) (fun st => l.length - slotI st 10) ?_ ?_
    · exact ⟨0, Nat.zero_le _, I, I, I, I, I, I, I, I, I, hR⟩
    · rintro st K ⟨m, hm, g10, g0, g1, g2, g3, g8, r8, g9', r9, hO⟩ hn hx hr
      have hl : l.length ≤ 1000000 := HL
      have hO' : R = (l.drop m).find? (sameN sp nm) := hO
      clear hO
      by_cases h : m < l.length
      · have gm : (m : Int) < l.length := by omega
        have hw := wrapS m (by omega)
        obtain ⟨y, hy1⟩ := some_at h
        rw [find_at _ hy1] at hO'
        have hb := getD_map (f := At.d) hy1
        obtain ⟨a1, a2, a3⟩ := y
        have hb2 : (l.map At.d).getD m .bad = .agg [.str a1, .str a2, .str a3] := hb
        clear hb hy1 hl
        cases c1 : (a1 == sp) with
        | false =>
          rw [show sameN sp nm ⟨a1, a2, a3⟩ = false by show (a1 == sp && a2 == nm) = false; rw [c1]; rfl, if_neg (by decide)] at hO'
          have HO : Hd (R = (l.drop (m + 1)).find? (sameN sp nm)) := hO'
          clear hO' hx hr
          refine G ?_
          exact hn _ ⟨m + 1, h, L, L, L, L, L, L, L, L, L, HO⟩ Z
        | true =>
          cases c2 : (a2 == nm) with
          | false =>
            rw [show sameN sp nm ⟨a1, a2, a3⟩ = false by show (a1 == sp && a2 == nm) = false; rw [c1, c2]; rfl, if_neg (by decide)] at hO'
            have HO : Hd (R = (l.drop (m + 1)).find? (sameN sp nm)) := hO'
            clear hO' hx hr
            refine G ?_
            exact hn _ ⟨m + 1, h, L, L, L, L, L, L, L, L, L, HO⟩ Z
          | true =>
            rw [show sameN sp nm ⟨a1, a2, a3⟩ = true by show (a1 == sp && a2 == nm) = true; rw [c1, c2]; rfl, if_pos rfl] at hO'
            subst hO'
            simp only [foundF] at *
            clear hx hn hR
            refine G ?_
            exact hr _ W
      · have gm : ¬ (m : Int) < l.length := by omega
        rw [find_end _ (by omega)] at hO'
        subst hO'
        simp only [foundF] at *
        clear hn hr hl hR
        refine G ?_
        exact hx _ _ W
end Go.Av
namespace Go.Av
open Go.Proofs
variable [Rk] {chk : List D → Bool}
def roomOf (l : List Int) : Room := if l = [] then .full else .own 3
theorem room_ok (l : List Int) : roomOf l = .full ∨ roomOf l = .own 3 ∨ roomOf l = .fresh := by
  unfold roomOf
  split
  · exact .inl rfl
  · exact .inr (.inl rfl)
theorem room_app (l : List Int) (z : Int) : roomOf (l ++ [z]) = .own 3 := by simp [roomOf]
theorem sz1b (l : List Int) : szOk 1 (l.map (D.int .i64)) = true := by cases l <;> rfl
set_option maxHeartbeats 8000000 in
theorem rrow_L (ns : List Nd) (n : Int) (hS : ns.length ≤ 10000) : callL Tryz.prog (ext11b chk) 55 [.list (ns.map Nd.d), .int .i64 n] [] = some (.list ((rowI ns n).map (.int .i64)), [roomOf (rowI ns n)], []) := by
  have hE := relem_L (chk := chk) ns n
  have lN := lenM ns Nd.d
  unfold rowI
  cases he : elB ns n with
  | false =>
    rw [he] at hE
    rw [if_neg (by simp)]
    have hr0 : roomOf [] = .full := rfl
    clear he hS
    refine cK 42 4 Tryz.func55 ?_
    refine G ?_
    refine loopH (fun st => st.slot 0 = .list (ns.map Nd.d) ∧ st.slot 1 = .int .i64 n ∧ st.slot 6 = .int .i64 0 ∧ st.slot 5 = .list [] ∧ st.room 5 = [.full]) (fun st => 0) ?_ ?_
    · exact ⟨I, I, I, I, I⟩
    · rintro st K ⟨g0, g1, g6, g5, r5⟩ hn hx hr
      clear hn hr
      refine G ?_
      exact hx _ _ W
  | true =>
    rw [he] at hE
    obtain ⟨i, rfl, hi, hk⟩ := elB_at (ns := ns) (n := n) he
    obtain ⟨x, hx⟩ := some_at hi
    have ha := getD_map (f := Nd.d) hx
    rw [ndat] at ha
    have g9 : (i : Int) < ns.length := by omega
    have tn : (i : Int).toNat = i := by omega
    have hp : pAt ns i = x.p := by unfold pAt; rw [hx]
    rw [if_pos rfl, tn, hp]
    have HI := Hd.mk hi
    have HS := Hd.mk hS
    clear hk he hx hp hi hS
    generalize x.at_.map At.d = LA at *
    generalize x.st.map D.str = LS at *
    generalize x.k = xk at *
    generalize x.sp = xsp at *
    generalize x.nm = xnm at *
    generalize x.tx = xtx at *
    generalize x.p = key at *
    refine cK 42 4 Tryz.func55 ?_
    refine G ?_
    refine loopH (fun st => ∃ m : Nat, m ≤ i + 1 ∧ st.slot 6 = .int .i64 m ∧ st.slot 0 = .list (ns.map Nd.d) ∧ st.slot 1 = .int .i64 i ∧ st.slot 5 = .list ((rowL ns key m).map (.int .i64)) ∧ st.room 5 = [roomOf (rowL ns key m)]) (fun st => i + 1 - slotI st 6) ?_ ?_
    · exact ⟨0, Nat.zero_le _, I, I, I, I, I⟩
    · rintro st K ⟨m, hm, g6, g0, g1, g5, r5⟩ hn hx hr
      have hi : i < ns.length := HI
      have hS : ns.length ≤ 10000 := HS
      by_cases h : m < i + 1
      · have gm : (m : Int) ≤ i := by omega
        have gm2 : (m : Int) < ns.length := by omega
        have hw := wrapS m (by omega)
        obtain ⟨y, hy⟩ := some_at (show m < ns.length by omega)
        have hb := getD_map (f := Nd.d) hy
        rw [ndat] at hb
        have hpk : kAt ns m = y.k ∧ pAt ns m = y.p := by unfold kAt pAt; rw [hy]; exact ⟨rfl, rfl⟩
        have hrl := rowL_len (ns := ns) (key := key) (m := m)
        have hro := room_ok (rowL ns key m)
        have hra := room_app (rowL ns key m) m
        have hsz := sz1b (rowL ns key m)
        have hs1 : szOk 1 [D.int .i64 (m : Int)] = true := rfl
        have hl1 : ((rowL ns key m).map (D.int .i64)).length + 1 ≤ 1073741824 := by rw [List.length_map]; omega
        have hl2 : ((rowL ns key m).map (D.int .i64)).length ≤ 1073741823 := by rw [List.length_map]; omega
        have hre : rowL ns key (m + 1) = if y.k = 1 ∧ y.p = key then rowL ns key m ++ [(m : Int)] else rowL ns key m := by rw [rowL, hpk.1, hpk.2]
        clear hy hpk hrl hi hS hx hr
        generalize y.at_.map At.d = YA at *
        generalize y.st.map D.str = YS at *
        generalize y.k = yk at *
        generalize y.p = yp at *
        by_cases c1 : yk = 1
        · by_cases c2 : yp = key
          · rw [if_pos ⟨c1, c2⟩] at hre
            subst c1 c2
            repeat' (first|simp only [*, AVB, ↓reduceIte, Nat.reduceEqDiff, Nat.reduceLT, reduceCtorEq, Nat.reduceBEq, Nat.reduceAdd, dIntBin]|refine drW_intro (by kernel_rfl) ?_)
            refine hn _ ⟨m + 1, h, ?_, ?_, ?_, ?_, ?_⟩ ?_
            ·exact L
            ·exact L
            ·exact L
            · simp only [*, List.map_append, AVB, ↓reduceIte, Nat.reduceEqDiff]
            ·exact L
            · have hgt : m < i + 1 := h
              simp only [slotI, *, AVB, ↓reduceIte]
              omega
          · rw [if_neg (fun h => c2 h.2)] at hre
            have b2 : (yp == key) = false := by simpa using c2
            subst c1
            clear c2 hra hs1 hl1 hl2 hsz hro
            repeat' (first|simp only [*, AVB, ↓reduceIte, Nat.reduceEqDiff, Nat.reduceLT, reduceCtorEq, Nat.reduceBEq, Nat.reduceAdd, dIntBin]|refine drW_intro (by kernel_rfl) ?_)
            refine hn _ ⟨m + 1, h, ?_, ?_, ?_, ?_, ?_⟩ ?_
            ·exact L
            ·exact L
            ·exact L
            · simp only [*, AVB, ↓reduceIte, Nat.reduceEqDiff]
            ·exact L
            · have hgt : m < i + 1 := h
              simp only [slotI, *, AVB, ↓reduceIte]
              omega
        · rw [if_neg (fun h => c1 h.1)] at hre
          have b1 : (yk == 1) = false := by simpa using c1
          clear c1 hra hs1 hl1 hl2 hsz hro
          repeat' (first|simp only [*, AVB, ↓reduceIte, Nat.reduceEqDiff, Nat.reduceLT, reduceCtorEq, Nat.reduceBEq, Nat.reduceAdd, dIntBin]|refine drW_intro (by kernel_rfl) ?_)
          refine hn _ ⟨m + 1, h, ?_, ?_, ?_, ?_, ?_⟩ ?_
          ·exact L
          ·exact L
          ·exact L
          · simp only [*, AVB, ↓reduceIte, Nat.reduceEqDiff]
          ·exact L
          · have hgt : m < i + 1 := h
            simp only [slotI, *, AVB, ↓reduceIte]
            omega
      · obtain rfl : m = i + 1 := by omega
        have gm : ¬ ((i + 1 : Nat) : Int) ≤ i := by omega
        clear hn hr hi hS h
        refine G ?_
        exact hx _ _ W
end Go.Av
namespace Go.Av
open Go.Proofs
variable [Rk]
structure Mv where
  dn : Bool
  nd : Nd
def Nd.at' (n : Nd) (pr : Int) : Nd := { n with p := pr }
def Mv.d (m : Mv) : D := .agg [.bool m.dn, .int .i64 m.nd.p, .int .i64 m.nd.k, .str m.nd.sp, .str m.nd.nm, .list (m.nd.at_.map At.d), .list (m.nd.st.map .str), .str m.nd.tx]
theorem ee34 (t : TypeId) (d : D) : dbin Tryz.prog true .eql 36 (.iface t d) (.con .nilIface) = some (.bool false) := by kernel_rfl
theorem ptrIn_ifx (t : TypeId) (d : D) (o : Nat) (l : List D) : ptrIn (.iface t (.fix d o) :: l) = ptrIn l := rfl
def roomN (l : List Nd) : Room := if l = [] then .full else .own 48
theorem roomN_ok (l : List Nd) : roomN l = .full ∨ roomN l = .own 48 ∨ roomN l = .fresh := by
  unfold roomN
  split
  · exact .inl rfl
  · exact .inr (.inl rfl)
theorem roomN_app (l : List Nd) (z : Nd) : roomN (l ++ [z]) = .own 48 := by simp [roomN]
end Go.Av
namespace Go.Av
open Go.Proofs
variable [Rk] {chk : List D → Bool}
theorem apN (A : List Nd) (z : Nd) : (A ++ [z]).map Nd.d = A.map Nd.d ++ [z.d] := by simp
theorem kind_L (hk : chk [] = true) (k a : Int) : callL Tryz.prog (ext11b chk) 10 [.iface 68 (.fix (.agg [.int .i64 k, .int .i64 a, .con .nilIface]) 0)] [] = some (.int .i64 k, [], []) := callL_ext (ext_ink rfl (if_pos hk))
end Go.Av
namespace Go.Av
open Go.Proofs
variable [Rk] {chk : List D → Bool}
def cntN (n : Nd) : Nat := n.at_.length + n.st.length
def sumN : List Nd → Nat
  | [] => 0
  | n :: r => cntN n + sumN r
theorem sumN_app (a b : List Nd) : sumN (a ++ b) = sumN a + sumN b := by
  induction a with
  | nil => simp [sumN]
  | cons n r ih => simp [sumN, ih]; omega
theorem sumN_take {ns : List Nd} {i : Nat} {n : Nd} (h : ns[i]? = some n) : sumN (ns.take (i + 1)) = sumN (ns.take i) + cntN n := by
  rw [List.take_add_one, h, sumN_app]
  simp [sumN]
theorem sumN_le {ns : List Nd} (hS : ∀ n ∈ ns, SmallN n) (i : Nat) : sumN (ns.take i) ≤ i * 2000000 := by
  induction i with
  | zero => exact Nat.zero_le _
  | succ i this =>
    by_cases h : i < ns.length
    · obtain ⟨n, hn⟩ := some_at h
      have hs := hS n (List.mem_of_getElem? hn)
      rw [sumN_take hn, Nat.succ_mul]
      exact Nat.add_le_add this (Nat.add_le_add hs.1 hs.2.1)
    · rw [List.take_of_length_le (by omega)]
      rw [List.take_of_length_le (by omega)] at this
      exact Nat.le_trans this (Nat.mul_le_mul_right _ (Nat.le_succ i))
def sizeF (ns : List Nd) : Int := ((ns.length + sumN ns : Nat) : Int)
theorem wrapN (z : Int) (n : Nat) (h : z = (n : Int)) (h2 : n ≤ 1000000000000) : IntKind.i64.wrap z = (n : Int) := by rw [wrap64 _ (by omega) (by omega), h]
set_option maxHeartbeats 16000000 in
theorem rsize_L (ns : List Nd) (hS : SmallD ns) : callL Tryz.prog (ext11b chk) 12 [.list (ns.map Nd.d)] [] = some (.int .i64 (sizeF ns), [.no], []) := by
  have lN := lenM ns Nd.d
  have HS := Hd.mk hS
  have he : sizeF ns = ((ns.length + sumN (ns.take ns.length) : Nat) : Int) := by rw [List.take_length]; rfl
  clear hS
  refine callK (m := 28) (res := [2]) (rs := [.tmp 2]) rfl Tryz.func12 rfl rfl rfl rfl rfl ?_
  repeat' (first
    | simp only [*, AVB, AVY, ↓reduceIte, Nat.reduceEqDiff, Nat.reduceLT, Nat.reduceLeDiff, reduceCtorEq, Nat.reduceBEq, String.reduceBEq, Nat.reduceAdd, Nat.reduceSub, Nat.reduceMul, Int.reduceLE, Int.reduceLT, Int.reduceToNat, Int.reduceBEq, Int.reduceBNe, List.zipWith, dIntBin]
    | (refine drW_intro (by kernel_rfl) ?_)
    | (refine gw_intro (fun h => ?_) (fun h => ?_) <;> (try simp only [AVH] at h)))
  refine loopH (fun st => ∃ i : Nat, i ≤ ns.length ∧ st.slot 4 = .int .i64 i ∧ st.slot 0 = .list (ns.map Nd.d) ∧ st.slot 3 = .int .i64 ((i + sumN (ns.take i) : Nat) : Int)) (fun st => ns.length - slotI st 4) ?_ ?_
  · refine ⟨0, Nat.zero_le _, ?_, ?_, ?_⟩
    all_goals simp only [*, AVB, AVY, ↓reduceIte, Nat.reduceEqDiff, Nat.reduceLT, Nat.reduceLeDiff, reduceCtorEq, Nat.reduceBEq, String.reduceBEq, Nat.reduceAdd, Nat.reduceSub, Nat.reduceMul, Int.reduceLE, Int.reduceLT, Int.reduceToNat, Int.reduceBEq, Int.reduceBNe, List.zipWith, dIntBin]
    all_goals rfl
  · rintro st K ⟨i, hi, g4, g0, g3⟩ hn hx hr
    have hSD : SmallD ns := HS
    by_cases h : i < ns.length
    · have g9 : (i : Int) < ns.length := by omega
      have hlN := hSD.1
      have hw := wrapS i (by omega)
      obtain ⟨n, hm⟩ := some_at h
      have hb := getD_map (f := Nd.d) hm
      rw [ndat] at hb
      have hs := hSD.2 n (List.mem_of_getElem? hm)
      have hle := sumN_le hSD.2 i
      have e1 := sumN_take hm
      obtain ⟨S, hSe⟩ : ∃ S, S = sumN (ns.take i) := ⟨_, rfl⟩
      obtain ⟨S2, hS2⟩ : ∃ S2, S2 = sumN (ns.take (i + 1)) := ⟨_, rfl⟩
      rw [← hSe] at e1 hle g3
      have lA := lenM n.at_ At.d
      have lS := lenM n.st D.str
      have w0 : IntKind.i64.wrap ((1 : Int) + n.at_.length) = ((1 + n.at_.length : Nat) : Int) := wrapN _ _ (by omega) (by have := hs.1; omega)
      have w1 : IntKind.i64.wrap (((1 + n.at_.length : Nat) : Int) + n.st.length) = ((1 + cntN n : Nat) : Int) := wrapN _ _ (by unfold cntN; omega) (by have := hs.1; have := hs.2.1; unfold cntN; omega)
      have w2 : IntKind.i64.wrap (((i + S : Nat) : Int) + ((1 + cntN n : Nat) : Int)) = ((i + 1 + S2 : Nat) : Int) := wrapN _ _ (by rw [hS2, e1]; omega) (by have := hs.1; have := hs.2.1; rw [hS2, e1]; unfold cntN; omega)
      have HS2 := Hd.mk hS2
      have HI := Hd.mk h
      clear hSe hS2 e1 hle hs hm hlN hSD h hr hx
      obtain ⟨p, k, sp, nm, la, ls, tx⟩ := n
      simp only [] at hb lA lS w0 w1 w2
      generalize la.map At.d = LA at *
      generalize ls.map D.str = LS at *
      repeat' (first
    | simp only [*, AVB, AVY, ↓reduceIte, Nat.reduceEqDiff, Nat.reduceLT, Nat.reduceLeDiff, reduceCtorEq, Nat.reduceBEq, String.reduceBEq, Nat.reduceAdd, Nat.reduceSub, Nat.reduceMul, Int.reduceLE, Int.reduceLT, Int.reduceToNat, Int.reduceBEq, Int.reduceBNe, List.zipWith, dIntBin]
    | (refine drW_intro (by kernel_rfl) ?_)
    | (refine gw_intro (fun h => ?_) (fun h => ?_) <;> (try simp only [AVH] at h)))
      have hi2 : i < ns.length := HI
      refine hn _ ⟨i + 1, hi2, ?_, ?_, ?_⟩ ?_
      · simp only [*, AVL, ↓reduceIte, Nat.reduceEqDiff, Nat.reduceLT, Nat.reduceLeDiff, reduceCtorEq]
      · simp only [*, AVL, ↓reduceIte, Nat.reduceEqDiff, Nat.reduceLT, Nat.reduceLeDiff, reduceCtorEq]
      · rw [← show S2 = sumN (ns.take (i + 1)) from HS2]
        simp only [*, AVB, AVY, ↓reduceIte, Nat.reduceEqDiff, Nat.reduceLT, Nat.reduceLeDiff, reduceCtorEq, Nat.reduceBEq, String.reduceBEq, Nat.reduceAdd, Nat.reduceSub, Nat.reduceMul, Int.reduceLE, Int.reduceLT, Int.reduceToNat, Int.reduceBEq, Int.reduceBNe, List.zipWith, dIntBin]
      · simp only [slotI, *, AVB, AVY, ↓reduceIte, Nat.reduceEqDiff, Nat.reduceLT, Nat.reduceLeDiff, reduceCtorEq, Nat.reduceBEq, String.reduceBEq, Nat.reduceAdd, Nat.reduceSub, Nat.reduceMul, Int.reduceLE, Int.reduceLT, Int.reduceToNat, Int.reduceBEq, Int.reduceBNe, List.zipWith, dIntBin]
        omega
    · obtain rfl : i = ns.length := by omega
      have g9 : ¬ (ns.length : Int) < ns.length := by omega
      clear hn hr hSD h
      repeat' (first
    | simp only [*, AVB, AVY, ↓reduceIte, Nat.reduceEqDiff, Nat.reduceLT, Nat.reduceLeDiff, reduceCtorEq, Nat.reduceBEq, String.reduceBEq, Nat.reduceAdd, Nat.reduceSub, Nat.reduceMul, Int.reduceLE, Int.reduceLT, Int.reduceToNat, Int.reduceBEq, Int.reduceBNe, List.zipWith, dIntBin]
    | (refine drW_intro (by kernel_rfl) ?_)
    | (refine gw_intro (fun h => ?_) (fun h => ?_) <;> (try simp only [AVH] at h)))
      refine hx _ _ ?_
      repeat' (first
    | simp only [*, AVB, AVY, ↓reduceIte, Nat.reduceEqDiff, Nat.reduceLT, Nat.reduceLeDiff, reduceCtorEq, Nat.reduceBEq, String.reduceBEq, Nat.reduceAdd, Nat.reduceSub, Nat.reduceMul, Int.reduceLE, Int.reduceLT, Int.reduceToNat, Int.reduceBEq, Int.reduceBNe, List.zipWith, dIntBin]
    | (refine drW_intro (by kernel_rfl) ?_)
    | (refine gw_intro (fun h => ?_) (fun h => ?_) <;> (try simp only [AVH] at h)))
end Go.Av
