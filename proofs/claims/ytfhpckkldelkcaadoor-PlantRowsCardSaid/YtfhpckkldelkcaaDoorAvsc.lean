/- The evaluator, in one text: over any program; no conditions but those that each law names. -/
import Derived.Test.YtfhpckkldelkcaaDoorAvsb
import Derived.Test.YtfhpckkldelkcaaDoorAvsa
import Derived.Test.YtfhpckkldelkcaaDoorAvb
set_option linter.unusedSimpArgs false
set_option linter.unusedVariables false
set_option linter.unusedSectionVars false
set_option maxRecDepth 100000
namespace Go.Av
open Go.Proofs Go.Proofs.YtfhpckkldelkcaaDoor
variable [Ek] {chk : List D → Bool}
def IV (zs : List Int) (n : Nat) (st : St) : Prop := ∃ rs : List Int, st.slot 0 = .list (rs.map (D.int .u8)) ∧ Hd (BytesOK rs) ∧ Hd (rs.length ≤ n) ∧ Hd (validB rs = validB zs) ∧ st.slot 2 = .bool false ∧ st.room 2 = []
theorem map_drop (rs : List Int) (k : Nat) : (rs.map (D.int .u8)).drop k = (rs.drop k).map (D.int .u8) := List.map_drop.symm
theorem BytesOK.get {rs : List Int} (h : BytesOK rs) {i : Nat} (hi : i < rs.length) : ∃ x : Int, rs.getD i 0 = x ∧ 0 ≤ x ∧ x < 256 ∧ (rs.map (D.int .u8)).getD i .bad = .int .u8 x :=
  ⟨_, rfl, (h i hi).1, (h i hi).2, map_getD rs i hi⟩
theorem wi1 : IntKind.i64.wrap 1 = 1 := rfl
theorem wi2 : IntKind.i64.wrap 2 = 2 := rfl
theorem wi3 : IntKind.i64.wrap 3 = 3 := rfl
theorem wi4 : IntKind.i64.wrap 4 = 4 := rfl
set_option maxHeartbeats 16000000 in
theorem valid_L (zs : List Int) (hz : BytesOK zs) (hl : zs.length < 1000000000) : callL Tryd.prog (ext11b chk) 77 [.list (zs.map (D.int .u8))] [] = some (.bool (validB zs), [.no], []) := by
  have hlN : (zs.map (D.int .u8)).length = zs.length := by simp
  have hta : (zs.map (D.int .u8)).take zs.length = zs.map (D.int .u8) := by rw [← hlN, List.take_length]
  have hll : (zs.length : Int) ≤ zs.length := Int.le_refl _
  have hz' := Hd.mk hz
  clear hz
  refine callK (m := 188) (res := [2]) (rs := [.tmp 2]) rfl Tryd.func77 rfl rfl rfl rfl rfl ?_
  repeat' (first
    | simp only [*, guardG, opG, inB, sval, stake, eats, eaters, get, cval, cval1, croom, St.taken, ↓reduceIte, Nat.reduceEqDiff, Nat.reduceLT, reduceCtorEq, List.filterMap_cons, List.filterMap_nil, Option.bind_some, Option.map_some, Option.bind_none, Option.map_none, List.getD_cons_zero, List.contains_cons, List.contains_nil, Nat.reduceBEq, List.append_nil, List.length_nil, List.drop_zero, dopt, dbound, ptrArgs, callArgs, vroom, Option.isSome_none, sl81m, szU8, List.drop_zero, AVB]
    | (refine drW_intro (by kernel_rfl) ?_)
    | (refine gw_intro (fun h => ?_) (fun h => ?_) <;> (try simp only [beq_true, beq_false, Bool.not_eq_eq_eq_not, Bool.not_true, Bool.not_false, Bool.not_not, decide_eq_true_eq, decide_eq_false_iff_not, ge_iff_le, gt_iff_lt] at h)))
  refine loopH (IV zs zs.length) (fun st => slotL st 0) ?_ ?_
  · refine ⟨zs, ?_, hz', Nat.le_refl _, rfl, ?_, ?_⟩
    all_goals simp only [*, put_slot, put_room, dem_slot, dem_room, ↓reduceIte, Nat.reduceEqDiff, reduceCtorEq]
  · rintro st K ⟨rs, h0, hok, hle, hv, h2, hr2⟩ hn hx hr
    clear hlN hta hll hz'
    have lN : (rs.map (D.int .u8)).length = rs.length := List.length_map ..
    by_cases hpos : 0 < rs.length
    · have p0 : (0 : Int) < rs.length := by omega
      have HP := Hd.mk hpos
      have ok0 : BytesOK rs := hok
      have v0 : validB rs = validB zs := hv
      obtain ⟨x0, e0, m0, n0, g0⟩ := BytesOK.get ok0 hpos
      by_cases hx0 : x0 < 128
      · have hb1 : (1 : Int) ≤ rs.length := by omega
        have hd1 := map_drop rs 1
        obtain ⟨r1, er1⟩ : ∃ r1, rs.drop 1 = r1 := ⟨_, rfl⟩
        have ok1 : BytesOK r1 := by rw [← er1]; exact ok0.drop 1
        have v1 : validB r1 = validB zs := by rw [← er1, v1_ok (by omega) (by rw [e0]; exact hx0), v0]
        have b1 : r1.length + 1 = rs.length := by rw [← er1, List.length_drop]; omega
        have l1N : (r1.map (D.int .u8)).length = r1.length := List.length_map ..
        rw [er1] at hd1
        by_cases q8 : (8 : Int) < r1.length
        · have hc1 := word_L (chk := chk) r1 ok1 (by omega)
          cases t1 : (bits .and .u64 (wordL r1 : Nat) 9259542123273814144 == 0) with
          | false =>
            have OKF := Hd.mk ok1; have VF := Hd.mk v1; have BF := Hd.mk (show r1.length ≤ rs.length by omega); have BL := Hd.mk (show r1.length < rs.length by omega)
            clear er1 ok1 v1 b1 ok0 v0 hpos e0 hok hv
            repeat' (first
    | simp only [*, guardG, opG, inB, sval, stake, eats, eaters, get, cval, cval1, croom, St.taken, ↓reduceIte, Nat.reduceEqDiff, Nat.reduceLT, reduceCtorEq, List.filterMap_cons, List.filterMap_nil, Option.bind_some, Option.map_some, Option.bind_none, Option.map_none, List.getElem?_cons_zero, List.getElem?_cons_succ, List.contains_cons, List.contains_nil, List.map_cons, List.map_nil, beq_self_eq_true, beq_iff_eq, Nat.reduceBEq, dbin, okR, callG, pureB, leaf, leafN, List.all_cons, List.all_nil, List.nil_append, List.append_nil, List.length_nil, List.length_cons, dcells, dopt, dbound, gt_iff_lt, dStrBin, Int.reduceLE, Int.reduceToNat, takes, ptrArgs, callArgs, vroom, Option.isSome_none, stepPtr, szU8, takeM, and_w, ib_eql, ib_lss, ib_gtr, Option.some.injEq, AVB]
    | (refine drW_intro (by kernel_rfl) ?_)
    | (refine gw_intro (fun h => ?_) (fun h => ?_) <;> (try simp only [beq_true, beq_false, Bool.not_eq_eq_eq_not, Bool.not_true, Bool.not_false, Bool.not_not, decide_eq_true_eq, decide_eq_false_iff_not, ge_iff_le, gt_iff_lt] at h)))
            refine hn _ ⟨r1, ?_, OKF, ?_, VF, ?_, ?_⟩ ?_
            · simp only [*, put_slot, ↓reduceIte, reduceCtorEq]
            · exact Nat.le_trans (show (r1).length ≤ rs.length from BF) (show rs.length ≤ zs.length from hle)
            · simp only [*, put_slot, dem_slot, ↓reduceIte, Nat.reduceEqDiff, reduceCtorEq]
            · simp only [*, put_room, dem_room, ↓reduceIte, Nat.reduceEqDiff, reduceCtorEq]
            · have : (r1).length < rs.length := BL
              simp only [slotL, *, put_slot, ↓reduceIte, reduceCtorEq]
              first | done | omega
          | true =>
            have hb8 : (8 : Int) ≤ r1.length := by omega
            have hd8 := map_drop r1 8
            obtain ⟨r2, er2⟩ : ∃ r2, r1.drop 8 = r2 := ⟨_, rfl⟩
            have ok2 : BytesOK r2 := by rw [← er2]; exact ok1.drop 8
            have v2 : validB r2 = validB zs := by rw [← er2, validB_skip 8 r1 (by omega) (low1 ok1 (by omega) t1), v1]
            have b2 : r2.length + 8 = r1.length := by rw [← er2, List.length_drop]; omega
            have l2N : (r2.map (D.int .u8)).length = r2.length := List.length_map ..
            rw [er2] at hd8
            by_cases q16 : (16 : Int) < r2.length
            · have hb28 : (8 : Int) ≤ r2.length := by omega
              have hd28 := map_drop r2 8
              have hc2 := word_L (chk := chk) r2 ok2 (by omega)
              have hc2b := word_L (chk := chk) (r2.drop 8) (ok2.drop 8) (by rw [List.length_drop]; omega)
              cases t2 : (bits .and .u64 (bits .or .u64 (wordL r2 : Nat) (wordL (r2.drop 8) : Nat)) 9259542123273814144 == 0) with
              | false =>
                have OKF := Hd.mk ok2; have VF := Hd.mk v2; have BF := Hd.mk (show r2.length ≤ rs.length by omega); have BL := Hd.mk (show r2.length < rs.length by omega)
                clear er1 er2 ok1 ok2 v1 v2 b1 b2 ok0 v0 hpos e0 hok hv
                repeat' (first
    | simp only [*, guardG, opG, opD, inB, sval, stake, eats, eaters, get, cval, cval1, croom, St.taken, ↓reduceIte, Nat.reduceEqDiff, Nat.reduceLT, reduceCtorEq, List.filterMap_cons, List.filterMap_nil, Option.bind_some, Option.map_some, Option.bind_none, Option.map_none, List.getElem?_cons_zero, List.getElem?_cons_succ, List.contains_cons, List.contains_nil, List.map_cons, List.map_nil, beq_self_eq_true, beq_iff_eq, Nat.reduceBEq, dbin, okR, callG, isLocal, isAlloc, pureB, leaf, leafN, List.all_cons, List.all_nil, List.nil_append, List.append_nil, List.length_nil, List.length_cons, dcells, dopt, dbound, gt_iff_lt, dStrBin, Int.reduceLE, Int.reduceToNat, isBar, allocKeys, takes, ptrArgs, callArgs, vroom, Option.isSome_none, stepPtr, szU8, takeM, and_w, or_w, ib_eql, ib_lss, ib_gtr, Option.some.injEq, AVB]
    | (refine drW_intro (by kernel_rfl) ?_)
    | (refine gw_intro (fun h => ?_) (fun h => ?_) <;> (try simp only [beq_true, beq_false, Bool.not_eq_eq_eq_not, Bool.not_true, Bool.not_false, Bool.not_not, decide_eq_true_eq, decide_eq_false_iff_not, ge_iff_le, gt_iff_lt] at h)))
                refine hn _ ⟨r2, ?_, OKF, ?_, VF, ?_, ?_⟩ ?_
                · simp only [*, put_slot, ↓reduceIte, reduceCtorEq]
                · exact Nat.le_trans (show (r2).length ≤ rs.length from BF) (show rs.length ≤ zs.length from hle)
                · simp only [*, put_slot, dem_slot, ↓reduceIte, Nat.reduceEqDiff, reduceCtorEq]
                · simp only [*, put_room, dem_room, ↓reduceIte, Nat.reduceEqDiff, reduceCtorEq]
                · have : (r2).length < rs.length := BL
                  simp only [slotL, *, put_slot, ↓reduceIte, reduceCtorEq]
                  first | done | omega
              | true =>
                have hb16 : (16 : Int) ≤ r2.length := by omega
                have hd16 := map_drop r2 16
                obtain ⟨r3, er3⟩ : ∃ r3, r2.drop 16 = r3 := ⟨_, rfl⟩
                have ok3 : BytesOK r3 := by rw [← er3]; exact ok2.drop 16
                have v3 : validB r3 = validB zs := by rw [← er3, validB_skip 16 r2 (by omega) (low2 ok2 (by omega) t2), v2]
                have b3 : r3.length + 16 = r2.length := by rw [← er3, List.length_drop]; omega
                rw [er3] at hd16
                have OK3 := Hd.mk ok3; have V3 := Hd.mk v3; have B3 := Hd.mk (show r3.length < rs.length by omega)
                clear er1 er2 er3 ok1 ok2 ok3 v1 v2 v3 b1 b2 b3 ok0 v0 hpos e0 hok hv
                repeat' (first
    | simp only [*, guardG, opG, opD, inB, sval, stake, eats, eaters, get, cval, cval1, croom, St.taken, ↓reduceIte, Nat.reduceEqDiff, Nat.reduceLT, reduceCtorEq, List.filterMap_cons, List.filterMap_nil, Option.bind_some, Option.map_some, Option.bind_none, Option.map_none, List.getElem?_cons_zero, List.getElem?_cons_succ, List.contains_cons, List.contains_nil, List.map_cons, List.map_nil, beq_self_eq_true, beq_iff_eq, Nat.reduceBEq, dbin, okR, callG, isLocal, isAlloc, pureB, leaf, leafN, List.all_cons, List.all_nil, List.nil_append, List.append_nil, List.length_nil, List.length_cons, dcells, dopt, dbound, gt_iff_lt, dStrBin, Int.reduceLE, Int.reduceToNat, isBar, allocKeys, takes, ptrArgs, callArgs, vroom, Option.isSome_none, stepPtr, szU8, takeM, and_w, or_w, ib_eql, ib_lss, ib_gtr, Option.some.injEq, AVB]
    | (refine drW_intro (by kernel_rfl) ?_)
    | (refine gw_intro (fun h => ?_) (fun h => ?_) <;> (try simp only [beq_true, beq_false, Bool.not_eq_eq_eq_not, Bool.not_true, Bool.not_false, Bool.not_not, decide_eq_true_eq, decide_eq_false_iff_not, ge_iff_le, gt_iff_lt] at h)))
                clear hd1 hd8 hd28 hd16 hc1 hc2 hc2b t1 t2 q8 q16 hb1 hb8 hb28 hb16 l1N l2N
                refine loopH (IV zs r3.length) (fun st => slotL st 0) ?_ ?_
                · refine ⟨r3, ?_, OK3, Nat.le_refl _, V3, ?_, ?_⟩
                  all_goals simp only [*, put_slot, put_room, dem_slot, dem_room, ↓reduceIte, Nat.reduceEqDiff, reduceCtorEq]
                · rintro st' K' ⟨ps, h0', OKF, BP, VF, h2', hr2'⟩ hn' hx' hr'
                  clear h2 hr2
                  have lPN : (ps.map (D.int .u8)).length = ps.length := List.length_map ..
                  have BF : Hd (ps.length ≤ rs.length) := by
                    have h1 : ps.length ≤ r3.length := BP
                    have h2 : r3.length < rs.length := B3
                    exact Nat.le_trans h1 (Nat.le_of_lt h2)
                  have BL : Hd (ps.length < rs.length) := by
                    have h1 : ps.length ≤ r3.length := BP
                    have h2 : r3.length < rs.length := B3
                    exact Nat.lt_of_le_of_lt h1 h2
                  by_cases q32 : (32 : Int) < ps.length
                  · have okp : BytesOK ps := OKF
                    have vp : validB ps = validB zs := VF
                    have k1 : (8 : Int) ≤ ps.length := by omega
                    have k2 : (16 : Int) ≤ ps.length := by omega
                    have k3 : (24 : Int) ≤ ps.length := by omega
                    have k4 : (32 : Int) ≤ ps.length := by omega
                    have hd8 := map_drop ps 8
                    have hd16 := map_drop ps 16
                    have hd24 := map_drop ps 24
                    have hd32 := map_drop ps 32
                    have c0 := word_L (chk := chk) ps okp (by omega)
                    have c1 := word_L (chk := chk) (ps.drop 8) (okp.drop 8) (by rw [List.length_drop]; omega)
                    have c2 := word_L (chk := chk) (ps.drop 16) (okp.drop 16) (by rw [List.length_drop]; omega)
                    have c3 := word_L (chk := chk) (ps.drop 24) (okp.drop 24) (by rw [List.length_drop]; omega)
                    cases t4 : (bits .and .u64 (bits .or .u64 (bits .or .u64 (wordL ps : Nat) (wordL (ps.drop 8) : Nat)) (bits .or .u64 (wordL (ps.drop 16) : Nat) (wordL (ps.drop 24) : Nat))) 9259542123273814144 == 0) with
                    | false =>
                      clear okp vp
                      repeat' (first
    | simp only [*, guardG, opG, opD, inB, sval, stake, eats, eaters, get, cval, cval1, croom, St.taken, ↓reduceIte, Nat.reduceEqDiff, Nat.reduceLT, reduceCtorEq, List.filterMap_cons, List.filterMap_nil, Option.bind_some, Option.map_some, Option.bind_none, Option.map_none, List.getElem?_cons_zero, List.getElem?_cons_succ, List.contains_cons, List.contains_nil, List.map_cons, List.map_nil, beq_self_eq_true, Nat.reduceBEq, dbin, okR, callG, isLocal, isAlloc, pureB, leaf, leafN, List.all_cons, List.all_nil, List.nil_append, List.append_nil, dopt, dbound, gt_iff_lt, dStrBin, Int.reduceLE, Int.reduceToNat, isBar, allocKeys, ptrArgs, callArgs, vroom, Option.isSome_none, stepPtr, szU8, takeM, and_w, or_w, ib_eql, ib_gtr, AVB]
    | (refine drW_intro (by kernel_rfl) ?_)
    | (refine gw_intro (fun h => ?_) (fun h => ?_) <;> (try simp only [beq_true, beq_false, Bool.not_eq_eq_eq_not, Bool.not_true, Bool.not_false, Bool.not_not, decide_eq_true_eq, decide_eq_false_iff_not, ge_iff_le, gt_iff_lt] at h)))
                      refine hx' _ _ ?_
                      repeat' (first
    | simp only [*, go_nil, go_exit, go_xcode, go_xblk, ↓reduceIte]
    | (refine drW_intro (by kernel_rfl) ?_)
    | (refine gw_intro (fun h => ?_) (fun h => ?_) <;> (try simp only [beq_true, beq_false, Bool.not_eq_eq_eq_not, Bool.not_true, Bool.not_false, Bool.not_not, decide_eq_true_eq, decide_eq_false_iff_not, ge_iff_le, gt_iff_lt] at h)))
                      refine hn _ ⟨ps, ?_, OKF, ?_, VF, ?_, ?_⟩ ?_
                      · simp only [*, put_slot, ↓reduceIte, reduceCtorEq]
                      · exact Nat.le_trans (show (ps).length ≤ rs.length from BF) (show rs.length ≤ zs.length from hle)
                      · simp only [*, put_slot, ↓reduceIte, Nat.reduceEqDiff]
                      · simp only [*, put_room, ↓reduceIte, Nat.reduceEqDiff]
                      · have : (ps).length < rs.length := BL
                        simp only [slotL, *, put_slot, ↓reduceIte, reduceCtorEq]
                        first | done | omega
                    | true =>
                      have N1 := Hd.mk (show BytesOK (ps.drop 32) from okp.drop 32)
                      have N2 := Hd.mk (show (ps.drop 32).length ≤ r3.length by have h1 : ps.length ≤ r3.length := BP; rw [List.length_drop]; omega)
                      have N3 := Hd.mk (show validB (ps.drop 32) = validB zs by rw [validB_skip 32 ps (by omega) (low4 okp (by omega) t4), vp])
                      have N4 := Hd.mk (show (ps.drop 32).length < ps.length by rw [List.length_drop]; omega)
                      have N5 : ((ps.drop 32).map (D.int .u8)).length = (ps.drop 32).length := List.length_map ..
                      clear okp vp
                      repeat' (first
    | simp only [*, guardG, opG, opD, inB, sval, stake, eats, eaters, get, cval, cval1, croom, St.taken, ↓reduceIte, Nat.reduceEqDiff, Nat.reduceLT, reduceCtorEq, List.filterMap_cons, List.filterMap_nil, Option.bind_some, Option.map_some, Option.bind_none, Option.map_none, List.getElem?_cons_zero, List.getElem?_cons_succ, List.contains_cons, List.contains_nil, List.map_cons, List.map_nil, beq_self_eq_true, Nat.reduceBEq, dbin, okR, callG, isLocal, isAlloc, pureB, leaf, leafN, List.all_cons, List.all_nil, List.nil_append, List.append_nil, dopt, dbound, gt_iff_lt, dStrBin, Int.reduceLE, Int.reduceToNat, isBar, allocKeys, ptrArgs, callArgs, vroom, Option.isSome_none, stepPtr, szU8, takeM, and_w, or_w, ib_eql, ib_gtr, AVB]
    | (refine drW_intro (by kernel_rfl) ?_)
    | (refine gw_intro (fun h => ?_) (fun h => ?_) <;> (try simp only [beq_true, beq_false, Bool.not_eq_eq_eq_not, Bool.not_true, Bool.not_false, Bool.not_not, decide_eq_true_eq, decide_eq_false_iff_not, ge_iff_le, gt_iff_lt] at h)))
                      refine hn' _ ⟨ps.drop 32, ?_, N1, N2, N3, ?_, ?_⟩ ?_
                      · simp only [*, put_slot, ↓reduceIte]
                      · simp only [*, put_slot, dem_slot, ↓reduceIte, Nat.reduceEqDiff, reduceCtorEq]
                      · simp only [*, put_room, dem_room, ↓reduceIte, Nat.reduceEqDiff, reduceCtorEq]
                      · have : (ps.drop 32).length < ps.length := N4
                        simp only [slotL, *, put_slot, ↓reduceIte]
                  · repeat' (first
    | simp only [*, guardG, opG, opD, inB, sval, stake, eats, eaters, get, cval, cval1, croom, St.taken, ↓reduceIte, Nat.reduceEqDiff, Nat.reduceLT, List.filterMap_cons, List.filterMap_nil, Option.bind_some, Option.map_some, Option.bind_none, Option.map_none, List.getElem?_cons_zero, List.getElem?_cons_succ, List.contains_cons, List.contains_nil, Nat.reduceBEq, dbin, okR, callG, isLocal, isAlloc, List.nil_append, gt_iff_lt, dStrBin, isBar, allocKeys, ptrArgs, callArgs, vroom, Option.isSome_none, stepPtr, ib_gtr, AVB]
    | (refine drW_intro (by kernel_rfl) ?_)
    | (refine gw_intro (fun h => ?_) (fun h => ?_) <;> (try simp only [beq_true, beq_false, Bool.not_eq_eq_eq_not, Bool.not_true, Bool.not_false, Bool.not_not, decide_eq_true_eq, decide_eq_false_iff_not, ge_iff_le, gt_iff_lt] at h)))
                    refine hx' _ _ ?_
                    repeat' (first
    | simp only [*, go_nil, go_exit, go_xcode, go_xblk, ↓reduceIte]
    | (refine drW_intro (by kernel_rfl) ?_)
    | (refine gw_intro (fun h => ?_) (fun h => ?_) <;> (try simp only [beq_true, beq_false, Bool.not_eq_eq_eq_not, Bool.not_true, Bool.not_false, Bool.not_not, decide_eq_true_eq, decide_eq_false_iff_not, ge_iff_le, gt_iff_lt] at h)))
                    refine hn _ ⟨ps, ?_, OKF, ?_, VF, ?_, ?_⟩ ?_
                    · simp only [*, put_slot, ↓reduceIte, reduceCtorEq]
                    · exact Nat.le_trans (show (ps).length ≤ rs.length from BF) (show rs.length ≤ zs.length from hle)
                    · simp only [*, put_slot, ↓reduceIte, Nat.reduceEqDiff]
                    · simp only [*, put_room, ↓reduceIte, Nat.reduceEqDiff]
                    · have : (ps).length < rs.length := BL
                      simp only [slotL, *, put_slot, ↓reduceIte, reduceCtorEq]
                      first | done | omega
            · have OKF := Hd.mk ok2; have VF := Hd.mk v2; have BF := Hd.mk (show r2.length ≤ rs.length by omega); have BL := Hd.mk (show r2.length < rs.length by omega)
              clear er1 er2 ok1 ok2 v1 v2 b1 b2 ok0 v0 hpos e0 hok hv
              repeat' (first
    | simp only [*, guardG, opG, opD, inB, sval, stake, eats, eaters, get, cval, cval1, croom, St.taken, ↓reduceIte, Nat.reduceEqDiff, Nat.reduceLT, reduceCtorEq, List.filterMap_cons, List.filterMap_nil, Option.bind_some, Option.map_some, Option.bind_none, Option.map_none, List.getElem?_cons_zero, List.getElem?_cons_succ, List.contains_cons, List.contains_nil, List.map_cons, List.map_nil, beq_self_eq_true, beq_iff_eq, Nat.reduceBEq, dbin, okR, callG, isLocal, isAlloc, pureB, leaf, leafN, List.all_cons, List.all_nil, List.nil_append, List.append_nil, List.length_nil, List.length_cons, dcells, dopt, dbound, gt_iff_lt, dStrBin, Int.reduceLE, Int.reduceToNat, isBar, allocKeys, takes, ptrArgs, callArgs, vroom, Option.isSome_none, stepPtr, szU8, takeM, and_w, ib_eql, ib_lss, ib_gtr, Option.some.injEq, AVB]
    | (refine drW_intro (by kernel_rfl) ?_)
    | (refine gw_intro (fun h => ?_) (fun h => ?_) <;> (try simp only [beq_true, beq_false, Bool.not_eq_eq_eq_not, Bool.not_true, Bool.not_false, Bool.not_not, decide_eq_true_eq, decide_eq_false_iff_not, ge_iff_le, gt_iff_lt] at h)))
              refine hn _ ⟨r2, ?_, OKF, ?_, VF, ?_, ?_⟩ ?_
              · simp only [*, put_slot, ↓reduceIte, reduceCtorEq]
              · exact Nat.le_trans (show (r2).length ≤ rs.length from BF) (show rs.length ≤ zs.length from hle)
              · simp only [*, put_slot, dem_slot, ↓reduceIte, Nat.reduceEqDiff, reduceCtorEq]
              · simp only [*, put_room, dem_room, ↓reduceIte, Nat.reduceEqDiff, reduceCtorEq]
              · have : (r2).length < rs.length := BL
                simp only [slotL, *, put_slot, ↓reduceIte, reduceCtorEq]
                first | done | omega
        · have OKF := Hd.mk ok1; have VF := Hd.mk v1; have BF := Hd.mk (show r1.length ≤ rs.length by omega); have BL := Hd.mk (show r1.length < rs.length by omega)
          clear er1 ok1 v1 b1 ok0 v0 hpos e0 hok hv
          repeat' (first
    | simp only [*, guardG, opG, inB, sval, stake, eats, eaters, get, cval, cval1, croom, St.taken, ↓reduceIte, Nat.reduceEqDiff, Nat.reduceLT, reduceCtorEq, List.filterMap_cons, List.filterMap_nil, Option.bind_some, Option.map_some, Option.bind_none, Option.map_none, List.getElem?_cons_zero, List.getElem?_cons_succ, List.contains_cons, List.contains_nil, beq_self_eq_true, beq_iff_eq, Nat.reduceBEq, dbin, okR, callG, List.nil_append, List.append_nil, List.length_nil, List.length_cons, dcells, dopt, dbound, gt_iff_lt, dStrBin, Int.reduceLE, Int.reduceToNat, takes, ptrArgs, callArgs, vroom, Option.isSome_none, stepPtr, szU8, takeM, ib_lss, ib_gtr, Option.some.injEq, AVB]
    | (refine drW_intro (by kernel_rfl) ?_)
    | (refine gw_intro (fun h => ?_) (fun h => ?_) <;> (try simp only [beq_true, beq_false, Bool.not_eq_eq_eq_not, Bool.not_true, Bool.not_false, Bool.not_not, decide_eq_true_eq, decide_eq_false_iff_not, ge_iff_le, gt_iff_lt] at h)))
          refine hn _ ⟨r1, ?_, OKF, ?_, VF, ?_, ?_⟩ ?_
          · simp only [*, put_slot, ↓reduceIte, reduceCtorEq]
          · exact Nat.le_trans (show (r1).length ≤ rs.length from BF) (show rs.length ≤ zs.length from hle)
          · simp only [*, put_slot, dem_slot, ↓reduceIte, Nat.reduceEqDiff, reduceCtorEq]
          · simp only [*, put_room, dem_room, ↓reduceIte, Nat.reduceEqDiff, reduceCtorEq]
          · have : (r1).length < rs.length := BL
            simp only [slotL, *, put_slot, ↓reduceIte, reduceCtorEq]
            first | done | omega
      · obtain ⟨F, q, lo, hi, s, hf, hand, hshr, hq, hacc, hcase⟩ := cls x0 (by omega) n0
        have hq0 : (q : Int) < 16 := by omega
        have W1 := wi1; have W2' := wi2; have W3 := wi3; have W4 := wi4
        have hin : 0 ≤ x0 ∧ x0 < 256 := ⟨m0, n0⟩
        rcases hcase with ⟨rfl, c⟩ | ⟨rfl, c1, c2, rfl, rfl⟩ | ⟨rfl, c1, c2, el, eh⟩ | ⟨rfl, c1, c2, el, eh⟩
        · have T : validB zs = false := by rw [← v0]; exact v0_bad hpos (by rw [e0]; omega) (by rw [e0]; exact c)
          clear ok0 v0 hpos e0 hok hv c hin
          repeat' (first
    | simp only [*, guardG, opG, inB, sval, stake, eats, eaters, get, cval, cval1, croom, St.taken, ↓reduceIte, Nat.reduceEqDiff, Nat.reduceLT, Nat.reduceLeDiff, reduceCtorEq, List.filterMap_cons, List.filterMap_nil, Option.map_some, Option.bind_none, List.getElem?_cons_zero, List.contains_cons, List.contains_nil, beq_self_eq_true, beq_iff_eq, Nat.reduceBEq, dbin, pureB, leaf, leafN, List.all_cons, List.all_nil, List.nil_append, List.append_nil, List.length_nil, List.length_cons, List.take_zero, List.drop_succ_cons, dcells, Nat.reduceAdd, stepBox, gt_iff_lt, Int.reduceLE, Int.reduceToNat, Int.reduceBEq, takes, ptrArgs, callArgs, given, oroom, vroom, Option.isSome_none, ty126, ia124, ia127, cv53, zr126, and_8, ib_eql, ib_lss, ib_gtr, gl2, gl3, Option.some.injEq, List.drop_succ_cons, List.drop_nil, AVB]
    | (refine drW_intro (by kernel_rfl) ?_)
    | (refine gw_intro (fun h => ?_) (fun h => ?_) <;> (try simp only [beq_true, beq_false, Bool.not_eq_eq_eq_not, Bool.not_true, Bool.not_false, Bool.not_not, decide_eq_true_eq, decide_eq_false_iff_not, ge_iff_le, gt_iff_lt] at h)))
          refine hr _ ?_
          repeat' (first
    | simp only [*, put_slot, put_room, put_box, dem_box, setBox_box, endQ, endR, endV, rvars, rvar, room1, ↓reduceIte, List.map_nil, pureB, leaf, leafN, List.take_nil, List.range_zero, and_self, notAgg]
    | (refine drW_intro (by kernel_rfl) ?_)
    | (refine gw_intro (fun h => ?_) (fun h => ?_) <;> (try simp only [beq_true, beq_false, Bool.not_eq_eq_eq_not, Bool.not_true, Bool.not_false, Bool.not_not, decide_eq_true_eq, decide_eq_false_iff_not, ge_iff_le, gt_iff_lt] at h)))
        · by_cases hl2 : rs.length < 2
          · have ll : (rs.length : Int) < 2 := by omega
            have T : validB zs = false := by rw [← v0]; exact v2_bad hpos (by rw [e0]; omega) (by rw [e0]; omega) (.inl hl2)
            clear ok0 v0 hpos e0 hok hv c1 c2 hin hl2
            repeat' (first
    | simp only [*, guardG, opG, opD, inB, sval, stake, eats, eaters, get, cval, cval1, croom, St.taken, ↓reduceIte, Nat.reduceEqDiff, Nat.reduceLT, Nat.reduceLeDiff, reduceCtorEq, List.filterMap_cons, List.filterMap_nil, Option.bind_some, Option.map_some, Option.bind_none, List.getElem?_cons_zero, List.getElem?_cons_succ, List.contains_cons, List.contains_nil, beq_self_eq_true, beq_iff_eq, Nat.reduceBEq, dbin, isLocal, isAlloc, loadsOwn, pureB, leaf, leafN, List.all_cons, List.all_nil, List.nil_append, List.append_nil, List.length_nil, List.length_cons, List.take_zero, List.drop_succ_cons, dcells, Nat.reduceAdd, stepBox, gt_iff_lt, dStrBin, Int.reduceLE, Int.reduceToNat, isBar, allocKeys, takes, ptrArgs, callArgs, given, oroom, vroom, Option.isSome_none, stepTake, ty126, ia124, ia127, cv53, zr126, and_8, ib_eql, ib_lss, ib_gtr, gl2, gl3, Option.some.injEq, List.drop_succ_cons, List.drop_nil, AVB]
    | (refine drW_intro (by kernel_rfl) ?_)
    | (refine gw_intro (fun h => ?_) (fun h => ?_) <;> (try simp only [beq_true, beq_false, Bool.not_eq_eq_eq_not, Bool.not_true, Bool.not_false, Bool.not_not, decide_eq_true_eq, decide_eq_false_iff_not, ge_iff_le, gt_iff_lt] at h)))
            refine hr _ ?_
            repeat' (first
    | simp only [*, put_slot, put_room, put_box, dem_box, setBox_box, endQ, endR, endV, rvars, rvar, room1, ↓reduceIte, List.map_nil, pureB, leaf, leafN, List.take_nil, List.range_zero, and_self, notAgg]
    | (refine drW_intro (by kernel_rfl) ?_)
    | (refine gw_intro (fun h => ?_) (fun h => ?_) <;> (try simp only [beq_true, beq_false, Bool.not_eq_eq_eq_not, Bool.not_true, Bool.not_false, Bool.not_not, decide_eq_true_eq, decide_eq_false_iff_not, ge_iff_le, gt_iff_lt] at h)))
          · have ll : ¬ (rs.length : Int) < 2 := by omega
            have i1 : (1 : Int) < rs.length := by omega
            obtain ⟨x1, e1, m1, n1, g1⟩ := BytesOK.get ok0 (show 1 < rs.length by omega)
            by_cases a1 : x1 < 128
            · have T : validB zs = false := by rw [← v0]; exact v2_bad hpos (by rw [e0]; omega) (by rw [e0]; omega) (.inr (by rw [e1]; unfold C1; omega))
              clear ok0 v0 hpos e0 e1 hok hv c1 c2 hin hl2
              repeat' (first
    | simp only [*, guardG, opG, opD, inB, sval, stake, eats, eaters, get, cval, cval1, croom, St.taken, ↓reduceIte, Nat.reduceEqDiff, Nat.reduceLT, Nat.reduceLeDiff, reduceCtorEq, List.filterMap_cons, List.filterMap_nil, Option.bind_some, Option.map_some, Option.bind_none, List.getElem?_cons_zero, List.getElem?_cons_succ, List.contains_cons, List.contains_nil, beq_self_eq_true, beq_iff_eq, Nat.reduceBEq, dbin, isLocal, isAlloc, loadsOwn, pureB, leaf, leafN, List.all_cons, List.all_nil, List.nil_append, List.append_nil, List.length_nil, List.length_cons, List.take_zero, List.drop_succ_cons, dcells, Nat.reduceAdd, stepBox, gt_iff_lt, dStrBin, Int.reduceLE, Int.reduceToNat, isBar, allocKeys, takes, ptrArgs, callArgs, given, oroom, vroom, Option.isSome_none, stepTake, ty126, fap0, ia124, ia127, cv53, zr126, and_8, ib_eql, ib_lss, ib_gtr, gl2, gl3, Option.some.injEq, List.drop_succ_cons, List.drop_nil, AVB]
    | (refine drW_intro (by kernel_rfl) ?_)
    | (refine gw_intro (fun h => ?_) (fun h => ?_) <;> (try simp only [beq_true, beq_false, Bool.not_eq_eq_eq_not, Bool.not_true, Bool.not_false, Bool.not_not, decide_eq_true_eq, decide_eq_false_iff_not, ge_iff_le, gt_iff_lt] at h)))
              refine hr _ ?_
              repeat' (first
    | simp only [*, put_slot, put_room, put_box, dem_box, setBox_box, endQ, endR, endV, rvars, rvar, room1, ↓reduceIte, List.map_nil, pureB, leaf, leafN, List.take_nil, List.range_zero, and_self, notAgg]
    | (refine drW_intro (by kernel_rfl) ?_)
    | (refine gw_intro (fun h => ?_) (fun h => ?_) <;> (try simp only [beq_true, beq_false, Bool.not_eq_eq_eq_not, Bool.not_true, Bool.not_false, Bool.not_not, decide_eq_true_eq, decide_eq_false_iff_not, ge_iff_le, gt_iff_lt] at h)))
            · have ua1 := Hd.mk a1
              by_cases a2 : 191 < x1
              · have T : validB zs = false := by rw [← v0]; exact v2_bad hpos (by rw [e0]; omega) (by rw [e0]; omega) (.inr (by rw [e1]; unfold C1; omega))
                clear ok0 v0 hpos e0 e1 hok hv c1 c2 hin hl2
                repeat' (first
    | simp only [*, guardG, opG, opD, inB, sval, stake, eats, eaters, get, cval, cval1, croom, St.taken, ↓reduceIte, Nat.reduceEqDiff, Nat.reduceLT, Nat.reduceLeDiff, reduceCtorEq, List.filterMap_cons, List.filterMap_nil, Option.bind_some, Option.map_some, Option.bind_none, List.getElem?_cons_zero, List.getElem?_cons_succ, List.contains_cons, List.contains_nil, beq_self_eq_true, beq_iff_eq, Nat.reduceBEq, dbin, isLocal, isAlloc, loadsOwn, pureB, leaf, leafN, List.all_cons, List.all_nil, List.nil_append, List.append_nil, List.length_nil, List.length_cons, List.take_zero, List.drop_succ_cons, dcells, Nat.reduceAdd, stepBox, gt_iff_lt, dStrBin, Int.reduceLE, Int.reduceToNat, isBar, allocKeys, takes, ptrArgs, callArgs, given, oroom, vroom, Option.isSome_none, stepTake, ty126, fap0, fap1, ia124, ia127, cv53, zr126, and_8, ib_eql, ib_lss, ib_gtr, gl2, gl3, Option.some.injEq, List.drop_succ_cons, List.drop_nil, AVB]
    | (refine drW_intro (by kernel_rfl) ?_)
    | (refine gw_intro (fun h => ?_) (fun h => ?_) <;> (try simp only [beq_true, beq_false, Bool.not_eq_eq_eq_not, Bool.not_true, Bool.not_false, Bool.not_not, decide_eq_true_eq, decide_eq_false_iff_not, ge_iff_le, gt_iff_lt] at h)))
                refine hr _ ?_
                repeat' (first
    | simp only [*, put_slot, put_room, put_box, dem_box, setBox_box, endQ, endR, endV, rvars, rvar, room1, ↓reduceIte, List.map_nil, pureB, leaf, leafN, List.take_nil, List.range_zero, and_self, notAgg]
    | (refine drW_intro (by kernel_rfl) ?_)
    | (refine gw_intro (fun h => ?_) (fun h => ?_) <;> (try simp only [beq_true, beq_false, Bool.not_eq_eq_eq_not, Bool.not_true, Bool.not_false, Bool.not_not, decide_eq_true_eq, decide_eq_false_iff_not, ge_iff_le, gt_iff_lt] at h)))
              · have ua2 := Hd.mk a2
                have hb : (2 : Int) ≤ rs.length := by omega
                have hd := map_drop rs 2
                have OKF := Hd.mk (show BytesOK (rs.drop 2) from ok0.drop 2)
                have VF := Hd.mk (show validB (rs.drop 2) = validB zs by rw [v2_ok (by omega) (by rw [e0, e1]; unfold W2; omega), v0])
                have BF := Hd.mk (show (rs.drop 2).length ≤ rs.length by rw [List.length_drop]; omega)
                have BL := Hd.mk (show (rs.drop 2).length < rs.length by rw [List.length_drop]; omega)
                have lD : ((rs.drop 2).map (D.int .u8)).length = (rs.drop 2).length := List.length_map ..
                clear ok0 v0 hpos e0 e1 hok hv c1 c2 hin hl2
                repeat' (first
    | simp only [*, guardG, opG, opD, inB, sval, stake, eats, eaters, get, cval, cval1, croom, St.taken, ↓reduceIte, Nat.reduceEqDiff, Nat.reduceLT, Nat.reduceLeDiff, reduceCtorEq, List.filterMap_cons, List.filterMap_nil, Option.bind_some, Option.map_some, Option.bind_none, Option.map_none, List.getElem?_cons_zero, List.getElem?_cons_succ, List.contains_cons, List.contains_nil, beq_self_eq_true, beq_iff_eq, Nat.reduceBEq, dbin, isLocal, isAlloc, loadsOwn, pureB, leaf, leafN, List.all_cons, List.all_nil, List.nil_append, List.append_nil, List.length_nil, List.length_cons, List.take_zero, List.drop_succ_cons, dcells, Nat.reduceAdd, stepBox, dopt, dbound, gt_iff_lt, dStrBin, Int.reduceLE, Int.reduceToNat, isBar, allocKeys, takes, ptrArgs, callArgs, given, oroom, vroom, Option.isSome_none, stepTake, ty126, fap0, fap1, ia124, ia127, cv53, zr126, szU8, takeM, and_8, ib_eql, ib_lss, ib_gtr, gl2, gl3, Option.some.injEq, List.drop_succ_cons, List.drop_nil, AVB]
    | (refine drW_intro (by kernel_rfl) ?_)
    | (refine gw_intro (fun h => ?_) (fun h => ?_) <;> (try simp only [beq_true, beq_false, Bool.not_eq_eq_eq_not, Bool.not_true, Bool.not_false, Bool.not_not, decide_eq_true_eq, decide_eq_false_iff_not, ge_iff_le, gt_iff_lt] at h)))
                refine hn _ ⟨rs.drop 2, ?_, OKF, ?_, VF, ?_, ?_⟩ ?_
                · simp only [*, put_slot, ↓reduceIte]
                · exact Nat.le_trans (show (rs.drop 2).length ≤ rs.length from BF) (show rs.length ≤ zs.length from hle)
                · simp only [*, put_slot, dem_slot, setBox_slot, ↓reduceIte, Nat.reduceEqDiff, reduceCtorEq]
                · simp only [*, put_room, dem_room, setBox_room, ↓reduceIte, Nat.reduceEqDiff, reduceCtorEq]
                · have : (rs.drop 2).length < rs.length := BL
                  simp only [slotL, *, put_slot, ↓reduceIte]
                  first | done | omega
        · by_cases hl3 : rs.length < 3
          · have ll : (rs.length : Int) < 3 := by omega
            have T : validB zs = false := by rw [← v0]; exact v3_bad hpos (by rw [e0]; omega) (by rw [e0]; omega) (.inl hl3)
            clear ok0 v0 hpos e0 hok hv c1 c2 hin hl3 el eh
            repeat' (first
    | simp only [*, guardG, opG, opD, inB, sval, stake, eats, eaters, get, cval, cval1, croom, St.taken, ↓reduceIte, Nat.reduceEqDiff, Nat.reduceLT, Nat.reduceLeDiff, reduceCtorEq, List.filterMap_cons, List.filterMap_nil, Option.bind_some, Option.map_some, Option.bind_none, List.getElem?_cons_zero, List.getElem?_cons_succ, List.contains_cons, List.contains_nil, beq_self_eq_true, beq_iff_eq, Nat.reduceBEq, dbin, isLocal, isAlloc, loadsOwn, pureB, leaf, leafN, List.all_cons, List.all_nil, List.nil_append, List.append_nil, List.length_nil, List.length_cons, List.take_zero, List.drop_succ_cons, dcells, Nat.reduceAdd, stepBox, gt_iff_lt, dStrBin, Int.reduceLE, Int.reduceToNat, Int.reduceBEq, isBar, allocKeys, takes, ptrArgs, callArgs, given, oroom, vroom, Option.isSome_none, stepTake, ty126, ia124, ia127, cv53, zr126, and_8, ib_eql, ib_lss, ib_gtr, gl2, gl3, Option.some.injEq, List.drop_succ_cons, List.drop_nil, AVB]
    | (refine drW_intro (by kernel_rfl) ?_)
    | (refine gw_intro (fun h => ?_) (fun h => ?_) <;> (try simp only [beq_true, beq_false, Bool.not_eq_eq_eq_not, Bool.not_true, Bool.not_false, Bool.not_not, decide_eq_true_eq, decide_eq_false_iff_not, ge_iff_le, gt_iff_lt] at h)))
            refine hr _ ?_
            repeat' (first
    | simp only [*, put_slot, put_room, put_box, dem_box, setBox_box, endQ, endR, endV, rvars, rvar, room1, ↓reduceIte, List.map_nil, pureB, leaf, leafN, List.take_nil, List.range_zero, and_self, notAgg]
    | (refine drW_intro (by kernel_rfl) ?_)
    | (refine gw_intro (fun h => ?_) (fun h => ?_) <;> (try simp only [beq_true, beq_false, Bool.not_eq_eq_eq_not, Bool.not_true, Bool.not_false, Bool.not_not, decide_eq_true_eq, decide_eq_false_iff_not, ge_iff_le, gt_iff_lt] at h)))
          · have ll : ¬ (rs.length : Int) < 3 := by omega
            have i1 : (1 : Int) < rs.length := by omega
            obtain ⟨x1, e1, m1, n1, g1⟩ := BytesOK.get ok0 (show 1 < rs.length by omega)
            have i2 : (2 : Int) < rs.length := by omega
            obtain ⟨x2, e2, m2, n2, g2⟩ := BytesOK.get ok0 (show 2 < rs.length by omega)
            by_cases a1 : x1 < lo
            · have T : validB zs = false := by rw [← v0]; exact v3_bad hpos (by rw [e0]; omega) (by rw [e0]; omega) (.inr (.inl (by rw [e0, e1, ← el]; exact a1)))
              clear ok0 v0 hpos e0 e1 e2 hok hv c1 c2 hin hl3 el eh
              repeat' (first
    | simp only [*, guardG, opG, opD, inB, sval, stake, eats, eaters, get, cval, cval1, croom, St.taken, ↓reduceIte, Nat.reduceEqDiff, Nat.reduceLT, Nat.reduceLeDiff, reduceCtorEq, List.filterMap_cons, List.filterMap_nil, Option.bind_some, Option.map_some, Option.bind_none, List.getElem?_cons_zero, List.getElem?_cons_succ, List.contains_cons, List.contains_nil, beq_self_eq_true, beq_iff_eq, Nat.reduceBEq, dbin, isLocal, isAlloc, loadsOwn, pureB, leaf, leafN, List.all_cons, List.all_nil, List.nil_append, List.append_nil, List.length_nil, List.length_cons, List.take_zero, List.drop_succ_cons, dcells, Nat.reduceAdd, stepBox, gt_iff_lt, dStrBin, Int.reduceLE, Int.reduceToNat, Int.reduceBEq, isBar, allocKeys, takes, ptrArgs, callArgs, given, oroom, vroom, Option.isSome_none, stepTake, ty126, fap0, ia124, ia127, cv53, zr126, and_8, ib_eql, ib_lss, ib_gtr, gl2, gl3, Option.some.injEq, List.drop_succ_cons, List.drop_nil, AVB]
    | (refine drW_intro (by kernel_rfl) ?_)
    | (refine gw_intro (fun h => ?_) (fun h => ?_) <;> (try simp only [beq_true, beq_false, Bool.not_eq_eq_eq_not, Bool.not_true, Bool.not_false, Bool.not_not, decide_eq_true_eq, decide_eq_false_iff_not, ge_iff_le, gt_iff_lt] at h)))
              refine hr _ ?_
              repeat' (first
    | simp only [*, put_slot, put_room, put_box, dem_box, setBox_box, endQ, endR, endV, rvars, rvar, room1, ↓reduceIte, List.map_nil, pureB, leaf, leafN, List.take_nil, List.range_zero, and_self, notAgg]
    | (refine drW_intro (by kernel_rfl) ?_)
    | (refine gw_intro (fun h => ?_) (fun h => ?_) <;> (try simp only [beq_true, beq_false, Bool.not_eq_eq_eq_not, Bool.not_true, Bool.not_false, Bool.not_not, decide_eq_true_eq, decide_eq_false_iff_not, ge_iff_le, gt_iff_lt] at h)))
            · have ua1 := Hd.mk a1
              by_cases a2 : hi < x1
              · have T : validB zs = false := by rw [← v0]; exact v3_bad hpos (by rw [e0]; omega) (by rw [e0]; omega) (.inr (.inr (.inl (by rw [e0, e1, ← eh]; exact a2))))
                clear ok0 v0 hpos e0 e1 e2 hok hv c1 c2 hin hl3 el eh
                repeat' (first
    | simp only [*, guardG, opG, opD, inB, sval, stake, eats, eaters, get, cval, cval1, croom, St.taken, ↓reduceIte, Nat.reduceEqDiff, Nat.reduceLT, Nat.reduceLeDiff, reduceCtorEq, List.filterMap_cons, List.filterMap_nil, Option.bind_some, Option.map_some, Option.bind_none, List.getElem?_cons_zero, List.getElem?_cons_succ, List.contains_cons, List.contains_nil, beq_self_eq_true, beq_iff_eq, Nat.reduceBEq, dbin, isLocal, isAlloc, loadsOwn, pureB, leaf, leafN, List.all_cons, List.all_nil, List.nil_append, List.append_nil, List.length_nil, List.length_cons, List.take_zero, List.drop_succ_cons, dcells, Nat.reduceAdd, stepBox, gt_iff_lt, dStrBin, Int.reduceLE, Int.reduceToNat, Int.reduceBEq, isBar, allocKeys, takes, ptrArgs, callArgs, given, oroom, vroom, Option.isSome_none, stepTake, ty126, fap0, fap1, ia124, ia127, cv53, zr126, and_8, ib_eql, ib_lss, ib_gtr, gl2, gl3, Option.some.injEq, List.drop_succ_cons, List.drop_nil, AVB]
    | (refine drW_intro (by kernel_rfl) ?_)
    | (refine gw_intro (fun h => ?_) (fun h => ?_) <;> (try simp only [beq_true, beq_false, Bool.not_eq_eq_eq_not, Bool.not_true, Bool.not_false, Bool.not_not, decide_eq_true_eq, decide_eq_false_iff_not, ge_iff_le, gt_iff_lt] at h)))
                refine hr _ ?_
                repeat' (first
    | simp only [*, put_slot, put_room, put_box, dem_box, setBox_box, endQ, endR, endV, rvars, rvar, room1, ↓reduceIte, List.map_nil, pureB, leaf, leafN, List.take_nil, List.range_zero, and_self, notAgg]
    | (refine drW_intro (by kernel_rfl) ?_)
    | (refine gw_intro (fun h => ?_) (fun h => ?_) <;> (try simp only [beq_true, beq_false, Bool.not_eq_eq_eq_not, Bool.not_true, Bool.not_false, Bool.not_not, decide_eq_true_eq, decide_eq_false_iff_not, ge_iff_le, gt_iff_lt] at h)))
              · have ua2 := Hd.mk a2
                by_cases a3 : x2 < 128
                · have T : validB zs = false := by rw [← v0]; exact v3_bad hpos (by rw [e0]; omega) (by rw [e0]; omega) (.inr (.inr (.inr (by rw [e2]; unfold C1; omega))))
                  clear ok0 v0 hpos e0 e1 e2 hok hv c1 c2 hin hl3 el eh
                  repeat' (first
    | simp only [*, guardG, opG, opD, inB, sval, stake, eats, eaters, get, cval, cval1, croom, St.taken, ↓reduceIte, Nat.reduceEqDiff, Nat.reduceLT, Nat.reduceLeDiff, reduceCtorEq, List.filterMap_cons, List.filterMap_nil, Option.bind_some, Option.map_some, Option.bind_none, List.getElem?_cons_zero, List.getElem?_cons_succ, List.contains_cons, List.contains_nil, beq_self_eq_true, beq_iff_eq, Nat.reduceBEq, dbin, isLocal, isAlloc, loadsOwn, pureB, leaf, leafN, List.all_cons, List.all_nil, List.nil_append, List.append_nil, List.length_nil, List.length_cons, List.take_zero, List.drop_succ_cons, dcells, Nat.reduceAdd, stepBox, gt_iff_lt, dStrBin, Int.reduceLE, Int.reduceToNat, Int.reduceBEq, isBar, allocKeys, takes, ptrArgs, callArgs, given, oroom, vroom, Option.isSome_none, stepTake, ty126, fap0, fap1, ia124, ia127, cv53, zr126, and_8, ib_eql, ib_lss, ib_gtr, gl2, gl3, Option.some.injEq, List.drop_succ_cons, List.drop_nil, AVB]
    | (refine drW_intro (by kernel_rfl) ?_)
    | (refine gw_intro (fun h => ?_) (fun h => ?_) <;> (try simp only [beq_true, beq_false, Bool.not_eq_eq_eq_not, Bool.not_true, Bool.not_false, Bool.not_not, decide_eq_true_eq, decide_eq_false_iff_not, ge_iff_le, gt_iff_lt] at h)))
                  refine hr _ ?_
                  repeat' (first
    | simp only [*, put_slot, put_room, put_box, dem_box, setBox_box, endQ, endR, endV, rvars, rvar, room1, ↓reduceIte, List.map_nil, pureB, leaf, leafN, List.take_nil, List.range_zero, and_self, notAgg]
    | (refine drW_intro (by kernel_rfl) ?_)
    | (refine gw_intro (fun h => ?_) (fun h => ?_) <;> (try simp only [beq_true, beq_false, Bool.not_eq_eq_eq_not, Bool.not_true, Bool.not_false, Bool.not_not, decide_eq_true_eq, decide_eq_false_iff_not, ge_iff_le, gt_iff_lt] at h)))
                · have ua3 := Hd.mk a3
                  by_cases a4 : 191 < x2
                  · have T : validB zs = false := by rw [← v0]; exact v3_bad hpos (by rw [e0]; omega) (by rw [e0]; omega) (.inr (.inr (.inr (by rw [e2]; unfold C1; omega))))
                    clear ok0 v0 hpos e0 e1 e2 hok hv c1 c2 hin hl3 el eh
                    repeat' (first
    | simp only [*, guardG, opG, opD, inB, sval, stake, eats, eaters, get, cval, cval1, croom, St.taken, ↓reduceIte, Nat.reduceEqDiff, Nat.reduceLT, Nat.reduceLeDiff, reduceCtorEq, List.filterMap_cons, List.filterMap_nil, Option.bind_some, Option.map_some, Option.bind_none, List.getElem?_cons_zero, List.getElem?_cons_succ, List.contains_cons, List.contains_nil, beq_self_eq_true, beq_iff_eq, Nat.reduceBEq, dbin, isLocal, isAlloc, loadsOwn, pureB, leaf, leafN, List.all_cons, List.all_nil, List.nil_append, List.append_nil, List.length_nil, List.length_cons, List.take_zero, List.drop_succ_cons, dcells, Nat.reduceAdd, stepBox, gt_iff_lt, dStrBin, Int.reduceLE, Int.reduceToNat, Int.reduceBEq, isBar, allocKeys, takes, ptrArgs, callArgs, given, oroom, vroom, Option.isSome_none, stepTake, ty126, fap0, fap1, ia124, ia127, cv53, zr126, and_8, ib_eql, ib_lss, ib_gtr, gl2, gl3, Option.some.injEq, List.drop_succ_cons, List.drop_nil, AVB]
    | (refine drW_intro (by kernel_rfl) ?_)
    | (refine gw_intro (fun h => ?_) (fun h => ?_) <;> (try simp only [beq_true, beq_false, Bool.not_eq_eq_eq_not, Bool.not_true, Bool.not_false, Bool.not_not, decide_eq_true_eq, decide_eq_false_iff_not, ge_iff_le, gt_iff_lt] at h)))
                    refine hr _ ?_
                    repeat' (first
    | simp only [*, put_slot, put_room, put_box, dem_box, setBox_box, endQ, endR, endV, rvars, rvar, room1, ↓reduceIte, List.map_nil, pureB, leaf, leafN, List.take_nil, List.range_zero, and_self, notAgg]
    | (refine drW_intro (by kernel_rfl) ?_)
    | (refine gw_intro (fun h => ?_) (fun h => ?_) <;> (try simp only [beq_true, beq_false, Bool.not_eq_eq_eq_not, Bool.not_true, Bool.not_false, Bool.not_not, decide_eq_true_eq, decide_eq_false_iff_not, ge_iff_le, gt_iff_lt] at h)))
                  · have ua4 := Hd.mk a4
                    have hb : (3 : Int) ≤ rs.length := by omega
                    have hd := map_drop rs 3
                    have OKF := Hd.mk (show BytesOK (rs.drop 3) from ok0.drop 3)
                    have VF := Hd.mk (show validB (rs.drop 3) = validB zs by rw [v3_ok (by omega) (by rw [e0]; omega) (by rw [e0]; omega) (by rw [e0, e1, ← el]; omega) (by rw [e0, e1, ← eh]; omega) (by rw [e2]; unfold C1; omega), v0])
                    have BF := Hd.mk (show (rs.drop 3).length ≤ rs.length by rw [List.length_drop]; omega)
                    have BL := Hd.mk (show (rs.drop 3).length < rs.length by rw [List.length_drop]; omega)
                    have lD : ((rs.drop 3).map (D.int .u8)).length = (rs.drop 3).length := List.length_map ..
                    clear ok0 v0 hpos e0 e1 e2 hok hv c1 c2 hin hl3 el eh
                    repeat' (first
    | simp only [*, guardG, opG, opD, inB, sval, stake, eats, eaters, get, cval, cval1, croom, St.taken, ↓reduceIte, Nat.reduceEqDiff, Nat.reduceLT, Nat.reduceLeDiff, reduceCtorEq, List.filterMap_cons, List.filterMap_nil, Option.bind_some, Option.map_some, Option.bind_none, Option.map_none, List.getElem?_cons_zero, List.getElem?_cons_succ, List.contains_cons, List.contains_nil, beq_self_eq_true, beq_iff_eq, Nat.reduceBEq, dbin, isLocal, isAlloc, loadsOwn, pureB, leaf, leafN, List.all_cons, List.all_nil, List.nil_append, List.append_nil, List.length_nil, List.length_cons, List.take_zero, List.drop_succ_cons, dcells, Nat.reduceAdd, stepBox, dopt, dbound, gt_iff_lt, dStrBin, Int.reduceLE, Int.reduceToNat, Int.reduceBEq, isBar, allocKeys, takes, ptrArgs, callArgs, given, oroom, vroom, Option.isSome_none, stepTake, ty126, fap0, fap1, ia124, ia127, cv53, zr126, szU8, takeM, and_8, ib_eql, ib_lss, ib_gtr, gl2, gl3, Option.some.injEq, List.drop_succ_cons, List.drop_nil, AVB]
    | (refine drW_intro (by kernel_rfl) ?_)
    | (refine gw_intro (fun h => ?_) (fun h => ?_) <;> (try simp only [beq_true, beq_false, Bool.not_eq_eq_eq_not, Bool.not_true, Bool.not_false, Bool.not_not, decide_eq_true_eq, decide_eq_false_iff_not, ge_iff_le, gt_iff_lt] at h)))
                    refine hn _ ⟨rs.drop 3, ?_, OKF, ?_, VF, ?_, ?_⟩ ?_
                    · simp only [*, put_slot, ↓reduceIte]
                    · exact Nat.le_trans (show (rs.drop 3).length ≤ rs.length from BF) (show rs.length ≤ zs.length from hle)
                    · simp only [*, put_slot, dem_slot, setBox_slot, ↓reduceIte, Nat.reduceEqDiff, reduceCtorEq]
                    · simp only [*, put_room, dem_room, setBox_room, ↓reduceIte, Nat.reduceEqDiff, reduceCtorEq]
                    · have : (rs.drop 3).length < rs.length := BL
                      simp only [slotL, *, put_slot, ↓reduceIte]
                      first | done | omega
        · by_cases hl4 : rs.length < 4
          · have ll : (rs.length : Int) < 4 := by omega
            have T : validB zs = false := by rw [← v0]; exact v4_bad hpos (by rw [e0]; omega) (by rw [e0]; omega) (.inl hl4)
            clear ok0 v0 hpos e0 hok hv c1 c2 hin hl4 el eh
            repeat' (first
    | simp only [*, guardG, opG, opD, inB, sval, stake, eats, eaters, get, cval, cval1, croom, St.taken, ↓reduceIte, Nat.reduceEqDiff, Nat.reduceLT, Nat.reduceLeDiff, reduceCtorEq, List.filterMap_cons, List.filterMap_nil, Option.bind_some, Option.map_some, Option.bind_none, List.getElem?_cons_zero, List.getElem?_cons_succ, List.contains_cons, List.contains_nil, beq_self_eq_true, beq_iff_eq, Nat.reduceBEq, dbin, isLocal, isAlloc, loadsOwn, pureB, leaf, leafN, List.all_cons, List.all_nil, List.nil_append, List.append_nil, List.length_nil, List.length_cons, List.take_zero, List.drop_succ_cons, dcells, Nat.reduceAdd, stepBox, gt_iff_lt, dStrBin, Int.reduceLE, Int.reduceToNat, Int.reduceBEq, isBar, allocKeys, takes, ptrArgs, callArgs, given, oroom, vroom, Option.isSome_none, stepTake, ty126, ia124, ia127, cv53, zr126, and_8, ib_eql, ib_lss, ib_gtr, gl2, gl3, Option.some.injEq, List.drop_succ_cons, List.drop_nil, AVB]
    | (refine drW_intro (by kernel_rfl) ?_)
    | (refine gw_intro (fun h => ?_) (fun h => ?_) <;> (try simp only [beq_true, beq_false, Bool.not_eq_eq_eq_not, Bool.not_true, Bool.not_false, Bool.not_not, decide_eq_true_eq, decide_eq_false_iff_not, ge_iff_le, gt_iff_lt] at h)))
            refine hr _ ?_
            repeat' (first
    | simp only [*, put_slot, put_room, put_box, dem_box, setBox_box, endQ, endR, endV, rvars, rvar, room1, ↓reduceIte, List.map_nil, pureB, leaf, leafN, List.take_nil, List.range_zero, and_self, notAgg]
    | (refine drW_intro (by kernel_rfl) ?_)
    | (refine gw_intro (fun h => ?_) (fun h => ?_) <;> (try simp only [beq_true, beq_false, Bool.not_eq_eq_eq_not, Bool.not_true, Bool.not_false, Bool.not_not, decide_eq_true_eq, decide_eq_false_iff_not, ge_iff_le, gt_iff_lt] at h)))
          · have ll : ¬ (rs.length : Int) < 4 := by omega
            have i1 : (1 : Int) < rs.length := by omega
            obtain ⟨x1, e1, m1, n1, g1⟩ := BytesOK.get ok0 (show 1 < rs.length by omega)
            have i2 : (2 : Int) < rs.length := by omega
            obtain ⟨x2, e2, m2, n2, g2⟩ := BytesOK.get ok0 (show 2 < rs.length by omega)
            have i3 : (3 : Int) < rs.length := by omega
            obtain ⟨x3, e3, m3, n3, g3⟩ := BytesOK.get ok0 (show 3 < rs.length by omega)
            by_cases a1 : x1 < lo
            · have T : validB zs = false := by rw [← v0]; exact v4_bad hpos (by rw [e0]; omega) (by rw [e0]; omega) (.inr (.inl (by rw [e0, e1, ← el]; exact a1)))
              clear ok0 v0 hpos e0 e1 e2 e3 hok hv c1 c2 hin hl4 el eh
              repeat' (first
    | simp only [*, guardG, opG, opD, inB, sval, stake, eats, eaters, get, cval, cval1, croom, St.taken, ↓reduceIte, Nat.reduceEqDiff, Nat.reduceLT, Nat.reduceLeDiff, reduceCtorEq, List.filterMap_cons, List.filterMap_nil, Option.bind_some, Option.map_some, Option.bind_none, List.getElem?_cons_zero, List.getElem?_cons_succ, List.contains_cons, List.contains_nil, beq_self_eq_true, beq_iff_eq, Nat.reduceBEq, dbin, isLocal, isAlloc, loadsOwn, pureB, leaf, leafN, List.all_cons, List.all_nil, List.nil_append, List.append_nil, List.length_nil, List.length_cons, List.take_zero, List.drop_succ_cons, dcells, Nat.reduceAdd, stepBox, gt_iff_lt, dStrBin, Int.reduceLE, Int.reduceToNat, Int.reduceBEq, isBar, allocKeys, takes, ptrArgs, callArgs, given, oroom, vroom, Option.isSome_none, stepTake, ty126, fap0, ia124, ia127, cv53, zr126, and_8, ib_eql, ib_lss, ib_gtr, gl2, gl3, Option.some.injEq, List.drop_succ_cons, List.drop_nil, AVB]
    | (refine drW_intro (by kernel_rfl) ?_)
    | (refine gw_intro (fun h => ?_) (fun h => ?_) <;> (try simp only [beq_true, beq_false, Bool.not_eq_eq_eq_not, Bool.not_true, Bool.not_false, Bool.not_not, decide_eq_true_eq, decide_eq_false_iff_not, ge_iff_le, gt_iff_lt] at h)))
              refine hr _ ?_
              repeat' (first
    | simp only [*, put_slot, put_room, put_box, dem_box, setBox_box, endQ, endR, endV, rvars, rvar, room1, ↓reduceIte, List.map_nil, pureB, leaf, leafN, List.take_nil, List.range_zero, and_self, notAgg]
    | (refine drW_intro (by kernel_rfl) ?_)
    | (refine gw_intro (fun h => ?_) (fun h => ?_) <;> (try simp only [beq_true, beq_false, Bool.not_eq_eq_eq_not, Bool.not_true, Bool.not_false, Bool.not_not, decide_eq_true_eq, decide_eq_false_iff_not, ge_iff_le, gt_iff_lt] at h)))
            · have ua1 := Hd.mk a1
              by_cases a2 : hi < x1
              · have T : validB zs = false := by rw [← v0]; exact v4_bad hpos (by rw [e0]; omega) (by rw [e0]; omega) (.inr (.inr (.inl (by rw [e0, e1, ← eh]; exact a2))))
                clear ok0 v0 hpos e0 e1 e2 e3 hok hv c1 c2 hin hl4 el eh
                repeat' (first
    | simp only [*, guardG, opG, opD, inB, sval, stake, eats, eaters, get, cval, cval1, croom, St.taken, ↓reduceIte, Nat.reduceEqDiff, Nat.reduceLT, Nat.reduceLeDiff, reduceCtorEq, List.filterMap_cons, List.filterMap_nil, Option.bind_some, Option.map_some, Option.bind_none, List.getElem?_cons_zero, List.getElem?_cons_succ, List.contains_cons, List.contains_nil, beq_self_eq_true, beq_iff_eq, Nat.reduceBEq, dbin, isLocal, isAlloc, loadsOwn, pureB, leaf, leafN, List.all_cons, List.all_nil, List.nil_append, List.append_nil, List.length_nil, List.length_cons, List.take_zero, List.drop_succ_cons, dcells, Nat.reduceAdd, stepBox, gt_iff_lt, dStrBin, Int.reduceLE, Int.reduceToNat, Int.reduceBEq, isBar, allocKeys, takes, ptrArgs, callArgs, given, oroom, vroom, Option.isSome_none, stepTake, ty126, fap0, fap1, ia124, ia127, cv53, zr126, and_8, ib_eql, ib_lss, ib_gtr, gl2, gl3, Option.some.injEq, List.drop_succ_cons, List.drop_nil, AVB]
    | (refine drW_intro (by kernel_rfl) ?_)
    | (refine gw_intro (fun h => ?_) (fun h => ?_) <;> (try simp only [beq_true, beq_false, Bool.not_eq_eq_eq_not, Bool.not_true, Bool.not_false, Bool.not_not, decide_eq_true_eq, decide_eq_false_iff_not, ge_iff_le, gt_iff_lt] at h)))
                refine hr _ ?_
                repeat' (first
    | simp only [*, put_slot, put_room, put_box, dem_box, setBox_box, endQ, endR, endV, rvars, rvar, room1, ↓reduceIte, List.map_nil, pureB, leaf, leafN, List.take_nil, List.range_zero, and_self, notAgg]
    | (refine drW_intro (by kernel_rfl) ?_)
    | (refine gw_intro (fun h => ?_) (fun h => ?_) <;> (try simp only [beq_true, beq_false, Bool.not_eq_eq_eq_not, Bool.not_true, Bool.not_false, Bool.not_not, decide_eq_true_eq, decide_eq_false_iff_not, ge_iff_le, gt_iff_lt] at h)))
              · have ua2 := Hd.mk a2
                by_cases a3 : x2 < 128
                · have T : validB zs = false := by rw [← v0]; exact v4_bad hpos (by rw [e0]; omega) (by rw [e0]; omega) (.inr (.inr (.inr (.inl (by rw [e2]; unfold C1; omega)))))
                  clear ok0 v0 hpos e0 e1 e2 e3 hok hv c1 c2 hin hl4 el eh
                  repeat' (first
    | simp only [*, guardG, opG, opD, inB, sval, stake, eats, eaters, get, cval, cval1, croom, St.taken, ↓reduceIte, Nat.reduceEqDiff, Nat.reduceLT, Nat.reduceLeDiff, reduceCtorEq, List.filterMap_cons, List.filterMap_nil, Option.bind_some, Option.map_some, Option.bind_none, List.getElem?_cons_zero, List.getElem?_cons_succ, List.contains_cons, List.contains_nil, beq_self_eq_true, beq_iff_eq, Nat.reduceBEq, dbin, isLocal, isAlloc, loadsOwn, pureB, leaf, leafN, List.all_cons, List.all_nil, List.nil_append, List.append_nil, List.length_nil, List.length_cons, List.take_zero, List.drop_succ_cons, dcells, Nat.reduceAdd, stepBox, gt_iff_lt, dStrBin, Int.reduceLE, Int.reduceToNat, Int.reduceBEq, isBar, allocKeys, takes, ptrArgs, callArgs, given, oroom, vroom, Option.isSome_none, stepTake, ty126, fap0, fap1, ia124, ia127, cv53, zr126, and_8, ib_eql, ib_lss, ib_gtr, gl2, gl3, Option.some.injEq, List.drop_succ_cons, List.drop_nil, AVB]
    | (refine drW_intro (by kernel_rfl) ?_)
    | (refine gw_intro (fun h => ?_) (fun h => ?_) <;> (try simp only [beq_true, beq_false, Bool.not_eq_eq_eq_not, Bool.not_true, Bool.not_false, Bool.not_not, decide_eq_true_eq, decide_eq_false_iff_not, ge_iff_le, gt_iff_lt] at h)))
                  refine hr _ ?_
                  repeat' (first
    | simp only [*, put_slot, put_room, put_box, dem_box, setBox_box, endQ, endR, endV, rvars, rvar, room1, ↓reduceIte, List.map_nil, pureB, leaf, leafN, List.take_nil, List.range_zero, and_self, notAgg]
    | (refine drW_intro (by kernel_rfl) ?_)
    | (refine gw_intro (fun h => ?_) (fun h => ?_) <;> (try simp only [beq_true, beq_false, Bool.not_eq_eq_eq_not, Bool.not_true, Bool.not_false, Bool.not_not, decide_eq_true_eq, decide_eq_false_iff_not, ge_iff_le, gt_iff_lt] at h)))
                · have ua3 := Hd.mk a3
                  by_cases a4 : 191 < x2
                  · have T : validB zs = false := by rw [← v0]; exact v4_bad hpos (by rw [e0]; omega) (by rw [e0]; omega) (.inr (.inr (.inr (.inl (by rw [e2]; unfold C1; omega)))))
                    clear ok0 v0 hpos e0 e1 e2 e3 hok hv c1 c2 hin hl4 el eh
                    repeat' (first
    | simp only [*, guardG, opG, opD, inB, sval, stake, eats, eaters, get, cval, cval1, croom, St.taken, ↓reduceIte, Nat.reduceEqDiff, Nat.reduceLT, Nat.reduceLeDiff, reduceCtorEq, List.filterMap_cons, List.filterMap_nil, Option.bind_some, Option.map_some, Option.bind_none, List.getElem?_cons_zero, List.getElem?_cons_succ, List.contains_cons, List.contains_nil, beq_self_eq_true, beq_iff_eq, Nat.reduceBEq, dbin, isLocal, isAlloc, loadsOwn, pureB, leaf, leafN, List.all_cons, List.all_nil, List.nil_append, List.append_nil, List.length_nil, List.length_cons, List.take_zero, List.drop_succ_cons, dcells, Nat.reduceAdd, stepBox, gt_iff_lt, dStrBin, Int.reduceLE, Int.reduceToNat, Int.reduceBEq, isBar, allocKeys, takes, ptrArgs, callArgs, given, oroom, vroom, Option.isSome_none, stepTake, ty126, fap0, fap1, ia124, ia127, cv53, zr126, and_8, ib_eql, ib_lss, ib_gtr, gl2, gl3, Option.some.injEq, List.drop_succ_cons, List.drop_nil, AVB]
    | (refine drW_intro (by kernel_rfl) ?_)
    | (refine gw_intro (fun h => ?_) (fun h => ?_) <;> (try simp only [beq_true, beq_false, Bool.not_eq_eq_eq_not, Bool.not_true, Bool.not_false, Bool.not_not, decide_eq_true_eq, decide_eq_false_iff_not, ge_iff_le, gt_iff_lt] at h)))
                    refine hr _ ?_
                    repeat' (first
    | simp only [*, put_slot, put_room, put_box, dem_box, setBox_box, endQ, endR, endV, rvars, rvar, room1, ↓reduceIte, List.map_nil, pureB, leaf, leafN, List.take_nil, List.range_zero, and_self, notAgg]
    | (refine drW_intro (by kernel_rfl) ?_)
    | (refine gw_intro (fun h => ?_) (fun h => ?_) <;> (try simp only [beq_true, beq_false, Bool.not_eq_eq_eq_not, Bool.not_true, Bool.not_false, Bool.not_not, decide_eq_true_eq, decide_eq_false_iff_not, ge_iff_le, gt_iff_lt] at h)))
                  · have ua4 := Hd.mk a4
                    by_cases a5 : x3 < 128
                    · have T : validB zs = false := by rw [← v0]; exact v4_bad hpos (by rw [e0]; omega) (by rw [e0]; omega) (.inr (.inr (.inr (.inr (by rw [e3]; unfold C1; omega)))))
                      clear ok0 v0 hpos e0 e1 e2 e3 hok hv c1 c2 hin hl4 el eh
                      repeat' (first
    | simp only [*, guardG, opG, opD, inB, sval, stake, eats, eaters, get, cval, cval1, croom, St.taken, ↓reduceIte, Nat.reduceEqDiff, Nat.reduceLT, Nat.reduceLeDiff, reduceCtorEq, List.filterMap_cons, List.filterMap_nil, Option.bind_some, Option.map_some, Option.bind_none, List.getElem?_cons_zero, List.getElem?_cons_succ, List.contains_cons, List.contains_nil, beq_self_eq_true, beq_iff_eq, Nat.reduceBEq, dbin, isLocal, isAlloc, loadsOwn, pureB, leaf, leafN, List.all_cons, List.all_nil, List.nil_append, List.append_nil, List.length_nil, List.length_cons, List.take_zero, List.drop_succ_cons, dcells, Nat.reduceAdd, stepBox, gt_iff_lt, dStrBin, Int.reduceLE, Int.reduceToNat, Int.reduceBEq, isBar, allocKeys, takes, ptrArgs, callArgs, given, oroom, vroom, Option.isSome_none, stepTake, ty126, fap0, fap1, ia124, ia127, cv53, zr126, and_8, ib_eql, ib_lss, ib_gtr, gl2, gl3, Option.some.injEq, List.drop_succ_cons, List.drop_nil, AVB]
    | (refine drW_intro (by kernel_rfl) ?_)
    | (refine gw_intro (fun h => ?_) (fun h => ?_) <;> (try simp only [beq_true, beq_false, Bool.not_eq_eq_eq_not, Bool.not_true, Bool.not_false, Bool.not_not, decide_eq_true_eq, decide_eq_false_iff_not, ge_iff_le, gt_iff_lt] at h)))
                      refine hr _ ?_
                      repeat' (first
    | simp only [*, put_slot, put_room, put_box, dem_box, setBox_box, endQ, endR, endV, rvars, rvar, room1, ↓reduceIte, List.map_nil, pureB, leaf, leafN, List.take_nil, List.range_zero, and_self, notAgg]
    | (refine drW_intro (by kernel_rfl) ?_)
    | (refine gw_intro (fun h => ?_) (fun h => ?_) <;> (try simp only [beq_true, beq_false, Bool.not_eq_eq_eq_not, Bool.not_true, Bool.not_false, Bool.not_not, decide_eq_true_eq, decide_eq_false_iff_not, ge_iff_le, gt_iff_lt] at h)))
                    · have ua5 := Hd.mk a5
                      by_cases a6 : 191 < x3
                      · have T : validB zs = false := by rw [← v0]; exact v4_bad hpos (by rw [e0]; omega) (by rw [e0]; omega) (.inr (.inr (.inr (.inr (by rw [e3]; unfold C1; omega)))))
                        clear ok0 v0 hpos e0 e1 e2 e3 hok hv c1 c2 hin hl4 el eh
                        repeat' (first
    | simp only [*, guardG, opG, opD, inB, sval, stake, eats, eaters, get, cval, cval1, croom, St.taken, ↓reduceIte, Nat.reduceEqDiff, Nat.reduceLT, Nat.reduceLeDiff, reduceCtorEq, List.filterMap_cons, List.filterMap_nil, Option.bind_some, Option.map_some, Option.bind_none, List.getElem?_cons_zero, List.getElem?_cons_succ, List.contains_cons, List.contains_nil, beq_self_eq_true, beq_iff_eq, Nat.reduceBEq, dbin, isLocal, isAlloc, loadsOwn, pureB, leaf, leafN, List.all_cons, List.all_nil, List.nil_append, List.append_nil, List.length_nil, List.length_cons, List.take_zero, List.drop_succ_cons, dcells, Nat.reduceAdd, stepBox, gt_iff_lt, dStrBin, Int.reduceLE, Int.reduceToNat, Int.reduceBEq, isBar, allocKeys, takes, ptrArgs, callArgs, given, oroom, vroom, Option.isSome_none, stepTake, ty126, fap0, fap1, ia124, ia127, cv53, zr126, and_8, ib_eql, ib_lss, ib_gtr, gl2, gl3, Option.some.injEq, List.drop_succ_cons, List.drop_nil, AVB]
    | (refine drW_intro (by kernel_rfl) ?_)
    | (refine gw_intro (fun h => ?_) (fun h => ?_) <;> (try simp only [beq_true, beq_false, Bool.not_eq_eq_eq_not, Bool.not_true, Bool.not_false, Bool.not_not, decide_eq_true_eq, decide_eq_false_iff_not, ge_iff_le, gt_iff_lt] at h)))
                        refine hr _ ?_
                        repeat' (first
    | simp only [*, put_slot, put_room, put_box, dem_box, setBox_box, endQ, endR, endV, rvars, rvar, room1, ↓reduceIte, List.map_nil, pureB, leaf, leafN, List.take_nil, List.range_zero, and_self, notAgg]
    | (refine drW_intro (by kernel_rfl) ?_)
    | (refine gw_intro (fun h => ?_) (fun h => ?_) <;> (try simp only [beq_true, beq_false, Bool.not_eq_eq_eq_not, Bool.not_true, Bool.not_false, Bool.not_not, decide_eq_true_eq, decide_eq_false_iff_not, ge_iff_le, gt_iff_lt] at h)))
                      · have ua6 := Hd.mk a6
                        have hb : (4 : Int) ≤ rs.length := by omega
                        have hd := map_drop rs 4
                        have OKF := Hd.mk (show BytesOK (rs.drop 4) from ok0.drop 4)
                        have VF := Hd.mk (show validB (rs.drop 4) = validB zs by rw [v4_ok (by omega) (by rw [e0]; omega) (by rw [e0]; omega) (by rw [e0, e1, ← el]; omega) (by rw [e0, e1, ← eh]; omega) (by rw [e2]; unfold C1; omega) (by rw [e3]; unfold C1; omega), v0])
                        have BF := Hd.mk (show (rs.drop 4).length ≤ rs.length by rw [List.length_drop]; omega)
                        have BL := Hd.mk (show (rs.drop 4).length < rs.length by rw [List.length_drop]; omega)
                        have lD : ((rs.drop 4).map (D.int .u8)).length = (rs.drop 4).length := List.length_map ..
                        clear ok0 v0 hpos e0 e1 e2 e3 hok hv c1 c2 hin hl4 el eh
                        repeat' (first
    | simp only [*, guardG, opG, opD, inB, sval, stake, eats, eaters, get, cval, cval1, croom, St.taken, ↓reduceIte, Nat.reduceEqDiff, Nat.reduceLT, Nat.reduceLeDiff, reduceCtorEq, List.filterMap_cons, List.filterMap_nil, Option.bind_some, Option.map_some, Option.bind_none, Option.map_none, List.getElem?_cons_zero, List.getElem?_cons_succ, List.contains_cons, List.contains_nil, beq_self_eq_true, beq_iff_eq, Nat.reduceBEq, dbin, isLocal, isAlloc, loadsOwn, pureB, leaf, leafN, List.all_cons, List.all_nil, List.nil_append, List.append_nil, List.length_nil, List.length_cons, List.take_zero, List.drop_succ_cons, dcells, Nat.reduceAdd, stepBox, dopt, dbound, gt_iff_lt, dStrBin, Int.reduceLE, Int.reduceToNat, Int.reduceBEq, isBar, allocKeys, takes, ptrArgs, callArgs, given, oroom, vroom, Option.isSome_none, stepTake, ty126, fap0, fap1, ia124, ia127, cv53, zr126, szU8, takeM, and_8, ib_eql, ib_lss, ib_gtr, gl2, gl3, Option.some.injEq, List.drop_succ_cons, List.drop_nil, AVB]
    | (refine drW_intro (by kernel_rfl) ?_)
    | (refine gw_intro (fun h => ?_) (fun h => ?_) <;> (try simp only [beq_true, beq_false, Bool.not_eq_eq_eq_not, Bool.not_true, Bool.not_false, Bool.not_not, decide_eq_true_eq, decide_eq_false_iff_not, ge_iff_le, gt_iff_lt] at h)))
                        refine hn _ ⟨rs.drop 4, ?_, OKF, ?_, VF, ?_, ?_⟩ ?_
                        · simp only [*, put_slot, ↓reduceIte]
                        · exact Nat.le_trans (show (rs.drop 4).length ≤ rs.length from BF) (show rs.length ≤ zs.length from hle)
                        · simp only [*, put_slot, dem_slot, setBox_slot, ↓reduceIte, Nat.reduceEqDiff, reduceCtorEq]
                        · simp only [*, put_room, dem_room, setBox_room, ↓reduceIte, Nat.reduceEqDiff, reduceCtorEq]
                        · have : (rs.drop 4).length < rs.length := BL
                          simp only [slotL, *, put_slot, ↓reduceIte]
                          first | done | omega
    · have hg : ¬ (0 : Int) < rs.length := by omega
      have hv' : validB zs = true := by
        have h1 : validB rs = validB zs := hv
        rw [← h1, List.length_eq_zero_iff.1 (by omega : rs.length = 0)]
        rfl
      clear hpos hle hok hv
      repeat' (first
    | simp only [*, guardG, opG, inB, sval, stake, eats, eaters, get, cval, cval1, St.taken, ↓reduceIte, Nat.reduceLT, List.filterMap_cons, List.filterMap_nil, Option.map_some, Option.bind_none, List.contains_cons, List.contains_nil, Nat.reduceBEq, dbin, List.append_nil, gt_iff_lt, ptrArgs, callArgs, Option.isSome_none, ib_gtr, AVB]
    | (refine drW_intro (by kernel_rfl) ?_)
    | (refine gw_intro (fun h => ?_) (fun h => ?_) <;> (try simp only [beq_true, beq_false, Bool.not_eq_eq_eq_not, Bool.not_true, Bool.not_false, Bool.not_not, decide_eq_true_eq, decide_eq_false_iff_not, ge_iff_le, gt_iff_lt] at h)))
      refine hx _ _ ?_
      repeat' (first
    | simp only [*, guardG, opG, inB, sval, stake, eats, eaters, get, cval, cval1, croom, endQ, endR, endV, rvars, rvar, room1, ↓reduceIte, Nat.reduceLT, List.filterMap_cons, List.filterMap_nil, List.contains_cons, List.contains_nil, List.map_nil, pureB, leaf, leafN, List.append_nil, List.take_nil, vroom, notAgg, AVB]
    | (refine drW_intro (by kernel_rfl) ?_)
    | (refine gw_intro (fun h => ?_) (fun h => ?_) <;> (try simp only [beq_true, beq_false, Bool.not_eq_eq_eq_not, Bool.not_true, Bool.not_false, Bool.not_not, decide_eq_true_eq, decide_eq_false_iff_not, ge_iff_le, gt_iff_lt] at h)))
end Go.Av
namespace Go.Av
open Go.Proofs Go.Proofs.YtfhpckkldelkcaaDoor
variable [Ek] {chk : List D → Bool}
set_option maxHeartbeats 4000000 in
theorem right_L (zs : List Int) (hz : BytesOK zs) (hl : zs.length < 1000000000) : callL Tryd.prog (ext11b chk) 69 [.list (zs.map (D.int .u8))] [] = some (.bool (noNul zs && validB zs), [.no], []) := by
  have hV := valid_L (chk := chk) zs hz hl
  have lN : (zs.map (D.int .u8)).length = zs.length := List.length_map ..
  have hz' := Hd.mk hz
  clear hz
  refine callK (m := 16) (res := [2]) (rs := [.tmp 2]) rfl Tryd.func69 rfl rfl rfl rfl rfl ?_
  repeat' (first
    | simp only [*, guardG, opG, inB, sval, stake, eats, eaters, get, cval, cval1, croom, St.taken, ↓reduceIte, Nat.reduceLT, reduceCtorEq, List.filterMap_cons, List.filterMap_nil, Option.map_some, Option.bind_none, List.getD_cons_zero, List.contains_cons, List.contains_nil, Nat.reduceBEq, List.append_nil, List.length_nil, ptrArgs, callArgs, vroom, Option.isSome_none, AVB]
    | (refine drW_intro (by kernel_rfl) ?_)
    | (refine gw_intro (fun h => ?_) (fun h => ?_) <;> (try simp only [beq_true, beq_false, Bool.not_eq_eq_eq_not, Bool.not_true, Bool.not_false, Bool.not_not, decide_eq_true_eq, decide_eq_false_iff_not, ge_iff_le, gt_iff_lt] at h)))
  refine loopH (fun st => ∃ i : Nat, i ≤ zs.length ∧ st.slot 7 = .int .i64 i ∧ st.slot 6 = .int .i64 zs.length ∧ st.slot 5 = .list (zs.map (D.int .u8)) ∧ st.slot 0 = .list (zs.map (D.int .u8)) ∧ st.slot 2 = .bool false ∧ st.room 2 = [] ∧ Hd (noNul (zs.drop i) = noNul zs)) (fun st => zs.length - slotI st 7) ?_ ?_
  · refine ⟨0, Nat.zero_le _, ?_, ?_, ?_, ?_, ?_, ?_, rfl⟩
    all_goals simp only [*, put_slot, put_room, entry_slot, ↓reduceIte, Nat.reduceEqDiff, reduceCtorEq, List.getD_cons_zero]
    all_goals rfl
  · rintro st K ⟨i, hi, h7, h6, h5, h0, h2, hr2, hnn⟩ hn hx hr
    by_cases hlt : i < zs.length
    · have ok0 : BytesOK zs := hz'
      obtain ⟨x, e0, m0, n0, g0⟩ := BytesOK.get ok0 hlt
      have hlt1 : (i : Int) < zs.length := by omega
      have hw1 : IntKind.i64.wrap ((i : Int) + 1) = ((i + 1 : Nat) : Int) := by rw [wrap64 _ (by omega) (by omega)]; omega
      have hdr : zs.drop i = x :: zs.drop (i + 1) := by
        rw [List.drop_eq_getElem_cons hlt]
        congr 1
        rw [← e0]
        simp [List.getD, List.getElem?_eq_getElem hlt]
      have hnn' : noNul (zs.drop i) = noNul zs := hnn
      rw [hdr, noNul_cons] at hnn'
      clear ok0 e0 hdr hnn
      by_cases hx0 : x = 0
      · have T : noNul zs = false := by rw [← hnn', hx0]; rfl
        clear hnn' m0 n0
        subst hx0
        repeat' (first
    | simp only [*, guardG, opG, inB, sval, stake, eats, eaters, get, cval, cval1, croom, St.taken, ↓reduceIte, Nat.reduceEqDiff, Nat.reduceLT, List.filterMap_cons, List.filterMap_nil, Option.map_some, List.getElem?_cons_zero, List.contains_cons, List.contains_nil, beq_self_eq_true, Nat.reduceBEq, dbin, List.append_nil, List.length_nil, List.length_cons, dcells, takes, vroom, ib_eql, ib_lss, AVB]
    | (refine drW_intro (by kernel_rfl) ?_)
    | (refine gw_intro (fun h => ?_) (fun h => ?_) <;> (try simp only [beq_true, beq_false, Bool.not_eq_eq_eq_not, Bool.not_true, Bool.not_false, Bool.not_not, decide_eq_true_eq, decide_eq_false_iff_not, ge_iff_le, gt_iff_lt] at h)))
        refine hr _ ?_
        repeat' (first
    | simp only [*, put_slot, put_room, put_box, dem_box, endQ, endR, endV, rvars, rvar, room1, ↓reduceIte, List.map_nil, pureB, leaf, leafN, List.take_nil, List.range_zero, Bool.false_and, and_self, notAgg]
    | (refine drW_intro (by kernel_rfl) ?_)
    | (refine gw_intro (fun h => ?_) (fun h => ?_) <;> (try simp only [beq_true, beq_false, Bool.not_eq_eq_eq_not, Bool.not_true, Bool.not_false, Bool.not_not, decide_eq_true_eq, decide_eq_false_iff_not, ge_iff_le, gt_iff_lt] at h)))
      · have hx1 : (x == 0) = false := by simpa using hx0
        have T := Hd.mk (show noNul (zs.drop (i + 1)) = noNul zs by rw [← hnn', hx1]; rfl)
        clear hnn' m0 n0 hx0
        repeat' (first
    | simp only [*, guardG, opG, inB, sval, stake, eats, eaters, get, cval, cval1, St.taken, ↓reduceIte, Nat.reduceEqDiff, Nat.reduceLT, List.filterMap_cons, List.filterMap_nil, Option.map_some, List.getElem?_cons_zero, List.contains_cons, List.contains_nil, Nat.reduceBEq, dbin, List.append_nil, List.length_nil, List.length_cons, dcells, takes, ib_add, ib_eql, ib_lss, AVB]
    | (refine drW_intro (by kernel_rfl) ?_)
    | (refine gw_intro (fun h => ?_) (fun h => ?_) <;> (try simp only [beq_true, beq_false, Bool.not_eq_eq_eq_not, Bool.not_true, Bool.not_false, Bool.not_not, decide_eq_true_eq, decide_eq_false_iff_not, ge_iff_le, gt_iff_lt] at h)))
        refine hn _ ⟨i + 1, hlt, ?_, ?_, ?_, ?_, ?_, ?_, T⟩ ?_
        · simp only [*, put_slot, ↓reduceIte]
        · simp only [*, put_slot, dem_slot, ↓reduceIte, Nat.reduceEqDiff]
        · simp only [*, put_slot, dem_slot, ↓reduceIte, Nat.reduceEqDiff]
        · simp only [*, put_slot, dem_slot, ↓reduceIte, reduceCtorEq]
        · simp only [*, put_slot, dem_slot, ↓reduceIte, Nat.reduceEqDiff]
        · simp only [*, put_room, dem_room, ↓reduceIte, Nat.reduceEqDiff]
        · simp only [slotI, *, put_slot, ↓reduceIte, Int.toNat_natCast]
          omega
    · have hge : ¬ (i : Int) < zs.length := by omega
      have T : noNul zs = true := by
        have h1 : noNul (zs.drop i) = noNul zs := hnn
        rw [← h1, List.drop_eq_nil_of_le (by omega)]
        rfl
      clear hnn
      repeat' (first
    | simp only [*, guardG, opG, inB, sval, stake, eats, eaters, get, ↓reduceIte, Nat.reduceLT, List.filterMap_cons, List.filterMap_nil, Option.map_some, List.contains_cons, List.contains_nil, dbin, List.append_nil, ib_lss, AVB]
    | (refine drW_intro (by kernel_rfl) ?_)
    | (refine gw_intro (fun h => ?_) (fun h => ?_) <;> (try simp only [beq_true, beq_false, Bool.not_eq_eq_eq_not, Bool.not_true, Bool.not_false, Bool.not_not, decide_eq_true_eq, decide_eq_false_iff_not, ge_iff_le, gt_iff_lt] at h)))
      refine hx _ _ ?_
      repeat' (first
    | simp only [*, guardG, opG, inB, sval, stake, eats, eaters, get, St.taken, endQ, endR, endV, rvars, rvar, room1, ↓reduceIte, Nat.reduceLT, reduceCtorEq, List.filterMap_cons, List.filterMap_nil, Option.bind_some, List.contains_cons, List.contains_nil, List.map_cons, List.map_nil, beq_self_eq_true, Nat.reduceBEq, okR, callG, pureB, leaf, leafN, List.all_cons, List.all_nil, List.nil_append, List.append_nil, List.take_nil, List.take_succ_cons, ptrArgs, callArgs, Option.isSome_none, notAgg, AVB]
    | (refine drW_intro (by kernel_rfl) ?_)
    | (refine gw_intro (fun h => ?_) (fun h => ?_) <;> (try simp only [beq_true, beq_false, Bool.not_eq_eq_eq_not, Bool.not_true, Bool.not_false, Bool.not_not, decide_eq_true_eq, decide_eq_false_iff_not, ge_iff_le, gt_iff_lt] at h)))
end Go.Av
namespace Go.Av
variable [Ek]
structure At where
  sp : List UInt8
  nm : List UInt8
  vl : List UInt8
  deriving DecidableEq
structure Nd where
  p : Int
  k : Int
  sp : List UInt8
  nm : List UInt8
  at_ : List At
  st : List (List UInt8)
  tx : List UInt8
  deriving DecidableEq
def At.d (a : At) : D := .agg [.str a.sp, .str a.nm, .str a.vl]
def Nd.d (n : Nd) : D := .agg [.int .i64 n.p, .int .i64 n.k, .str n.sp, .str n.nm, .list (n.at_.map At.d), .list (n.st.map .str), .str n.tx]
theorem at_eq (a b : At) : (a.sp == b.sp && (a.nm == b.nm && (a.vl == b.vl))) = decide (a = b) := by
  cases a; cases b
  rw [Bool.eq_iff_iff]
  simp
theorem drop_eq {α : Type} [DecidableEq α] {xs ys : List α} {i : Nat} {x y : α} (hx : xs[i]? = some x) (hy : ys[i]? = some y) : decide (xs.drop i = ys.drop i) = (decide (x = y) && decide (xs.drop (i + 1) = ys.drop (i + 1))) := by
  have h1 : i < xs.length := (List.getElem?_eq_some_iff.1 hx).1
  have h2 : i < ys.length := (List.getElem?_eq_some_iff.1 hy).1
  have e1 : xs[i] = x := (List.getElem?_eq_some_iff.1 hx).2
  have e2 : ys[i] = y := (List.getElem?_eq_some_iff.1 hy).2
  rw [List.drop_eq_getElem_cons h1, List.drop_eq_getElem_cons h2, e1, e2, Bool.eq_iff_iff]
  simp
theorem drop_end {α : Type} [DecidableEq α] {xs ys : List α} {i : Nat} (h : xs.length = ys.length) (hi : xs.length ≤ i) : decide (xs.drop i = ys.drop i) = true := by
  rw [List.drop_eq_nil_of_le hi, List.drop_eq_nil_of_le (by omega)]
  rfl
theorem len_ne {α : Type} [DecidableEq α] {xs ys : List α} (h : xs.length ≠ ys.length) : decide (xs = ys) = false := by
  simp only [decide_eq_false_iff_not]
  rintro rfl
  exact h rfl
theorem getD_map {α : Type} {xs : List α} {f : α → D} {i : Nat} {x : α} (h : xs[i]? = some x) : (xs.map f).getD i .bad = f x := by
  simp [List.getD, h]
theorem some_at {α : Type} {xs : List α} {i : Nat} (h : i < xs.length) : ∃ x, xs[i]? = some x := ⟨_, List.getElem?_eq_getElem h⟩
theorem lenM {α : Type} (xs : List α) (f : α → D) : ((xs.map f).length : Int) = xs.length := by simp
theorem lenM0 {α : Type} (xs : List α) (f : α → D) : (xs.map f).length = xs.length := by simp
theorem wrapS (i : Nat) (h : i ≤ 140737488355328) : IntKind.i64.wrap ((i : Int) + 1) = ((i + 1 : Nat) : Int) := by
  rw [wrap64 _ (by omega) (by omega)]
  omega
theorem ndat (n : Nd) : n.d = .agg [.int .i64 n.p, .int .i64 n.k, .str n.sp, .str n.nm, .list (n.at_.map At.d), .list (n.st.map .str), .str n.tx] := rfl
theorem nd7 (n : Nd) : (dcells n.d).length = 7 := rfl
def Small (ns : List Nd) : Prop := ns.length ≤ 10000 ∧ ∀ n ∈ ns, n.at_.length ≤ 1000000 ∧ n.st.length ≤ 1000000
end Go.Av
namespace Go.Av
open Go.Proofs
variable [Ek] {chk : List D → Bool}
def atG (a : At) : Bool := decide ((200 : Int) < a.nm.length) || (decide ((200 : Int) < a.sp.length) || decide ((200 : Int) < a.vl.length))
def ndG0 (n : Nd) : Bool := decide ((20 : Int) < n.at_.length) || (decide ((20 : Int) < n.st.length) || (decide ((200 : Int) < n.nm.length) || (decide ((200 : Int) < n.sp.length) || decide ((200 : Int) < n.tx.length))))
def ndG (n : Nd) : Bool := ndG0 n || n.at_.any atG
def greatF (ns : List Nd) (most : Nat) : Bool := decide ((most : Int) < ns.length) || ns.any ndG
theorem any_drop {α : Type} {xs : List α} {i : Nat} {x : α} (f : α → Bool) (hx : xs[i]? = some x) : (xs.drop i).any f = (f x || (xs.drop (i + 1)).any f) := by
  have h1 : i < xs.length := (List.getElem?_eq_some_iff.1 hx).1
  have e1 : xs[i] = x := (List.getElem?_eq_some_iff.1 hx).2
  rw [List.drop_eq_getElem_cons h1, e1, List.any_cons]
theorem any_end {α : Type} {xs : List α} {i : Nat} (f : α → Bool) (h : xs.length ≤ i) : (xs.drop i).any f = false := by
  rw [List.drop_eq_nil_of_le h]
  rfl
set_option maxHeartbeats 16000000 in
theorem great_L (ns : List Nd) (most : Nat) (hm : most ≤ 1000) : callL Tryd.prog (ext11b chk) 7 [.list (ns.map Nd.d), .int .i64 most] [] = some (.bool (greatF ns most), [.no], []) := by
  have lN := lenM ns Nd.d
  unfold greatF
  refine callK (m := 85) (res := [4]) (rs := [.tmp 4]) rfl Tryd.func7 rfl rfl rfl rfl rfl ?_
  by_cases hg : (most : Int) < ns.length
  · rw [decide_eq_true hg, Bool.true_or]
    clear hm
    repeat' (first
    | simp only [*, guardG, opG, inB, sval, stake, eats, eaters, get, cval, cval1, croom, St.taken, endQ, endR, endV, rvars, rvar, room1, ↓reduceIte, Nat.reduceEqDiff, Nat.reduceLT, reduceCtorEq, List.filterMap_cons, List.filterMap_nil, Option.map_some, Option.bind_none, List.getD_cons_zero, List.getD_cons_succ, List.contains_cons, List.contains_nil, List.map_nil, Nat.reduceBEq, dbin, dIntBin, pureB, leaf, leafN, List.append_nil, List.take_nil, List.length_nil, List.getElem?_nil, gt_iff_lt, ptrArgs, callArgs, vroom, Option.isSome_none, notAgg, ite_self, AVB]
    | (refine drW_intro (by kernel_rfl) ?_)
    | (refine gw_intro (fun h => ?_) (fun h => ?_) <;> (try simp only [beq_true, beq_false, Bool.not_eq_eq_eq_not, Bool.not_true, Bool.not_false, Bool.not_not, decide_eq_true_eq, decide_eq_false_iff_not, ge_iff_le, gt_iff_lt] at h)))
  · rw [decide_eq_false hg, Bool.false_or]
    have hl : ns.length ≤ 1000 := by omega
    have HL := Hd.mk hl
    clear hl hm
    obtain ⟨R, hR⟩ : ∃ R, Hd (R = ns.any ndG) := ⟨_, rfl⟩
    rw [← (show R = ns.any ndG from hR)]
    repeat' (first
    | simp only [*, guardG, opG, inB, sval, stake, eats, eaters, get, cval, cval1, croom, St.taken, ↓reduceIte, Nat.reduceEqDiff, Nat.reduceLT, reduceCtorEq, List.filterMap_cons, List.filterMap_nil, Option.map_some, Option.bind_none, List.getD_cons_zero, List.getD_cons_succ, List.contains_cons, List.contains_nil, Nat.reduceBEq, dbin, dIntBin, List.append_nil, List.length_nil, gt_iff_lt, ptrArgs, callArgs, vroom, Option.isSome_none, AVB]
    | (refine drW_intro (by kernel_rfl) ?_)
    | (refine gw_intro (fun h => ?_) (fun h => ?_) <;> (try simp only [beq_true, beq_false, Bool.not_eq_eq_eq_not, Bool.not_true, Bool.not_false, Bool.not_not, decide_eq_true_eq, decide_eq_false_iff_not, ge_iff_le, gt_iff_lt] at h)))
    clear hg
    refine loopH (fun st => ∃ i : Nat, i ≤ ns.length ∧ st.slot 5 = .int .i64 i ∧ st.slot 0 = .list (ns.map Nd.d) ∧ st.slot 4 = .bool false ∧ st.room 4 = [] ∧ Hd (R = (ns.drop i).any ndG)) (fun st => ns.length - slotI st 5) ?_ ?_
    · refine ⟨0, Nat.zero_le _, ?_, ?_, ?_, ?_, hR⟩
      all_goals simp only [*, put_slot, put_room, entry_slot, ↓reduceIte, Nat.reduceEqDiff, reduceCtorEq, List.getD_cons_zero]
      all_goals rfl
    · rintro st K ⟨i, hi, g5, g0, g4, gr, hO⟩ hn hx hr
      have hl : ns.length ≤ 1000 := HL
      by_cases h : i < ns.length
      · have g9 : (i : Int) < ns.length := by omega
        have hw := wrapS i (by omega)
        obtain ⟨x, hx1⟩ := some_at h
        have hO' : R = (ns.drop i).any ndG := hO
        rw [any_drop ndG hx1] at hO'
        have ha := getD_map (f := Nd.d) hx1
        obtain ⟨p, k, sp, nm, a, s, tx⟩ := x
        have ha2 : (ns.map Nd.d).getD i .bad = .agg [.int .i64 p, .int .i64 k, .str sp, .str nm, .list (a.map At.d), .list (s.map .str), .str tx] := ha
        clear ha hx1
        have lA := lenM a At.d
        have lS := lenM s D.str
        generalize s.map D.str = S at *
        simp only [ndG, ndG0] at hO'
        have HI := Hd.mk h
        clear hl h hO hx
        by_cases c1 : (20 : Int) < a.length
        · rw [decide_eq_true c1] at hO'
          simp only [Bool.true_or] at hO'
          subst hO'
          clear hn hR HI
          repeat' (first
    | simp only [*, guardG, opG, inB, sval, stake, eats, eaters, get, cval, cval1, croom, St.taken, ↓reduceIte, Nat.reduceEqDiff, Nat.reduceLT, Nat.reduceLeDiff, reduceCtorEq, List.filterMap_cons, List.filterMap_nil, Option.bind_some, Option.map_some, Option.bind_none, List.getElem?_cons_zero, List.getElem?_cons_succ, List.contains_cons, List.contains_nil, Nat.reduceBEq, dbin, dIntBin, okR, callG, pureB, leaf, leafN, List.all_cons, List.all_nil, List.nil_append, List.append_nil, List.length_nil, List.length_cons, List.take_zero, List.drop_succ_cons, dcells, Nat.reduceAdd, stepBox, gt_iff_lt, dStrBin, takes, ptrArgs, callArgs, given, oroom, vroom, Option.isSome_none, stepTake, stepPtr, List.drop_succ_cons, List.drop_nil, AVB]
    | (refine drW_intro (by kernel_rfl) ?_)
    | (refine gw_intro (fun h => ?_) (fun h => ?_) <;> (try simp only [beq_true, beq_false, Bool.not_eq_eq_eq_not, Bool.not_true, Bool.not_false, Bool.not_not, decide_eq_true_eq, decide_eq_false_iff_not, ge_iff_le, gt_iff_lt] at h)))
          refine hr _ ?_
          repeat' (first
    | simp only [*, put_slot, put_room, put_box, dem_box, setBox_box, endQ, endR, endV, rvars, rvar, room1, ↓reduceIte, List.map_nil, pureB, leaf, leafN, List.take_nil, List.range_zero, and_self, notAgg]
    | (refine drW_intro (by kernel_rfl) ?_)
    | (refine gw_intro (fun h => ?_) (fun h => ?_) <;> (try simp only [beq_true, beq_false, Bool.not_eq_eq_eq_not, Bool.not_true, Bool.not_false, Bool.not_not, decide_eq_true_eq, decide_eq_false_iff_not, ge_iff_le, gt_iff_lt] at h)))
        · rw [decide_eq_false c1] at hO'
          by_cases c2 : (20 : Int) < s.length
          · rw [decide_eq_true c2] at hO'
            simp only [Bool.true_or, Bool.or_true] at hO'
            subst hO'
            clear hn hR HI
            repeat' (first
    | simp only [*, guardG, opG, inB, sval, stake, eats, eaters, get, cval, cval1, croom, St.taken, ↓reduceIte, Nat.reduceEqDiff, Nat.reduceLT, Nat.reduceLeDiff, reduceCtorEq, List.filterMap_cons, List.filterMap_nil, Option.bind_some, Option.map_some, Option.bind_none, List.getElem?_cons_zero, List.getElem?_cons_succ, List.contains_cons, List.contains_nil, beq_self_eq_true, Nat.reduceBEq, dbin, dIntBin, okR, callG, pureB, leaf, leafN, List.all_cons, List.all_nil, List.nil_append, List.append_nil, List.length_nil, List.length_cons, List.take_zero, List.drop_succ_cons, dcells, Nat.reduceAdd, stepBox, gt_iff_lt, dStrBin, takes, ptrArgs, callArgs, given, oroom, vroom, Option.isSome_none, stepTake, stepPtr, List.drop_succ_cons, List.drop_nil, AVB]
    | (refine drW_intro (by kernel_rfl) ?_)
    | (refine gw_intro (fun h => ?_) (fun h => ?_) <;> (try simp only [beq_true, beq_false, Bool.not_eq_eq_eq_not, Bool.not_true, Bool.not_false, Bool.not_not, decide_eq_true_eq, decide_eq_false_iff_not, ge_iff_le, gt_iff_lt] at h)))
            refine hr _ ?_
            repeat' (first
    | simp only [*, put_slot, put_room, put_box, dem_box, setBox_box, endQ, endR, endV, rvars, rvar, room1, ↓reduceIte, List.map_nil, pureB, leaf, leafN, List.take_nil, List.range_zero, and_self, notAgg]
    | (refine drW_intro (by kernel_rfl) ?_)
    | (refine gw_intro (fun h => ?_) (fun h => ?_) <;> (try simp only [beq_true, beq_false, Bool.not_eq_eq_eq_not, Bool.not_true, Bool.not_false, Bool.not_not, decide_eq_true_eq, decide_eq_false_iff_not, ge_iff_le, gt_iff_lt] at h)))
          · rw [decide_eq_false c2] at hO'
            by_cases c3 : (200 : Int) < nm.length
            · rw [decide_eq_true c3] at hO'
              simp only [Bool.true_or, Bool.or_true] at hO'
              subst hO'
              clear hn hR HI
              repeat' (first
    | simp only [*, guardG, opG, inB, sval, stake, eats, eaters, get, cval, cval1, croom, St.taken, ↓reduceIte, Nat.reduceEqDiff, Nat.reduceLT, Nat.reduceLeDiff, reduceCtorEq, List.filterMap_cons, List.filterMap_nil, Option.bind_some, Option.map_some, Option.bind_none, List.getElem?_cons_zero, List.getElem?_cons_succ, List.contains_cons, List.contains_nil, beq_self_eq_true, Nat.reduceBEq, dbin, dIntBin, okR, callG, pureB, leaf, leafN, List.all_cons, List.all_nil, List.nil_append, List.append_nil, List.length_nil, List.length_cons, List.take_zero, List.drop_succ_cons, dcells, Nat.reduceAdd, stepBox, gt_iff_lt, dStrBin, takes, ptrArgs, callArgs, given, oroom, vroom, Option.isSome_none, stepTake, stepPtr, List.drop_succ_cons, List.drop_nil, AVB]
    | (refine drW_intro (by kernel_rfl) ?_)
    | (refine gw_intro (fun h => ?_) (fun h => ?_) <;> (try simp only [beq_true, beq_false, Bool.not_eq_eq_eq_not, Bool.not_true, Bool.not_false, Bool.not_not, decide_eq_true_eq, decide_eq_false_iff_not, ge_iff_le, gt_iff_lt] at h)))
              refine hr _ ?_
              repeat' (first
    | simp only [*, put_slot, put_room, put_box, dem_box, setBox_box, endQ, endR, endV, rvars, rvar, room1, ↓reduceIte, List.map_nil, pureB, leaf, leafN, List.take_nil, List.range_zero, and_self, notAgg]
    | (refine drW_intro (by kernel_rfl) ?_)
    | (refine gw_intro (fun h => ?_) (fun h => ?_) <;> (try simp only [beq_true, beq_false, Bool.not_eq_eq_eq_not, Bool.not_true, Bool.not_false, Bool.not_not, decide_eq_true_eq, decide_eq_false_iff_not, ge_iff_le, gt_iff_lt] at h)))
            · rw [decide_eq_false c3] at hO'
              by_cases c4 : (200 : Int) < sp.length
              · rw [decide_eq_true c4] at hO'
                simp only [Bool.true_or, Bool.or_true] at hO'
                subst hO'
                clear hn hR HI
                repeat' (first
    | simp only [*, guardG, opG, inB, sval, stake, eats, eaters, get, cval, cval1, croom, St.taken, ↓reduceIte, Nat.reduceEqDiff, Nat.reduceLT, Nat.reduceLeDiff, reduceCtorEq, List.filterMap_cons, List.filterMap_nil, Option.bind_some, Option.map_some, Option.bind_none, List.getElem?_cons_zero, List.getElem?_cons_succ, List.contains_cons, List.contains_nil, beq_self_eq_true, Nat.reduceBEq, dbin, dIntBin, okR, callG, pureB, leaf, leafN, List.all_cons, List.all_nil, List.nil_append, List.append_nil, List.length_nil, List.length_cons, List.take_zero, List.drop_succ_cons, dcells, Nat.reduceAdd, stepBox, gt_iff_lt, dStrBin, takes, ptrArgs, callArgs, given, oroom, vroom, Option.isSome_none, stepTake, stepPtr, List.drop_succ_cons, List.drop_nil, AVB]
    | (refine drW_intro (by kernel_rfl) ?_)
    | (refine gw_intro (fun h => ?_) (fun h => ?_) <;> (try simp only [beq_true, beq_false, Bool.not_eq_eq_eq_not, Bool.not_true, Bool.not_false, Bool.not_not, decide_eq_true_eq, decide_eq_false_iff_not, ge_iff_le, gt_iff_lt] at h)))
                refine hr _ ?_
                repeat' (first
    | simp only [*, put_slot, put_room, put_box, dem_box, setBox_box, endQ, endR, endV, rvars, rvar, room1, ↓reduceIte, List.map_nil, pureB, leaf, leafN, List.take_nil, List.range_zero, and_self, notAgg]
    | (refine drW_intro (by kernel_rfl) ?_)
    | (refine gw_intro (fun h => ?_) (fun h => ?_) <;> (try simp only [beq_true, beq_false, Bool.not_eq_eq_eq_not, Bool.not_true, Bool.not_false, Bool.not_not, decide_eq_true_eq, decide_eq_false_iff_not, ge_iff_le, gt_iff_lt] at h)))
              · rw [decide_eq_false c4] at hO'
                by_cases c5 : (200 : Int) < tx.length
                · rw [decide_eq_true c5] at hO'
                  simp only [Bool.true_or, Bool.or_true] at hO'
                  subst hO'
                  clear hn hR HI
                  repeat' (first
    | simp only [*, guardG, opG, inB, sval, stake, eats, eaters, get, cval, cval1, croom, St.taken, ↓reduceIte, Nat.reduceEqDiff, Nat.reduceLT, Nat.reduceLeDiff, reduceCtorEq, List.filterMap_cons, List.filterMap_nil, Option.bind_some, Option.map_some, Option.bind_none, List.getElem?_cons_zero, List.getElem?_cons_succ, List.contains_cons, List.contains_nil, beq_self_eq_true, Nat.reduceBEq, dbin, dIntBin, okR, callG, pureB, leaf, leafN, List.all_cons, List.all_nil, List.nil_append, List.append_nil, List.length_nil, List.length_cons, List.take_zero, List.drop_succ_cons, dcells, Nat.reduceAdd, stepBox, gt_iff_lt, dStrBin, takes, ptrArgs, callArgs, given, oroom, vroom, Option.isSome_none, stepTake, stepPtr, List.drop_succ_cons, List.drop_nil, AVB]
    | (refine drW_intro (by kernel_rfl) ?_)
    | (refine gw_intro (fun h => ?_) (fun h => ?_) <;> (try simp only [beq_true, beq_false, Bool.not_eq_eq_eq_not, Bool.not_true, Bool.not_false, Bool.not_not, decide_eq_true_eq, decide_eq_false_iff_not, ge_iff_le, gt_iff_lt] at h)))
                  refine hr _ ?_
                  repeat' (first
    | simp only [*, put_slot, put_room, put_box, dem_box, setBox_box, endQ, endR, endV, rvars, rvar, room1, ↓reduceIte, List.map_nil, pureB, leaf, leafN, List.take_nil, List.range_zero, and_self, notAgg]
    | (refine drW_intro (by kernel_rfl) ?_)
    | (refine gw_intro (fun h => ?_) (fun h => ?_) <;> (try simp only [beq_true, beq_false, Bool.not_eq_eq_eq_not, Bool.not_true, Bool.not_false, Bool.not_not, decide_eq_true_eq, decide_eq_false_iff_not, ge_iff_le, gt_iff_lt] at h)))
                · rw [decide_eq_false c5] at hO'
                  simp only [Bool.false_or] at hO'
                  have HO := Hd.mk hO'
                  have HA := Hd.mk c1
                  clear hO'
                  repeat' (first
    | simp only [*, guardG, opG, inB, sval, stake, eats, eaters, get, cval, cval1, croom, St.taken, ↓reduceIte, Nat.reduceEqDiff, Nat.reduceLT, Nat.reduceLeDiff, reduceCtorEq, List.filterMap_cons, List.filterMap_nil, Option.bind_some, Option.map_some, Option.bind_none, List.getElem?_cons_zero, List.getElem?_cons_succ, List.contains_cons, List.contains_nil, beq_self_eq_true, Nat.reduceBEq, dbin, dIntBin, okR, callG, pureB, leaf, leafN, List.all_cons, List.all_nil, List.nil_append, List.append_nil, List.length_nil, List.length_cons, List.take_zero, List.drop_succ_cons, dcells, Nat.reduceAdd, stepBox, gt_iff_lt, dStrBin, takes, ptrArgs, callArgs, given, oroom, vroom, Option.isSome_none, stepTake, stepPtr, List.drop_succ_cons, List.drop_nil, AVB]
    | (refine drW_intro (by kernel_rfl) ?_)
    | (refine gw_intro (fun h => ?_) (fun h => ?_) <;> (try simp only [beq_true, beq_false, Bool.not_eq_eq_eq_not, Bool.not_true, Bool.not_false, Bool.not_not, decide_eq_true_eq, decide_eq_false_iff_not, ge_iff_le, gt_iff_lt] at h)))
                  clear c1 c2 c3 c4 c5 ha2 g9
                  refine loopH (fun st' => ∃ j g : Nat, j ≤ a.length ∧ st'.slot 7 = .int .i64 j ∧ st'.slot 5 = .int .i64 i ∧ st'.slot 0 = .list (ns.map Nd.d) ∧ st'.slot 4 = .bool false ∧ st'.room 4 = [] ∧ st'.slot 6 = .ptr 6 g 0 ∧ st'.box 6 = some ⟨g, [.int .i64 p, .int .i64 k, .str sp, .str nm, .list (a.map At.d), .list S, .str tx], [.no, .no, .no, .no, .no, .no, .no]⟩ ∧ Hd (R = ((a.drop j).any atG || (ns.drop (i + 1)).any ndG))) (fun st' => a.length - slotI st' 7) ?_ ?_
                  · refine ⟨0, st.ctr 6, Nat.zero_le _, ?_, ?_, ?_, ?_, ?_, ?_, ?_, HO⟩
                    all_goals simp only [*, ↓reduceIte, Nat.reduceEqDiff, reduceCtorEq, AVB]
                    all_goals rfl
                  · rintro st' K' ⟨j, g, hj, e7, e5, e0, e4, er, e6, eb, hO2⟩ hn2 hx2 hr2
                    have hla : ¬ (20 : Int) < a.length := HA
                    have G5 := Hd.mk g5
                    clear g5 g0 g4 gr
                    by_cases h2 : j < a.length
                    · have g9 : (j : Int) < a.length := by omega
                      have hw2 := wrapS j (by omega)
                      obtain ⟨y, hy1⟩ := some_at h2
                      have hO3 : R = ((a.drop j).any atG || (ns.drop (i + 1)).any ndG) := hO2
                      rw [any_drop atG hy1] at hO3
                      have hb := getD_map (f := At.d) hy1
                      obtain ⟨a1, a2, a3⟩ := y
                      have hb2 : (a.map At.d).getD j .bad = .agg [.str a1, .str a2, .str a3] := hb
                      clear hb hy1 hla hO2 HO
                      simp only [atG] at hO3
                      by_cases d1 : (200 : Int) < a2.length
                      · rw [decide_eq_true d1] at hO3
                        simp only [Bool.true_or] at hO3
                        subst hO3
                        clear hn2 hx2 hR hn
                        repeat' (first
    | simp only [*, guardG, opG, inB, sval, stake, eats, eaters, get, cval, cval1, croom, St.taken, ↓reduceIte, Nat.reduceEqDiff, Nat.reduceLT, List.filterMap_cons, List.filterMap_nil, Option.bind_some, Option.map_some, Option.bind_none, List.getElem?_cons_zero, List.getElem?_cons_succ, List.contains_cons, List.contains_nil, Nat.reduceBEq, dbin, dIntBin, okR, callG, List.append_nil, List.length_nil, List.length_cons, dcells, Nat.reduceAdd, gt_iff_lt, dStrBin, takes, ptrArgs, callArgs, vroom, Option.isSome_none, stepTake, stepPtr, AVB]
    | (refine drW_intro (by kernel_rfl) ?_)
    | (refine gw_intro (fun h => ?_) (fun h => ?_) <;> (try simp only [beq_true, beq_false, Bool.not_eq_eq_eq_not, Bool.not_true, Bool.not_false, Bool.not_not, decide_eq_true_eq, decide_eq_false_iff_not, ge_iff_le, gt_iff_lt] at h)))
                        refine hr2 _ ?_
                        refine hr _ ?_
                        repeat' (first
    | simp only [*, put_slot, put_room, put_box, endQ, endR, endV, rvars, rvar, room1, ↓reduceIte, List.map_nil, pureB, leaf, leafN, List.take_nil, List.range_zero, and_self, notAgg]
    | (refine drW_intro (by kernel_rfl) ?_)
    | (refine gw_intro (fun h => ?_) (fun h => ?_) <;> (try simp only [beq_true, beq_false, Bool.not_eq_eq_eq_not, Bool.not_true, Bool.not_false, Bool.not_not, decide_eq_true_eq, decide_eq_false_iff_not, ge_iff_le, gt_iff_lt] at h)))
                      · rw [decide_eq_false d1] at hO3
                        by_cases d2 : (200 : Int) < a1.length
                        · rw [decide_eq_true d2] at hO3
                          simp only [Bool.true_or, Bool.or_true] at hO3
                          subst hO3
                          clear hn2 hx2 hR hn
                          repeat' (first
    | simp only [*, guardG, opG, inB, sval, stake, eats, eaters, get, cval, cval1, croom, St.taken, ↓reduceIte, Nat.reduceEqDiff, Nat.reduceLT, List.filterMap_cons, List.filterMap_nil, Option.bind_some, Option.map_some, Option.bind_none, List.getElem?_cons_zero, List.getElem?_cons_succ, List.contains_cons, List.contains_nil, beq_self_eq_true, Nat.reduceBEq, dbin, dIntBin, okR, callG, List.append_nil, List.length_nil, List.length_cons, dcells, Nat.reduceAdd, gt_iff_lt, dStrBin, takes, ptrArgs, callArgs, vroom, Option.isSome_none, stepTake, stepPtr, AVB]
    | (refine drW_intro (by kernel_rfl) ?_)
    | (refine gw_intro (fun h => ?_) (fun h => ?_) <;> (try simp only [beq_true, beq_false, Bool.not_eq_eq_eq_not, Bool.not_true, Bool.not_false, Bool.not_not, decide_eq_true_eq, decide_eq_false_iff_not, ge_iff_le, gt_iff_lt] at h)))
                          refine hr2 _ ?_
                          refine hr _ ?_
                          repeat' (first
    | simp only [*, put_slot, put_room, put_box, endQ, endR, endV, rvars, rvar, room1, ↓reduceIte, List.map_nil, pureB, leaf, leafN, List.take_nil, List.range_zero, and_self, notAgg]
    | (refine drW_intro (by kernel_rfl) ?_)
    | (refine gw_intro (fun h => ?_) (fun h => ?_) <;> (try simp only [beq_true, beq_false, Bool.not_eq_eq_eq_not, Bool.not_true, Bool.not_false, Bool.not_not, decide_eq_true_eq, decide_eq_false_iff_not, ge_iff_le, gt_iff_lt] at h)))
                        · rw [decide_eq_false d2] at hO3
                          by_cases d3 : (200 : Int) < a3.length
                          · rw [decide_eq_true d3] at hO3
                            simp only [Bool.true_or, Bool.or_true] at hO3
                            subst hO3
                            clear hn2 hx2 hR hn
                            repeat' (first
    | simp only [*, guardG, opG, inB, sval, stake, eats, eaters, get, cval, cval1, croom, St.taken, ↓reduceIte, Nat.reduceEqDiff, Nat.reduceLT, List.filterMap_cons, List.filterMap_nil, Option.bind_some, Option.map_some, Option.bind_none, List.getElem?_cons_zero, List.getElem?_cons_succ, List.contains_cons, List.contains_nil, beq_self_eq_true, Nat.reduceBEq, dbin, dIntBin, okR, callG, List.append_nil, List.length_nil, List.length_cons, dcells, Nat.reduceAdd, gt_iff_lt, dStrBin, takes, ptrArgs, callArgs, vroom, Option.isSome_none, stepTake, stepPtr, AVB]
    | (refine drW_intro (by kernel_rfl) ?_)
    | (refine gw_intro (fun h => ?_) (fun h => ?_) <;> (try simp only [beq_true, beq_false, Bool.not_eq_eq_eq_not, Bool.not_true, Bool.not_false, Bool.not_not, decide_eq_true_eq, decide_eq_false_iff_not, ge_iff_le, gt_iff_lt] at h)))
                            refine hr2 _ ?_
                            refine hr _ ?_
                            repeat' (first
    | simp only [*, put_slot, put_room, put_box, endQ, endR, endV, rvars, rvar, room1, ↓reduceIte, List.map_nil, pureB, leaf, leafN, List.take_nil, List.range_zero, and_self, notAgg]
    | (refine drW_intro (by kernel_rfl) ?_)
    | (refine gw_intro (fun h => ?_) (fun h => ?_) <;> (try simp only [beq_true, beq_false, Bool.not_eq_eq_eq_not, Bool.not_true, Bool.not_false, Bool.not_not, decide_eq_true_eq, decide_eq_false_iff_not, ge_iff_le, gt_iff_lt] at h)))
                          · rw [decide_eq_false d3] at hO3
                            simp only [Bool.false_or] at hO3
                            have HO4 := Hd.mk hO3
                            clear hO3 hr2 hx2 hn hr
                            repeat' (first
    | simp only [*, guardG, opG, inB, sval, stake, eats, eaters, get, cval, cval1, croom, St.taken, ↓reduceIte, Nat.reduceEqDiff, Nat.reduceLT, List.filterMap_cons, List.filterMap_nil, Option.bind_some, Option.map_some, Option.bind_none, List.getElem?_cons_zero, List.getElem?_cons_succ, List.contains_cons, List.contains_nil, beq_self_eq_true, Nat.reduceBEq, dbin, dIntBin, okR, callG, List.append_nil, List.length_nil, List.length_cons, dcells, Nat.reduceAdd, gt_iff_lt, dStrBin, takes, ptrArgs, callArgs, vroom, Option.isSome_none, stepTake, stepPtr, AVB]
    | (refine drW_intro (by kernel_rfl) ?_)
    | (refine gw_intro (fun h => ?_) (fun h => ?_) <;> (try simp only [beq_true, beq_false, Bool.not_eq_eq_eq_not, Bool.not_true, Bool.not_false, Bool.not_not, decide_eq_true_eq, decide_eq_false_iff_not, ge_iff_le, gt_iff_lt] at h)))
                            refine hn2 _ ⟨j + 1, g, h2, ?_, ?_, ?_, ?_, ?_, ?_, ?_, HO4⟩ ?_
                            · simp only [*, put_slot, ↓reduceIte]
                            · simp only [*, put_slot, dem_slot, ↓reduceIte, Nat.reduceEqDiff]
                            · simp only [*, put_slot, dem_slot, ↓reduceIte, reduceCtorEq]
                            · simp only [*, put_slot, dem_slot, ↓reduceIte, Nat.reduceEqDiff]
                            · simp only [*, put_room, dem_room, ↓reduceIte, Nat.reduceEqDiff]
                            · simp only [*, put_slot, dem_slot, ↓reduceIte, Nat.reduceEqDiff]
                            · simp only [*, put_box, dem_box]
                            · simp only [slotI, *, put_slot, ↓reduceIte, Int.toNat_natCast]
                              omega
                    · have g9 : ¬ (j : Int) < a.length := by omega
                      have hO3 : R = ((a.drop j).any atG || (ns.drop (i + 1)).any ndG) := hO2
                      rw [any_end atG (by omega), Bool.false_or] at hO3
                      have HO4 := Hd.mk hO3
                      clear hO3 hO2 hr2 hn2 hr hla
                      repeat' (first
    | simp only [*, guardG, opG, inB, sval, stake, eats, eaters, get, St.taken, ↓reduceIte, Nat.reduceEqDiff, Nat.reduceLT, List.filterMap_cons, List.filterMap_nil, Option.map_some, Option.bind_none, List.getElem?_cons_zero, List.getElem?_cons_succ, List.contains_cons, List.contains_nil, Nat.reduceBEq, dbin, dIntBin, List.append_nil, takes, ptrArgs, callArgs, Option.isSome_none, AVB]
    | (refine drW_intro (by kernel_rfl) ?_)
    | (refine gw_intro (fun h => ?_) (fun h => ?_) <;> (try simp only [beq_true, beq_false, Bool.not_eq_eq_eq_not, Bool.not_true, Bool.not_false, Bool.not_not, decide_eq_true_eq, decide_eq_false_iff_not, ge_iff_le, gt_iff_lt] at h)))
                      refine hx2 _ _ ?_
                      repeat' (first
    | simp only [*, guardG, opG, inB, sval, stake, eats, eaters, get, cval, cval1, St.taken, ↓reduceIte, Nat.reduceEqDiff, Nat.reduceLT, List.filterMap_cons, List.filterMap_nil, Option.map_some, List.contains_cons, List.contains_nil, beq_self_eq_true, Nat.reduceBEq, dbin, dIntBin, List.append_nil, AVB]
    | (refine drW_intro (by kernel_rfl) ?_)
    | (refine gw_intro (fun h => ?_) (fun h => ?_) <;> (try simp only [beq_true, beq_false, Bool.not_eq_eq_eq_not, Bool.not_true, Bool.not_false, Bool.not_not, decide_eq_true_eq, decide_eq_false_iff_not, ge_iff_le, gt_iff_lt] at h)))
                      have hi2 : i < ns.length := HI
                      refine hn _ ⟨i + 1, hi2, ?_, ?_, ?_, ?_, HO4⟩ ?_
                      · simp only [*, put_slot, ↓reduceIte]
                      · simp only [*, put_slot, dem_slot, ↓reduceIte, reduceCtorEq]
                      · simp only [*, put_slot, dem_slot, ↓reduceIte, Nat.reduceEqDiff]
                      · simp only [*, put_room, dem_room, ↓reduceIte, Nat.reduceEqDiff]
                      · have g5 : st.slot 5 = .int .i64 i := G5
                        simp only [slotI, *, put_slot, ↓reduceIte, Int.toNat_natCast, gt_iff_lt]
                        omega
      · have g9 : ¬ (i : Int) < ns.length := by omega
        have hO' : R = (ns.drop i).any ndG := hO
        rw [any_end ndG (by omega)] at hO'
        subst hO'
        clear hO hn hr hl hR
        repeat' (first
    | simp only [*, guardG, opG, inB, sval, stake, eats, eaters, get, St.taken, ↓reduceIte, Nat.reduceEqDiff, Nat.reduceLT, reduceCtorEq, List.filterMap_cons, List.filterMap_nil, Option.map_some, Option.bind_none, List.contains_cons, List.contains_nil, Nat.reduceBEq, dbin, dIntBin, List.append_nil, ptrArgs, callArgs, Option.isSome_none, AVB]
    | (refine drW_intro (by kernel_rfl) ?_)
    | (refine gw_intro (fun h => ?_) (fun h => ?_) <;> (try simp only [beq_true, beq_false, Bool.not_eq_eq_eq_not, Bool.not_true, Bool.not_false, Bool.not_not, decide_eq_true_eq, decide_eq_false_iff_not, ge_iff_le, gt_iff_lt] at h)))
        refine hx _ _ ?_
        repeat' (first
    | simp only [*, guardG, opG, inB, sval, stake, eats, eaters, get, cval, cval1, croom, endQ, endR, endV, rvars, rvar, room1, ↓reduceIte, Nat.reduceLT, List.filterMap_cons, List.filterMap_nil, List.contains_cons, List.contains_nil, List.map_nil, pureB, leaf, leafN, List.append_nil, List.take_nil, vroom, notAgg, AVB]
    | (refine drW_intro (by kernel_rfl) ?_)
    | (refine gw_intro (fun h => ?_) (fun h => ?_) <;> (try simp only [beq_true, beq_false, Bool.not_eq_eq_eq_not, Bool.not_true, Bool.not_false, Bool.not_not, decide_eq_true_eq, decide_eq_false_iff_not, ge_iff_le, gt_iff_lt] at h)))
end Go.Av
namespace Go.Av
open Go.Proofs
variable [Ek]
theorem callL_ext {P : Program} [Gs] {ext : Call} {f : FuncId} {args : List D} {pbs : List Bx} {r : D × List Room × List Bx} (h : ext f args pbs = some r) : callL P ext f args pbs = some r :=
  aev_callL (N := 1) (by simp only [aev, h])
variable {chk : List D → Bool}
theorem sp11 : callL Tryd.prog (ext11b chk) 6 [] [] = some (.bool true, [.no], []) := aev_callL (speaks11 chk)
theorem great_small {ns : List Nd} {m : Nat} (h : greatF ns m = false) (hm : m ≤ 10000) : Small ns := by
  unfold greatF at h
  simp only [Bool.or_eq_false_iff, decide_eq_false_iff_not, List.any_eq_false] at h
  refine ⟨by omega, fun n hn => ?_⟩
  have h1 := h.2 n hn
  unfold ndG ndG0 at h1
  simp only [Bool.or_eq_true, decide_eq_true_eq, not_or] at h1
  omega
theorem nodes_ok {ns : List Nd} (h : Small ns) : nodesOk (ns.map Nd.d) = true := by
  unfold nodesOk
  simp only [Bool.and_eq_true, List.all_eq_true, decide_eq_true_eq, List.length_map]
  refine ⟨fun e he => ?_, h.1⟩
  obtain ⟨n, hn, rfl⟩ := List.mem_map.1 he
  have h2 := h.2 n hn
  show ((n.at_.map At.d).all (fun e => (dcells e).length == 3) && (n.st.map D.str).all (fun e => (dcells e).length == 1) && decide ((n.at_.map At.d).length ≤ 1000000) && decide ((n.st.map D.str).length ≤ 1000000)) = true
  simp only [Bool.and_eq_true, List.all_eq_true, decide_eq_true_eq, List.length_map]
  refine ⟨⟨⟨?_, ?_⟩, h2.1⟩, h2.2⟩ <;> intro e he <;> obtain ⟨x, _, rfl⟩ := List.mem_map.1 he <;> rfl
end Go.Av
namespace Go.Av
open Go.Proofs
variable [Ek] {chk : List D → Bool}
open Go.Proofs.YtfhpckkldelkcaaDoor
def bytesI (s : List UInt8) : List Int := s.map fun b => (b.toNat : Int)
def goodB (s : List UInt8) : Bool := rGood (bytesI s)
theorem bytesI_ok (s : List UInt8) : BytesOK (bytesI s) := by
  intro i hi
  have hi' : i < s.length := by simpa [bytesI] using hi
  have : (bytesI s).getD i 0 = (s[i].toNat : Int) := by simp [bytesI, List.getD, hi']
  rw [this]
  have := s[i].toNat_lt
  omega
theorem bytesI_len (s : List UInt8) : (bytesI s).length = s.length := by simp [bytesI]
theorem bytesI_d (s : List UInt8) : (s.map fun b => D.int .u8 (b.toNat : Int)) = (bytesI s).map (D.int .u8) := by simp [bytesI]
theorem byI_of : ∀ (zs : List Int), BytesOK zs → byI (zs.map (D.int .u8)) = some zs
  | [], _ => rfl
  | z :: r, h => by
    have h0 := h 0 (by simp)
    have hr : BytesOK r := fun i hi => by have := h (i + 1) (by simpa using hi); simpa using this
    simp only [List.getD_cons_zero] at h0
    show (if 0 ≤ z ∧ z < 256 then (byI (r.map (D.int .u8))).map (z :: ·) else none) = _
    rw [if_pos h0, byI_of r hr]
    rfl
theorem good_L (s : List UInt8) (hl : s.length ≤ 140737488355328) : callL Tryd.prog (ext11b chk) 59 [.list (s.map fun b => .int .u8 b.toNat)] [] = some (.bool (goodB s), [], []) := by
  refine callL_ext (ext_in ?_)
  rw [bytesI_d]
  show (match byI ((bytesI s).map (D.int .u8)) with | some zs => if zs.length ≤ 140737488355328 then some (D.bool (rGood zs), ([] : List Room), ([] : List Bx)) else none | none => none) = _
  rw [byI_of _ (bytesI_ok s)]
  show (if (bytesI s).length ≤ 140737488355328 then some (D.bool (rGood (bytesI s)), ([] : List Room), ([] : List Bx)) else none) = _
  rw [if_pos (by rw [bytesI_len]; exact hl)]
  rfl
theorem right81_L (s : List UInt8) (hl : s.length ≤ 1000000) : callL Tryd.prog (ext11b chk) 69 [.list (s.map fun b => .int .u8 b.toNat)] [] = some (.bool (goodB s), [.no], []) := by
  have h := right_L (chk := chk) (bytesI s) (bytesI_ok s) (by rw [bytesI_len]; omega)
  rw [← good_valid (bytesI s).length _ (Nat.le_refl _) (bytesI_ok s)] at h
  rw [bytesI_d]
  exact h
theorem dright_L (s : List UInt8) (hl : s.length ≤ 1000000) : callL Tryd.prog (ext11b chk) 60 [.str s] [] = some (.bool (goodB s), [.no], []) := by
  have h := right81_L (chk := chk) s hl
  clear hl
  generalize goodB s = R at *
  refine callK (m := 6) (res := [2]) (rs := [.tmp 2]) rfl Tryd.func60 rfl rfl rfl rfl rfl ?_
  repeat' (first
    | simp only [*, guardG, opG, inB, sval, stake, eats, eaters, get, cval, cval1, croom, St.taken, endQ, endR, endV, rvars, rvar, room1, ↓reduceIte, Nat.reduceEqDiff, Nat.reduceLT, reduceCtorEq, List.filterMap_cons, List.filterMap_nil, Option.bind_some, Option.map_some, List.getD_cons_zero, List.contains_cons, List.contains_nil, List.map_cons, List.map_nil, beq_self_eq_true, Nat.reduceBEq, okR, callG, pureB, leaf, leafN, List.all_cons, List.all_nil, List.nil_append, List.append_nil, List.take_nil, List.length_nil, List.getElem?_nil, List.take_succ_cons, ptrArgs, callArgs, vroom, Option.isSome_none, notAgg, ite_self, AVB]
    | (refine drW_intro (by kernel_rfl) ?_)
    | (refine gw_intro (fun h => ?_) (fun h => ?_) <;> (try simp only [beq_true, beq_false, Bool.not_eq_eq_eq_not, Bool.not_true, Bool.not_false, Bool.not_not, decide_eq_true_eq, decide_eq_false_iff_not, ge_iff_le, gt_iff_lt] at h)))
theorem rright_L (s : List UInt8) (hl : s.length ≤ 140737488355328) : callL Tryd.prog (ext11b chk) 43 [.str s] [] = some (.bool (goodB s), [.no], []) := by
  have h := good_L (chk := chk) s hl
  clear hl
  generalize goodB s = R at *
  refine callK (m := 6) (res := [2]) (rs := [.tmp 2]) rfl Tryd.func43 rfl rfl rfl rfl rfl ?_
  repeat' (first
    | simp only [*, guardG, opG, inB, sval, stake, eats, eaters, get, cval, cval1, croom, St.taken, endQ, endR, endV, rvars, rvar, room1, ↓reduceIte, Nat.reduceEqDiff, Nat.reduceLT, reduceCtorEq, List.filterMap_cons, List.filterMap_nil, Option.bind_some, Option.map_some, List.getD_cons_zero, List.contains_cons, List.contains_nil, List.map_cons, List.map_nil, beq_self_eq_true, Nat.reduceBEq, okR, callG, pureB, leaf, leafN, List.all_cons, List.all_nil, List.nil_append, List.append_nil, List.take_nil, List.length_nil, List.getElem?_nil, ptrArgs, callArgs, vroom, Option.isSome_none, notAgg, ite_self, AVB]
    | (refine drW_intro (by kernel_rfl) ?_)
    | (refine gw_intro (fun h => ?_) (fun h => ?_) <;> (try simp only [beq_true, beq_false, Bool.not_eq_eq_eq_not, Bool.not_true, Bool.not_false, Bool.not_not, decide_eq_true_eq, decide_eq_false_iff_not, ge_iff_le, gt_iff_lt] at h)))
def idxN {α : Type} (f : α → Bool) : Nat → List α → Int
  | _, [] => -1
  | k, a :: r => if f a = true then (k : Int) else idxN f (k + 1) r
theorem idxN_at {α : Type} {xs : List α} {i : Nat} {x : α} (f : α → Bool) (hx : xs[i]? = some x) : idxN f i (xs.drop i) = if f x = true then (i : Int) else idxN f (i + 1) (xs.drop (i + 1)) := by
  have h1 : i < xs.length := (List.getElem?_eq_some_iff.1 hx).1
  have e1 : xs[i] = x := (List.getElem?_eq_some_iff.1 hx).2
  rw [List.drop_eq_getElem_cons h1, e1, idxN]
theorem idxN_end {α : Type} {xs : List α} {i : Nat} (f : α → Bool) (h : xs.length ≤ i) : idxN f i (xs.drop i) = -1 := by
  rw [List.drop_eq_nil_of_le h]
  rfl
theorem idxN_ge {α : Type} (f : α → Bool) : ∀ (xs : List α) (k : Nat), decide (idxN f k xs ≥ 0) = xs.any f
  | [], _ => rfl
  | a :: r, k => by
    rw [idxN, List.any_cons]
    cases h : f a with
    | true => simp
    | false => simpa using idxN_ge f r (k + 1)
def sameN (sp nm : List UInt8) (a : At) : Bool := a.sp == sp && a.nm == nm
theorem attr1_L (a : At) (sp nm : List UInt8) : callL Tryd.prog (ext11b chk) 79 [.agg [.str a.sp, .str a.nm, .str a.vl], .fix (.agg [.str sp]) 0, .fix (.agg [.str nm]) 0] [] = some (.bool (sameN sp nm a), [.no], []) := by
  unfold sameN
  obtain ⟨a1, a2, a3⟩ := a
  simp only []
  cases h1 : (a1 == sp) with
  | false =>
    refine callK (m := 15) (res := [4]) (rs := [.tmp 4]) rfl Tryd.func79 rfl rfl rfl rfl rfl ?_
    repeat' (first
    | simp only [*, guardG, opG, inB, sval, stake, eats, eaters, get, cval, cval1, croom, St.taken, endQ, endR, endV, rvars, rvar, room1, ↓reduceIte, Nat.reduceEqDiff, Nat.reduceLT, List.filterMap_cons, List.filterMap_nil, Option.bind_some, Option.map_some, List.getElem?_cons_zero, List.getElem?_cons_succ, List.getD_cons_zero, List.getD_cons_succ, List.contains_cons, List.contains_nil, List.map_nil, beq_self_eq_true, Nat.reduceBEq, dbin, dIntBin, pureB, leaf, leafN, List.all_cons, List.all_nil, List.append_nil, List.take_nil, List.length_nil, List.length_cons, List.getElem?_nil, dcells, Nat.reduceAdd, stepBox, dStrBin, takes, given, oroom, vroom, stepTake, notAgg, ite_self, AVB]
    | (refine drW_intro (by kernel_rfl) ?_)
    | (refine gw_intro (fun h => ?_) (fun h => ?_) <;> (try simp only [beq_true, beq_false, Bool.not_eq_eq_eq_not, Bool.not_true, Bool.not_false, Bool.not_not, decide_eq_true_eq, decide_eq_false_iff_not, ge_iff_le, gt_iff_lt] at h)))
  | true =>
    cases h2 : (a2 == nm) with
    | false =>
      refine callK (m := 15) (res := [4]) (rs := [.tmp 4]) rfl Tryd.func79 rfl rfl rfl rfl rfl ?_
      repeat' (first
    | simp only [*, guardG, opG, inB, sval, stake, eats, eaters, get, cval, cval1, croom, St.taken, endQ, endR, endV, rvars, rvar, room1, ↓reduceIte, Nat.reduceEqDiff, Nat.reduceLT, List.filterMap_cons, List.filterMap_nil, Option.bind_some, Option.map_some, List.getElem?_cons_zero, List.getElem?_cons_succ, List.getD_cons_zero, List.getD_cons_succ, List.contains_cons, List.contains_nil, List.map_nil, beq_self_eq_true, Nat.reduceBEq, dbin, dIntBin, pureB, leaf, leafN, List.all_cons, List.all_nil, List.append_nil, List.take_nil, List.length_nil, List.length_cons, List.getElem?_nil, dcells, Nat.reduceAdd, stepBox, dStrBin, takes, given, oroom, vroom, stepTake, notAgg, ite_self, AVB]
    | (refine drW_intro (by kernel_rfl) ?_)
    | (refine gw_intro (fun h => ?_) (fun h => ?_) <;> (try simp only [beq_true, beq_false, Bool.not_eq_eq_eq_not, Bool.not_true, Bool.not_false, Bool.not_not, decide_eq_true_eq, decide_eq_false_iff_not, ge_iff_le, gt_iff_lt] at h)))
    | true =>
      refine callK (m := 15) (res := [4]) (rs := [.tmp 4]) rfl Tryd.func79 rfl rfl rfl rfl rfl ?_
      repeat' (first
    | simp only [*, guardG, opG, inB, sval, stake, eats, eaters, get, cval, cval1, croom, St.taken, endQ, endR, endV, rvars, rvar, room1, ↓reduceIte, Nat.reduceEqDiff, Nat.reduceLT, List.filterMap_cons, List.filterMap_nil, Option.bind_some, Option.map_some, List.getElem?_cons_zero, List.getElem?_cons_succ, List.getD_cons_zero, List.getD_cons_succ, List.contains_cons, List.contains_nil, List.map_nil, beq_self_eq_true, Nat.reduceBEq, dbin, dIntBin, pureB, leaf, leafN, List.all_cons, List.all_nil, List.append_nil, List.take_nil, List.length_nil, List.length_cons, List.getElem?_nil, dcells, Nat.reduceAdd, stepBox, dStrBin, takes, given, oroom, vroom, stepTake, notAgg, ite_self, AVB]
    | (refine drW_intro (by kernel_rfl) ?_)
    | (refine gw_intro (fun h => ?_) (fun h => ?_) <;> (try simp only [beq_true, beq_false, Bool.not_eq_eq_eq_not, Bool.not_true, Bool.not_false, Bool.not_not, decide_eq_true_eq, decide_eq_false_iff_not, ge_iff_le, gt_iff_lt] at h)))
set_option maxHeartbeats 4000000 in
theorem idxf_L (l : List At) (sp nm : List UInt8) (hl : l.length ≤ 1000000) : callL Tryd.prog (ext11b chk) 78 [.list (l.map At.d), .func (.func 79) [] [.fix (.agg [.str sp]) 0, .fix (.agg [.str nm]) 0]] [] = some (.int .i64 (idxN (sameN sp nm) 0 l), [.no], []) := by
  have lN := lenM l At.d
  refine callK (m := 19) (res := [4]) (rs := [.tmp 4]) rfl Tryd.func78 rfl rfl rfl rfl rfl ?_
  have HL := Hd.mk hl
  clear hl
  obtain ⟨R, hR⟩ : ∃ R, Hd (R = idxN (sameN sp nm) 0 l) := ⟨_, rfl⟩
  rw [← (show R = idxN (sameN sp nm) 0 l from hR)]
  repeat' (first
    | simp only [*, guardG, opG, inB, sval, stake, eats, eaters, get, cval, cval1, croom, St.taken, ↓reduceIte, Nat.reduceLT, reduceCtorEq, List.filterMap_cons, List.filterMap_nil, Option.map_some, Option.bind_none, List.getD_cons_zero, List.contains_cons, List.contains_nil, Nat.reduceBEq, List.append_nil, List.length_nil, ptrArgs, callArgs, vroom, Option.isSome_none, AVB]
    | (refine drW_intro (by kernel_rfl) ?_)
    | (refine gw_intro (fun h => ?_) (fun h => ?_) <;> (try simp only [beq_true, beq_false, Bool.not_eq_eq_eq_not, Bool.not_true, Bool.not_false, Bool.not_not, decide_eq_true_eq, decide_eq_false_iff_not, ge_iff_le, gt_iff_lt] at h)))
  refine loopH (fun st => ∃ i : Nat, i ≤ l.length ∧ st.slot 8 = .int .i64 i ∧ st.slot 7 = .int .i64 l.length ∧ st.slot 0 = .list (l.map At.d) ∧ st.slot 1 = .func (.func 79) [] [.fix (.agg [.str sp]) 0, .fix (.agg [.str nm]) 0] ∧ st.slot 4 = .int .i64 0 ∧ st.room 4 = [] ∧ Hd (R = idxN (sameN sp nm) i (l.drop i))) (fun st => l.length - slotI st 8) ?_ ?_
  · refine ⟨0, Nat.zero_le _, ?_, ?_, ?_, ?_, ?_, ?_, hR⟩
    all_goals simp only [*, put_slot, put_room, entry_slot, ↓reduceIte, Nat.reduceEqDiff, reduceCtorEq, List.getD_cons_zero, List.getD_cons_succ]
    all_goals rfl
  · rintro st K ⟨i, hi, g0, g1, g2, g3, g4, g5, hO⟩ hn hx hr
    have hl : l.length ≤ 1000000 := HL
    have hO' : R = idxN (sameN sp nm) i (l.drop i) := hO
    by_cases h : i < l.length
    · have g9 : (i : Int) < l.length := by omega
      have hw := wrapS i (by omega)
      obtain ⟨x, hx1⟩ := some_at h
      rw [idxN_at _ hx1] at hO'
      have ha := getD_map (f := At.d) hx1
      obtain ⟨a1, a2, a3⟩ := x
      have ha2 : (l.map At.d).getD i .bad = .agg [.str a1, .str a2, .str a3] := ha
      clear ha
      have hc : callL Tryd.prog (ext11b chk) 79 [.agg [.str a1, .str a2, .str a3], .fix (.agg [.str sp]) 0, .fix (.agg [.str nm]) 0] [] = some (.bool (sameN sp nm ⟨a1, a2, a3⟩), [.no], []) := attr1_L ⟨a1, a2, a3⟩ sp nm
      cases he : sameN sp nm ⟨a1, a2, a3⟩ with
      | true =>
        rw [he] at hO' hc
        rw [if_pos rfl] at hO'
        subst hO'
        clear hO hn hx hl hx1 hR
        repeat' (first
    | simp only [*, guardG, opG, inB, sval, stake, eats, eaters, get, St.taken, ↓reduceIte, Nat.reduceEqDiff, Nat.reduceLT, reduceCtorEq, List.filterMap_cons, List.filterMap_nil, Option.bind_some, Option.map_some, List.contains_cons, List.contains_nil, List.map_cons, List.map_nil, beq_self_eq_true, Nat.reduceBEq, dbin, dIntBin, okR, callG, pureB, leaf, leafN, List.all_cons, List.all_nil, List.nil_append, List.cons_append, List.append_nil, List.length_nil, List.length_cons, dcells, Nat.reduceAdd, takes, ptrArgs, callArgs, Option.isSome_none, AVB]
    | (refine drW_intro (by kernel_rfl) ?_)
    | (refine gw_intro (fun h => ?_) (fun h => ?_) <;> (try simp only [beq_true, beq_false, Bool.not_eq_eq_eq_not, Bool.not_true, Bool.not_false, Bool.not_not, decide_eq_true_eq, decide_eq_false_iff_not, ge_iff_le, gt_iff_lt] at h)))
        refine hr _ ?_
        repeat' (first
    | simp only [*, put_slot, put_room, put_box, dem_box, endQ, endR, endV, rvars, rvar, room1, ↓reduceIte, List.map_nil, pureB, leaf, leafN, List.take_nil, List.range_zero, and_self, notAgg]
    | (refine drW_intro (by kernel_rfl) ?_)
    | (refine gw_intro (fun h => ?_) (fun h => ?_) <;> (try simp only [beq_true, beq_false, Bool.not_eq_eq_eq_not, Bool.not_true, Bool.not_false, Bool.not_not, decide_eq_true_eq, decide_eq_false_iff_not, ge_iff_le, gt_iff_lt] at h)))
      | false =>
        rw [he] at hO' hc
        rw [if_neg (by decide)] at hO'
        have HO := Hd.mk hO'
        clear hO hO' hx hr hl hx1
        repeat' (first
    | simp only [*, guardG, opG, inB, sval, stake, eats, eaters, get, cval, cval1, St.taken, ↓reduceIte, Nat.reduceEqDiff, Nat.reduceLT, reduceCtorEq, List.filterMap_cons, List.filterMap_nil, Option.bind_some, Option.map_some, List.contains_cons, List.contains_nil, List.map_cons, List.map_nil, beq_self_eq_true, Nat.reduceBEq, dbin, dIntBin, okR, callG, pureB, leaf, leafN, List.all_cons, List.all_nil, List.nil_append, List.cons_append, List.append_nil, List.length_nil, List.length_cons, dcells, Nat.reduceAdd, takes, ptrArgs, callArgs, Option.isSome_none, AVB]
    | (refine drW_intro (by kernel_rfl) ?_)
    | (refine gw_intro (fun h => ?_) (fun h => ?_) <;> (try simp only [beq_true, beq_false, Bool.not_eq_eq_eq_not, Bool.not_true, Bool.not_false, Bool.not_not, decide_eq_true_eq, decide_eq_false_iff_not, ge_iff_le, gt_iff_lt] at h)))
        refine hn _ ⟨i + 1, h, ?_, ?_, ?_, ?_, ?_, ?_, HO⟩ ?_
        · simp only [*, put_slot, ↓reduceIte]
        · simp only [*, put_slot, dem_slot, ↓reduceIte, Nat.reduceEqDiff]
        · simp only [*, put_slot, dem_slot, ↓reduceIte, reduceCtorEq]
        · simp only [*, put_slot, dem_slot, ↓reduceIte, Nat.reduceEqDiff]
        · simp only [*, put_slot, dem_slot, ↓reduceIte, Nat.reduceEqDiff]
        · simp only [*, put_room, dem_room, ↓reduceIte, Nat.reduceEqDiff]
        · simp only [slotI, *, put_slot, ↓reduceIte, Int.toNat_natCast]
          omega
    · have g9 : ¬ (i : Int) < l.length := by omega
      rw [idxN_end _ (by omega)] at hO'
      subst hO'
      clear hO hn hr hl hR
      repeat' (first
    | simp only [*, guardG, opG, inB, sval, stake, eats, eaters, get, ↓reduceIte, Nat.reduceLT, List.filterMap_cons, List.filterMap_nil, Option.map_some, List.contains_cons, List.contains_nil, dbin, dIntBin, List.append_nil, AVB]
    | (refine drW_intro (by kernel_rfl) ?_)
    | (refine gw_intro (fun h => ?_) (fun h => ?_) <;> (try simp only [beq_true, beq_false, Bool.not_eq_eq_eq_not, Bool.not_true, Bool.not_false, Bool.not_not, decide_eq_true_eq, decide_eq_false_iff_not, ge_iff_le, gt_iff_lt] at h)))
      refine hx _ _ ?_
      repeat' (first
    | simp only [*, guardG, opG, inB, sval, stake, eats, eaters, get, cval, cval1, croom, endQ, endR, endV, rvars, rvar, room1, ↓reduceIte, Nat.reduceLT, List.filterMap_cons, List.filterMap_nil, List.contains_cons, List.contains_nil, List.map_nil, pureB, leaf, leafN, List.append_nil, List.take_nil, vroom, notAgg, AVB]
    | (refine drW_intro (by kernel_rfl) ?_)
    | (refine gw_intro (fun h => ?_) (fun h => ?_) <;> (try simp only [beq_true, beq_false, Bool.not_eq_eq_eq_not, Bool.not_true, Bool.not_false, Bool.not_not, decide_eq_true_eq, decide_eq_false_iff_not, ge_iff_le, gt_iff_lt] at h)))
theorem attr_L (l : List At) (sp nm : List UInt8) (hl : l.length ≤ 1000000) : callL Tryd.prog (ext11b chk) 70 [.list (l.map At.d), .str sp, .str nm] [] = some (.int .i64 (idxN (sameN sp nm) 0 l), [.no], []) := by
  have h := idxf_L (chk := chk) l sp nm hl
  clear hl
  generalize idxN (sameN sp nm) 0 l = R at *
  generalize l.map At.d = L at *
  refine callK (m := 10) (res := [6]) (rs := [.tmp 6]) rfl Tryd.func70 rfl rfl rfl rfl rfl ?_
  repeat' (first
    | simp only [*, upd, guardG, opG, inB, sval, stake, eats, eaters, get, cval, cval1, croom, St.taken, endQ, endR, endV, rvars, rvar, room1, ↓reduceIte, Nat.reduceEqDiff, Nat.reduceLT, reduceCtorEq, List.filterMap_cons, List.filterMap_nil, Option.bind_some, List.getD_cons_zero, List.getD_cons_succ, List.contains_cons, List.contains_nil, List.map_cons, List.map_nil, beq_self_eq_true, Nat.reduceBEq, okR, callG, frzD, pureB, leaf, leafN, List.all_cons, List.all_nil, List.nil_append, List.append_nil, List.take_nil, List.length_nil, List.length_cons, List.getElem?_nil, List.take_succ_cons, dcells, Nat.reduceAdd, stepBox, St.freeze, ptrArgs, callArgs, given, oroom, vroom, Option.isSome_none, notAgg, ite_self, AVB]
    | (refine drW_intro (by kernel_rfl) ?_)
    | (refine gw_intro (fun h => ?_) (fun h => ?_) <;> (try simp only [beq_true, beq_false, Bool.not_eq_eq_eq_not, Bool.not_true, Bool.not_false, Bool.not_not, decide_eq_true_eq, decide_eq_false_iff_not, ge_iff_le, gt_iff_lt] at h)))
set_option maxHeartbeats 4000000 in
theorem index_L (l : List (List UInt8)) (v : List UInt8) (hl : l.length ≤ 1000000) : callL Tryd.prog (ext11b chk) 80 [.list (l.map D.str), .str v] [] = some (.int .i64 (idxN (v == ·) 0 l), [.no], []) := by
  have lN := lenM l D.str
  refine callK (m := 19) (res := [4]) (rs := [.tmp 4]) rfl Tryd.func80 rfl rfl rfl rfl rfl ?_
  have HL := Hd.mk hl
  clear hl
  obtain ⟨R, hR⟩ : ∃ R, Hd (R = idxN (v == ·) 0 l) := ⟨_, rfl⟩
  rw [← (show R = idxN (v == ·) 0 l from hR)]
  repeat' (first
    | simp only [*, guardG, opG, inB, sval, stake, eats, eaters, get, cval, cval1, croom, St.taken, ↓reduceIte, Nat.reduceLT, reduceCtorEq, List.filterMap_cons, List.filterMap_nil, Option.map_some, Option.bind_none, List.getD_cons_zero, List.contains_cons, List.contains_nil, Nat.reduceBEq, List.append_nil, List.length_nil, ptrArgs, callArgs, vroom, Option.isSome_none, AVB]
    | (refine drW_intro (by kernel_rfl) ?_)
    | (refine gw_intro (fun h => ?_) (fun h => ?_) <;> (try simp only [beq_true, beq_false, Bool.not_eq_eq_eq_not, Bool.not_true, Bool.not_false, Bool.not_not, decide_eq_true_eq, decide_eq_false_iff_not, ge_iff_le, gt_iff_lt] at h)))
  refine loopH (fun st => ∃ i : Nat, i ≤ l.length ∧ st.slot 8 = .int .i64 i ∧ st.slot 7 = .int .i64 l.length ∧ st.slot 0 = .list (l.map D.str) ∧ st.slot 1 = .str v ∧ st.slot 4 = .int .i64 0 ∧ st.room 4 = [] ∧ Hd (R = idxN (v == ·) i (l.drop i))) (fun st => l.length - slotI st 8) ?_ ?_
  · refine ⟨0, Nat.zero_le _, ?_, ?_, ?_, ?_, ?_, ?_, hR⟩
    all_goals simp only [*, put_slot, put_room, entry_slot, ↓reduceIte, Nat.reduceEqDiff, reduceCtorEq, List.getD_cons_zero, List.getD_cons_succ]
    all_goals rfl
  · rintro st K ⟨i, hi, g0, g1, g2, g3, g4, g5, hO⟩ hn hx hr
    have hl : l.length ≤ 1000000 := HL
    have hO' : R = idxN (v == ·) i (l.drop i) := hO
    by_cases h : i < l.length
    · have g9 : (i : Int) < l.length := by omega
      have hw := wrapS i (by omega)
      obtain ⟨x, hx1⟩ := some_at h
      rw [idxN_at _ hx1] at hO'
      have ha := getD_map (f := D.str) hx1
      cases he : (v == x) with
      | true =>
        rw [he] at hO'
        rw [if_pos rfl] at hO'
        subst hO'
        clear hO hn hx hl hx1 hR
        repeat' (first
    | simp only [*, guardG, opG, inB, sval, stake, eats, eaters, get, St.taken, ↓reduceIte, Nat.reduceEqDiff, Nat.reduceLT, reduceCtorEq, List.filterMap_cons, List.filterMap_nil, Option.map_some, List.getElem?_cons_zero, List.contains_cons, List.contains_nil, beq_self_eq_true, Nat.reduceBEq, dbin, dIntBin, List.append_nil, List.length_nil, List.length_cons, dcells, dStrBin, takes, AVB]
    | (refine drW_intro (by kernel_rfl) ?_)
    | (refine gw_intro (fun h => ?_) (fun h => ?_) <;> (try simp only [beq_true, beq_false, Bool.not_eq_eq_eq_not, Bool.not_true, Bool.not_false, Bool.not_not, decide_eq_true_eq, decide_eq_false_iff_not, ge_iff_le, gt_iff_lt] at h)))
        refine hr _ ?_
        repeat' (first
    | simp only [*, put_slot, put_room, put_box, dem_box, endQ, endR, endV, rvars, rvar, room1, ↓reduceIte, List.map_nil, pureB, leaf, leafN, List.take_nil, List.range_zero, and_self, notAgg]
    | (refine drW_intro (by kernel_rfl) ?_)
    | (refine gw_intro (fun h => ?_) (fun h => ?_) <;> (try simp only [beq_true, beq_false, Bool.not_eq_eq_eq_not, Bool.not_true, Bool.not_false, Bool.not_not, decide_eq_true_eq, decide_eq_false_iff_not, ge_iff_le, gt_iff_lt] at h)))
      | false =>
        rw [he] at hO'
        rw [if_neg (by decide)] at hO'
        have HO := Hd.mk hO'
        clear hO hO' hx hr hl hx1
        repeat' (first
    | simp only [*, guardG, opG, inB, sval, stake, eats, eaters, get, cval, cval1, St.taken, ↓reduceIte, Nat.reduceEqDiff, Nat.reduceLT, reduceCtorEq, List.filterMap_cons, List.filterMap_nil, Option.map_some, List.getElem?_cons_zero, List.contains_cons, List.contains_nil, beq_self_eq_true, Nat.reduceBEq, dbin, dIntBin, List.append_nil, List.length_nil, List.length_cons, dcells, dStrBin, takes, AVB]
    | (refine drW_intro (by kernel_rfl) ?_)
    | (refine gw_intro (fun h => ?_) (fun h => ?_) <;> (try simp only [beq_true, beq_false, Bool.not_eq_eq_eq_not, Bool.not_true, Bool.not_false, Bool.not_not, decide_eq_true_eq, decide_eq_false_iff_not, ge_iff_le, gt_iff_lt] at h)))
        refine hn _ ⟨i + 1, h, ?_, ?_, ?_, ?_, ?_, ?_, HO⟩ ?_
        · simp only [*, put_slot, ↓reduceIte]
        · simp only [*, put_slot, dem_slot, ↓reduceIte, Nat.reduceEqDiff]
        · simp only [*, put_slot, dem_slot, ↓reduceIte, reduceCtorEq]
        · simp only [*, put_slot, dem_slot, ↓reduceIte, Nat.reduceEqDiff]
        · simp only [*, put_slot, dem_slot, ↓reduceIte, Nat.reduceEqDiff]
        · simp only [*, put_room, dem_room, ↓reduceIte, Nat.reduceEqDiff]
        · simp only [slotI, *, put_slot, ↓reduceIte, Int.toNat_natCast]
          omega
    · have g9 : ¬ (i : Int) < l.length := by omega
      rw [idxN_end _ (by omega)] at hO'
      subst hO'
      clear hO hn hr hl hR
      repeat' (first
    | simp only [*, guardG, opG, inB, sval, stake, eats, eaters, get, ↓reduceIte, Nat.reduceLT, List.filterMap_cons, List.filterMap_nil, Option.map_some, List.contains_cons, List.contains_nil, dbin, dIntBin, List.append_nil, AVB]
    | (refine drW_intro (by kernel_rfl) ?_)
    | (refine gw_intro (fun h => ?_) (fun h => ?_) <;> (try simp only [beq_true, beq_false, Bool.not_eq_eq_eq_not, Bool.not_true, Bool.not_false, Bool.not_not, decide_eq_true_eq, decide_eq_false_iff_not, ge_iff_le, gt_iff_lt] at h)))
      refine hx _ _ ?_
      repeat' (first
    | simp only [*, guardG, opG, inB, sval, stake, eats, eaters, get, cval, cval1, croom, endQ, endR, endV, rvars, rvar, room1, ↓reduceIte, Nat.reduceLT, List.filterMap_cons, List.filterMap_nil, List.contains_cons, List.contains_nil, List.map_nil, pureB, leaf, leafN, List.append_nil, List.take_nil, vroom, notAgg, AVB]
    | (refine drW_intro (by kernel_rfl) ?_)
    | (refine gw_intro (fun h => ?_) (fun h => ?_) <;> (try simp only [beq_true, beq_false, Bool.not_eq_eq_eq_not, Bool.not_true, Bool.not_false, Bool.not_not, decide_eq_true_eq, decide_eq_false_iff_not, ge_iff_le, gt_iff_lt] at h)))
theorem any_contains (l : List (List UInt8)) (v : List UInt8) : l.any (v == ·) = l.contains v := by
  induction l with
  | nil => rfl
  | cons a r ih => rw [List.any_cons, ih, List.contains_cons]
theorem contains_L (l : List (List UInt8)) (v : List UInt8) (hl : l.length ≤ 1000000) : callL Tryd.prog (ext11b chk) 72 [.list (l.map D.str), .str v] [] = some (.bool (l.contains v), [.no], []) := by
  have h := index_L (chk := chk) l v hl
  rw [← any_contains, ← idxN_ge (v == ·) l 0]
  clear hl
  generalize idxN (v == ·) 0 l = R at *
  generalize l.map D.str = L at *
  refine callK (m := 9) (res := [4]) (rs := [.tmp 4]) rfl Tryd.func72 rfl rfl rfl rfl rfl ?_
  repeat' (first
    | simp only [*, guardG, opG, inB, sval, stake, eats, eaters, get, cval, cval1, croom, St.taken, endQ, endR, endV, rvars, rvar, room1, ↓reduceIte, Nat.reduceEqDiff, Nat.reduceLT, reduceCtorEq, List.filterMap_cons, List.filterMap_nil, Option.bind_some, Option.map_some, List.getD_cons_zero, List.getD_cons_succ, List.contains_cons, List.contains_nil, List.map_cons, List.map_nil, beq_self_eq_true, Nat.reduceBEq, dbin, dIntBin, okR, callG, pureB, leaf, leafN, List.all_cons, List.all_nil, List.nil_append, List.append_nil, List.take_nil, List.length_nil, List.getElem?_nil, ge_iff_le, ptrArgs, callArgs, vroom, Option.isSome_none, notAgg, ite_self, AVB]
    | (refine drW_intro (by kernel_rfl) ?_)
    | (refine gw_intro (fun h => ?_) (fun h => ?_) <;> (try simp only [beq_true, beq_false, Bool.not_eq_eq_eq_not, Bool.not_true, Bool.not_false, Bool.not_not, decide_eq_true_eq, decide_eq_false_iff_not, ge_iff_le, gt_iff_lt] at h)))
theorem dstate_L (s : List UInt8) : callL Tryd.prog (ext11b chk) 71 [.str s] [] = some (.bool (stS.contains s), [.no], []) := by
  have h : callL Tryd.prog (ext11b chk) 72 [.list stD, .str s] [] = some (.bool (stS.contains s), [.no], []) := contains_L (chk := chk) stS s (by decide)
  generalize stS.contains s = R at *
  refine callK (m := 6) (res := [2]) (rs := [.tmp 2]) rfl Tryd.func71 rfl rfl rfl rfl rfl ?_
  repeat' (first
    | simp only [*, guardG, opG, inB, sval, stake, eats, eaters, get, cval, cval1, croom, St.taken, endQ, endR, endV, rvars, rvar, room1, ↓reduceIte, Nat.reduceEqDiff, Nat.reduceLT, reduceCtorEq, List.filterMap_cons, List.filterMap_nil, Option.bind_some, Option.map_some, Option.map_none, List.getD_cons_zero, List.contains_cons, List.contains_nil, List.map_cons, List.map_nil, beq_self_eq_true, Nat.reduceBEq, okR, callG, pureB, leaf, leafN, List.all_cons, List.all_nil, List.nil_append, List.append_nil, List.take_nil, List.length_nil, List.getElem?_nil, List.take_succ_cons, ptrArgs, callArgs, vroom, Option.isSome_none, notAgg, ite_self, AVB]
    | (refine drW_intro (by kernel_rfl) ?_)
    | (refine gw_intro (fun h => ?_) (fun h => ?_) <;> (try simp only [beq_true, beq_false, Bool.not_eq_eq_eq_not, Bool.not_true, Bool.not_false, Bool.not_not, decide_eq_true_eq, decide_eq_false_iff_not, ge_iff_le, gt_iff_lt] at h)))
theorem any_contains2 (l : List (List UInt8)) (v : List UInt8) : l.any (· == v) = l.contains v := by
  rw [← any_contains]
  congr 1
  funext x
  rw [Bool.eq_iff_iff, beq_iff_eq, beq_iff_eq]
  exact eq_comm
set_option maxHeartbeats 4000000 in
theorem has_L (l : List (List UInt8)) (v : List UInt8) (hl : l.length ≤ 140737488355328) : callL Tryd.prog (ext11b chk) 45 [.list (l.map D.str), .str v] [] = some (.bool (l.contains v), [.no], []) := by
  have lN := lenM l D.str
  rw [← any_contains2]
  refine callK (m := 18) (res := [4]) (rs := [.tmp 4]) rfl Tryd.func45 rfl rfl rfl rfl rfl ?_
  have HL := Hd.mk hl
  clear hl
  obtain ⟨R, hR⟩ : ∃ R, Hd (R = l.any (· == v)) := ⟨_, rfl⟩
  rw [← (show R = l.any (· == v) from hR)]
  repeat' (first
    | simp only [*, guardG, opG, inB, sval, stake, eats, eaters, get, cval, cval1, croom, ↓reduceIte, Nat.reduceLT, List.filterMap_cons, List.filterMap_nil, List.contains_cons, List.contains_nil, List.append_nil, List.length_nil, vroom, AVB]
    | (refine drW_intro (by kernel_rfl) ?_)
    | (refine gw_intro (fun h => ?_) (fun h => ?_) <;> (try simp only [beq_true, beq_false, Bool.not_eq_eq_eq_not, Bool.not_true, Bool.not_false, Bool.not_not, decide_eq_true_eq, decide_eq_false_iff_not, ge_iff_le, gt_iff_lt] at h)))
  refine loopH (fun st => ∃ i : Nat, i ≤ l.length ∧ st.slot 5 = .int .i64 i ∧ st.slot 0 = .list (l.map D.str) ∧ st.slot 1 = .str v ∧ st.slot 4 = .bool false ∧ st.room 4 = [] ∧ Hd (R = (l.drop i).any (· == v))) (fun st => l.length - slotI st 5) ?_ ?_
  · refine ⟨0, Nat.zero_le _, ?_, ?_, ?_, ?_, ?_, hR⟩
    all_goals simp only [*, put_slot, put_room, entry_slot, ↓reduceIte, Nat.reduceEqDiff, reduceCtorEq, List.getD_cons_zero, List.getD_cons_succ]
    all_goals rfl
  · rintro st K ⟨i, hi, g0, g1, g2, g3, g4, hO⟩ hn hx hr
    have hl : l.length ≤ 140737488355328 := HL
    have hO' : R = (l.drop i).any (· == v) := hO
    by_cases h : i < l.length
    · have g9 : (i : Int) < l.length := by omega
      have hw := wrapS i (by omega)
      obtain ⟨x, hx1⟩ := some_at h
      rw [any_drop _ hx1] at hO'
      have ha := getD_map (f := D.str) hx1
      cases he : (x == v) with
      | true =>
        rw [he, Bool.true_or] at hO'
        subst hO'
        clear hO hn hx hl hx1 hR
        repeat' (first
    | simp only [*, guardG, opG, inB, sval, stake, eats, eaters, get, cval, cval1, croom, St.taken, ↓reduceIte, Nat.reduceEqDiff, Nat.reduceLT, reduceCtorEq, List.filterMap_cons, List.filterMap_nil, Option.map_some, Option.bind_none, List.getElem?_cons_zero, List.contains_cons, List.contains_nil, Nat.reduceBEq, dbin, dIntBin, List.append_nil, List.length_nil, List.length_cons, dcells, dStrBin, takes, ptrArgs, callArgs, vroom, Option.isSome_none, AVB]
    | (refine drW_intro (by kernel_rfl) ?_)
    | (refine gw_intro (fun h => ?_) (fun h => ?_) <;> (try simp only [beq_true, beq_false, Bool.not_eq_eq_eq_not, Bool.not_true, Bool.not_false, Bool.not_not, decide_eq_true_eq, decide_eq_false_iff_not, ge_iff_le, gt_iff_lt] at h)))
        refine hr _ ?_
        repeat' (first
    | simp only [*, put_slot, put_room, put_box, endQ, endR, endV, rvars, rvar, room1, ↓reduceIte, List.map_nil, pureB, leaf, leafN, List.take_nil, List.range_zero, and_self, notAgg]
    | (refine drW_intro (by kernel_rfl) ?_)
    | (refine gw_intro (fun h => ?_) (fun h => ?_) <;> (try simp only [beq_true, beq_false, Bool.not_eq_eq_eq_not, Bool.not_true, Bool.not_false, Bool.not_not, decide_eq_true_eq, decide_eq_false_iff_not, ge_iff_le, gt_iff_lt] at h)))
      | false =>
        rw [he, Bool.false_or] at hO'
        have HO := Hd.mk hO'
        clear hO hO' hx hr hl hx1
        repeat' (first
    | simp only [*, guardG, opG, inB, sval, stake, eats, eaters, get, cval, cval1, St.taken, ↓reduceIte, Nat.reduceEqDiff, Nat.reduceLT, reduceCtorEq, List.filterMap_cons, List.filterMap_nil, Option.map_some, Option.bind_none, List.getElem?_cons_zero, List.contains_cons, List.contains_nil, beq_self_eq_true, Nat.reduceBEq, dbin, dIntBin, List.append_nil, List.length_nil, List.length_cons, dcells, dStrBin, takes, ptrArgs, callArgs, Option.isSome_none, AVB]
    | (refine drW_intro (by kernel_rfl) ?_)
    | (refine gw_intro (fun h => ?_) (fun h => ?_) <;> (try simp only [beq_true, beq_false, Bool.not_eq_eq_eq_not, Bool.not_true, Bool.not_false, Bool.not_not, decide_eq_true_eq, decide_eq_false_iff_not, ge_iff_le, gt_iff_lt] at h)))
        refine hn _ ⟨i + 1, h, ?_, ?_, ?_, ?_, ?_, HO⟩ ?_
        · simp only [*, put_slot, ↓reduceIte]
        · simp only [*, put_slot, dem_slot, ↓reduceIte, reduceCtorEq]
        · simp only [*, put_slot, dem_slot, ↓reduceIte, Nat.reduceEqDiff]
        · simp only [*, put_slot, dem_slot, ↓reduceIte, Nat.reduceEqDiff]
        · simp only [*, put_room, dem_room, ↓reduceIte, Nat.reduceEqDiff]
        · simp only [slotI, *, put_slot, ↓reduceIte, Int.toNat_natCast]
          omega
    · have g9 : ¬ (i : Int) < l.length := by omega
      rw [any_end _ (by omega)] at hO'
      subst hO'
      clear hO hn hr hl hR
      repeat' (first
    | simp only [*, guardG, opG, inB, sval, stake, eats, eaters, get, St.taken, ↓reduceIte, Nat.reduceEqDiff, Nat.reduceLT, reduceCtorEq, List.filterMap_cons, List.filterMap_nil, Option.map_some, Option.bind_none, List.contains_cons, List.contains_nil, Nat.reduceBEq, dbin, dIntBin, List.append_nil, ptrArgs, callArgs, Option.isSome_none, AVB]
    | (refine drW_intro (by kernel_rfl) ?_)
    | (refine gw_intro (fun h => ?_) (fun h => ?_) <;> (try simp only [beq_true, beq_false, Bool.not_eq_eq_eq_not, Bool.not_true, Bool.not_false, Bool.not_not, decide_eq_true_eq, decide_eq_false_iff_not, ge_iff_le, gt_iff_lt] at h)))
      refine hx _ _ ?_
      repeat' (first
    | simp only [*, guardG, opG, inB, sval, stake, eats, eaters, get, cval, cval1, croom, endQ, endR, endV, rvars, rvar, room1, ↓reduceIte, Nat.reduceLT, List.filterMap_cons, List.filterMap_nil, List.contains_cons, List.contains_nil, List.map_nil, pureB, leaf, leafN, List.append_nil, List.take_nil, vroom, notAgg, AVB]
    | (refine drW_intro (by kernel_rfl) ?_)
    | (refine gw_intro (fun h => ?_) (fun h => ?_) <;> (try simp only [beq_true, beq_false, Bool.not_eq_eq_eq_not, Bool.not_true, Bool.not_false, Bool.not_not, decide_eq_true_eq, decide_eq_false_iff_not, ge_iff_le, gt_iff_lt] at h)))
def stL : List D := stS.map .str
theorem bs24s : dbuildSlice Tryd.prog 26 10 [(0, .str [104, 111, 118, 101, 114]), (1, .str [97, 99, 116, 105, 118, 101]), (2, .str [102, 111, 99, 117, 115]), (3, .str [102, 111, 99, 117, 115, 45, 118, 105, 115, 105, 98, 108, 101]), (4, .str [118, 105, 115, 105, 116, 101, 100]), (5, .str [108, 105, 110, 107]), (6, .str [99, 104, 101, 99, 107, 101, 100]), (7, .str [100, 105, 115, 97, 98, 108, 101, 100]), (8, .str [101, 110, 97, 98, 108, 101, 100]), (9, .str [116, 97, 114, 103, 101, 116])] = some (.list stL) := by kernel_rfl
theorem rstate_L (s : List UInt8) : callL Tryd.prog (ext11b chk) 44 [.str s] [] = some (.bool (stS.contains s), [.no], []) := by
  have h : callL Tryd.prog (ext11b chk) 45 [.list stL, .str s] [] = some (.bool (stS.contains s), [.no], []) := has_L (chk := chk) stS s (by decide)
  generalize stS.contains s = R at *
  refine callK (m := 6) (res := [2]) (rs := [.tmp 2]) rfl Tryd.func44 rfl rfl rfl rfl rfl ?_
  repeat' (first
    | simp only [*, bs24s, guardG, opG, inB, sval, stake, eats, eaters, get, cval, cval1, croom, St.taken, endQ, endR, endV, rvars, rvar, room1, ↓reduceIte, Nat.reduceEqDiff, Nat.reduceLT, reduceCtorEq, List.filterMap_cons, List.filterMap_nil, Option.bind_some, Option.map_some, List.getD_cons_zero, List.contains_cons, List.contains_nil, List.map_cons, List.map_nil, beq_self_eq_true, Nat.reduceBEq, okR, callG, pureB, leaf, leafN, List.all_cons, List.all_nil, List.nil_append, List.append_nil, List.take_nil, List.length_nil, List.getElem?_nil, List.take_succ_cons, ptrArgs, callArgs, vroom, Option.isSome_none, notAgg, ite_self, AVB]
    | (refine drW_intro (by kernel_rfl) ?_)
    | (refine gw_intro (fun h => ?_) (fun h => ?_) <;> (try simp only [beq_true, beq_false, Bool.not_eq_eq_eq_not, Bool.not_true, Bool.not_false, Bool.not_not, decide_eq_true_eq, decide_eq_false_iff_not, ge_iff_le, gt_iff_lt] at h)))
end Go.Av
